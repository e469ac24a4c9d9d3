/-
  Texts that break rules: what the parser says of them (the kernel runs it).
-/
import Derived.Test.YtpchhblgilfejaaParWorld
import Derived.KernelRfl
set_option autoImplicit false
set_option maxRecDepth 1000000
set_option maxHeartbeats 0
namespace Go.Proofs.Ytpchhblgilfejaa
open Go Go.Abs
theorem tw_5 : errOf ((lvl w0 900).1 8 [.ref 1 0 24 1] [.fz (sF twL), .fz (byteF ⟨#[102, 117, 110, 99, 32, 64, 102, 40, 41, 32, 123, 32, 114, 101, 116, 117, 114, 110, 32, 37, 97, 59, 32, 125]⟩)]) = some (8, 8) := by kernel_rfl
theorem tw_6 : errOf ((lvl w0 900).1 8 [.ref 1 0 24 1] [.fz (sF twL), .fz (byteF ⟨#[102, 117, 110, 99, 32, 64, 102, 40, 41, 32, 123, 32, 114, 101, 116, 117, 114, 110, 32, 36, 97, 59, 32, 125]⟩)]) = some (8, 8) := by kernel_rfl
theorem tw_7 : errOf ((lvl w0 900).1 8 [.ref 1 0 19 1] [.fz (sF twL), .fz (byteF ⟨#[102, 117, 110, 99, 32, 64, 102, 40, 41, 32, 123, 32, 64, 103, 40, 41, 59, 32, 125]⟩)]) = some (8, 8) := by kernel_rfl
end Go.Proofs.Ytpchhblgilfejaa
