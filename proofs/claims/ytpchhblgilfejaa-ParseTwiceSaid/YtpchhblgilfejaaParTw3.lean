/-
  Texts that break rules: what the parser says of them (the kernel runs it).
-/
import Derived.Test.YtpchhblgilfejaaParWorld
import Derived.KernelRfl
set_option autoImplicit false
set_option maxRecDepth 1000000
set_option maxHeartbeats 0
namespace Go.Proofs.Ytpchhblgilfejaa
open Go Go.Abs
theorem tw_8 : errOf ((lvl w0 900).1 8 [.ref 1 0 9 1] [.fz (sF twL), .fz (byteF ⟨#[101, 110, 116, 114, 121, 32, 64, 102, 59]⟩)]) = some (8, 5) := by kernel_rfl
theorem tw_9 : errOf ((lvl w0 900).1 8 [.ref 1 0 21 1] [.fz (sF twL), .fz (byteF ⟨#[102, 117, 110, 99, 32, 64, 102, 40, 37, 97, 41, 32, 123, 32, 64, 102, 40, 41, 59, 32, 125]⟩)]) = some (8, 9) := by kernel_rfl
theorem tw_10 : errOf ((lvl w0 900).1 8 [.ref 1 0 31 1] [.fz (sF twL), .fz (byteF ⟨#[102, 117, 110, 99, 32, 64, 102, 40, 41, 32, 123, 32, 118, 97, 114, 32, 37, 120, 59, 32, 37, 120, 32, 61, 32, 38, 35, 120, 59, 32, 125]⟩)]) = some (8, 8) := by kernel_rfl
end Go.Proofs.Ytpchhblgilfejaa
