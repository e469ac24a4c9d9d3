/-
  Texts that break rules: what the parser says of them (the kernel runs it).
-/
import Derived.Test.YtpchhblgilfejaaParWorld
import Derived.KernelRfl
set_option autoImplicit false
set_option maxRecDepth 1000000
set_option maxHeartbeats 0
namespace Go.Proofs.Ytpchhblgilfejaa
open Go Go.Abs
theorem tw_0 : errOf ((lvl w0 900).1 8 [.ref 1 0 21 1] [.fz (sF twL), .fz (byteF ⟨#[103, 108, 111, 98, 97, 108, 32, 36, 97, 59, 32, 103, 108, 111, 98, 97, 108, 32, 36, 97, 59]⟩)]) = some (8, 3) := by kernel_rfl
theorem tw_1 : errOf ((lvl w0 900).1 8 [.ref 1 0 27 1] [.fz (sF twL), .fz (byteF ⟨#[102, 117, 110, 99, 32, 64, 102, 40, 41, 32, 123, 32, 125, 32, 102, 117, 110, 99, 32, 64, 102, 40, 41, 32, 123, 32, 125]⟩)]) = some (8, 3) := by kernel_rfl
theorem tw_2 : errOf ((lvl w0 900).1 8 [.ref 1 0 19 1] [.fz (sF twL), .fz (byteF ⟨#[102, 117, 110, 99, 32, 64, 102, 40, 37, 97, 44, 32, 37, 97, 41, 32, 123, 32, 125]⟩)]) = some (8, 3) := by kernel_rfl
end Go.Proofs.Ytpchhblgilfejaa
