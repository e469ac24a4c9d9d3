/-
  Texts that break rules: what the parser says of them (the kernel runs it).
-/
import Derived.Test.YtpchhblgilfejaaParWorld
import Derived.KernelRfl
set_option autoImplicit false
set_option maxRecDepth 1000000
set_option maxHeartbeats 0
namespace Go.Proofs.Ytpchhblgilfejaa
open Go Go.Abs
theorem tw_3 : errOf ((lvl w0 900).1 8 [.ref 1 0 31 1] [.fz (sF twL), .fz (byteF ⟨#[102, 117, 110, 99, 32, 64, 102, 40, 41, 32, 123, 32, 115, 105, 116, 101, 32, 35, 104, 59, 32, 115, 105, 116, 101, 32, 35, 104, 59, 32, 125]⟩)]) = some (8, 3) := by kernel_rfl
theorem tw_4 : errOf ((lvl w0 900).1 8 [.ref 1 0 33 1] [.fz (sF twL), .fz (byteF ⟨#[102, 117, 110, 99, 32, 64, 102, 40, 41, 32, 123, 32, 125, 32, 101, 110, 116, 114, 121, 32, 64, 102, 59, 32, 101, 110, 116, 114, 121, 32, 64, 102, 59]⟩)]) = some (8, 3) := by kernel_rfl
end Go.Proofs.Ytpchhblgilfejaa
