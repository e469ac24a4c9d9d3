/-
  The document's example (the kernel runs it).
-/
import Derived.Test.YtpchhblgilfejaaParWorld
import Derived.KernelRfl
set_option autoImplicit false
set_option maxRecDepth 1000000
set_option maxHeartbeats 0
namespace Go.Proofs.Ytpchhblgilfejaa
open Go Go.Abs
theorem aw : (lvl w0 900).1 7 [] [] = some (.ret (B true), []) := by kernel_rfl
end Go.Proofs.Ytpchhblgilfejaa
