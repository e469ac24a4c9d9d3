/-
  canon of drafts: the law.
-/
import Derived.Test.YtjefolfbdohkcaaCanTurn
import Derived.Test.YtjefolfbdohkcaaDraftArgs
import Derived.Test.YtjefolfbdohkcaaCanSort
import Derived.Test.YtjefolfbdohkcaaAbsRowS
set_option autoImplicit false
set_option linter.unusedVariables false
set_option linter.unusedSimpArgs false
namespace Go.Proofs.Ytjefolfbdohkcaa
open Go Go.Abs
theorem saidV_len (n : Nat) (v : V) (M : Abs.Mod) : (saidV n v M).length = 4 := rfl
theorem saidV_take (n : Nat) (v : V) (M : Abs.Mod) : (List.drop 0 (saidV n v M)).take 4 = saidV n v M := rfl
theorem modV_take (m : Abs.Mod) : (List.drop 0 (modV m)).take 4 = modV m := rfl
theorem cL4 (m : Abs.Mod) (K : Nat → List F → Nat → List F → Nat → List F → Nat → List F → R) : (cL (modV m) 0 fun a b => cL (modV m) 1 fun c d => cL (modV m) 2 fun p q => cL (modV m) 3 fun r s => if (modV m).length = 4 then K a b c d p q r s else none) =
    K m.strings.length (sF m.strings) m.globals.length (kF .i64 m.globals) m.funcs.length (funsF m.funcs) m.entries.length (kF .i64 m.entries) := rfl
end Go.Proofs.Ytjefolfbdohkcaa
/-
  canon of drafts: whatever comes in.
-/
namespace Go.Proofs.Ytjefolfbdohkcaa
open Go Go.Abs
end Go.Proofs.Ytjefolfbdohkcaa
/-
  canon of drafts: what is handed in stays: the law.
-/
namespace Go.Proofs.Ytjefolfbdohkcaa
open Go Go.Abs
section
variable (g f e : Nat) (hg : g < 256) (hf : f < 256) (he : e < 256) (acts : List MAct) (hn : acts.length ≤ 60) (hx : ∀ x ∈ acts, x.ok) (turn : Nat) (ht : turn < 256) (more : List ByteArray) (hmo : more.length ≤ 10)
include hg hf he hn hx ht hmo
end
end Go.Proofs.Ytjefolfbdohkcaa
/-
  canon of any module: the law.
-/
namespace Go.Proofs.Ytjefolfbdohkcaa
open Go Go.Abs
/-! ### modules that come in -/
/-! ### the guard -/
/-! ### behind the guard -/
end Go.Proofs.Ytjefolfbdohkcaa
