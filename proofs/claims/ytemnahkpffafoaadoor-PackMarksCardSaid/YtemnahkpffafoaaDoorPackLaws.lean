/-
  Laws of the bytes of modules.
-/
import Derived.Test.YtemnahkpffafoaaDoorPackDec
import Derived.Test.YtemnahkpffafoaaDoorDraftArgs
import Derived.Test.YtemnahkpffafoaaDoorGlobOk
set_option autoImplicit false
set_option linter.unusedVariables false
set_option linter.unusedSimpArgs false
namespace Go.Proofs.YtemnahkpffafoaaDoor
open Go Go.Abs
theorem lay_of {m : Mod} (h : checkR m = none) {h0 : H} : run w0 13 [.agg (modV m)] h0 = some (.ret (.ref h0.length 0 (markB ++ packB m).length 1), h0 ++ [.fz (bF (markB ++ packB m))]) := by
  obtain ⟨k1, k2⟩ := okPk_of h
  exact llay_at m k1 (by unfold roomB; omega)
theorem str_go {l : List UInt8} {n : Nat} (hn : n = l.length) (K : ByteArray → R) : ((if (bF l).length = n then Option.map (fun l => (⟨l.toArray⟩ : ByteArray)) (strOfF (bF l)) else none).bind K) = K ⟨l.toArray⟩ := by
  rw [if_pos (by simp [hn]), strOfF_bF]; rfl
abbrev mO (m : Mod) : Ob := .cells (modV m)
end Go.Proofs.YtemnahkpffafoaaDoor
/-
  The laws of the bytes of modules, of all arguments of their types.
-/
namespace Go.Proofs.YtemnahkpffafoaaDoor
open Go Go.Abs
end Go.Proofs.YtemnahkpffafoaaDoor
