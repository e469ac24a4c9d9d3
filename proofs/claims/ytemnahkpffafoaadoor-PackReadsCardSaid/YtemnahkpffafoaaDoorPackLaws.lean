/-
  Laws of the bytes of modules.
-/
import Derived.Test.YtemnahkpffafoaaDoorPackDec
import Derived.Test.YtemnahkpffafoaaDoorDraftArgs
import Derived.Test.YtemnahkpffafoaaDoorGlobOk
set_option autoImplicit false
set_option linter.unusedVariables false
set_option linter.unusedSimpArgs false
namespace Go.Proofs.YtemnahkpffafoaaDoor
open Go Go.Abs
theorem check_fits {m : Mod} (h : checkR m = none) : m.strings.length ≤ big ∧ m.funcs.length ≤ big ∧ argsOk m := by
  have ht := tree_fine (check_tree h)
  have hs := (strings_ok h).1
  have hf := ht.funcs
  refine ⟨by unfold big; omega, by unfold big; omega, fun f hf' => ?_⟩
  have ff := ht.fns f hf'
  have h5 := ff.flats
  refine ⟨by unfold big; omega, fun x hx => ?_⟩
  have hfine := stmt_fine (ff.stmts x hx)
  have h6 : x.s.args.length ≤ 6 := by
    rcases kinds_cases hfine.kinds with h | h | h | h | h
    · rw [h.2.1]; simp
    · rw [h.2.1]; simp
    · exact (hfine.call h.1).1
    · rw [h.2.1]; simp
    · rw [h.2.2.2]; simp
  omega
/-- what is written of a module -/
def sealM (m : Mod) : List UInt8 := sealB (markB ++ packB m)
theorem enc_of {m : Mod} (h : checkR m = none) (h0 : H) : run w0 10 [.agg (modV m)] h0 = some (.ret (.tup [.f (.lst (sealM m).length (bF (sealM m))), .agg (faultV none)]), h0) := by
  obtain ⟨f1, f2, f3⟩ := check_fits h
  obtain ⟨k1, k2⟩ := okPk_of h
  exact pEncode_spec m f1 f2 f3 h k1 (by unfold roomB; omega) h0
theorem lay_of {m : Mod} (h : checkR m = none) {h0 : H} : run w0 13 [.agg (modV m)] h0 = some (.ret (.ref h0.length 0 (markB ++ packB m).length 1), h0 ++ [.fz (bF (markB ++ packB m))]) := by
  obtain ⟨k1, k2⟩ := okPk_of h
  exact llay_at m k1 (by unfold roomB; omega)
theorem str_go {l : List UInt8} {n : Nat} (hn : n = l.length) (K : ByteArray → R) : ((if (bF l).length = n then Option.map (fun l => (⟨l.toArray⟩ : ByteArray)) (strOfF (bF l)) else none).bind K) = K ⟨l.toArray⟩ := by
  rw [if_pos (by simp [hn]), strOfF_bF]; rfl
theorem xorB (a t : UInt8) : IntKind.wrap .u8 (BitVec.ofInt 8 (a.toNat : Int) ^^^ BitVec.ofInt 8 (t.toNat : Int)).toNat = (((a ^^^ t).toNat : Nat) : Int) := by
  have h1 : BitVec.ofInt 8 (a.toNat : Int) = a.toBitVec := by apply BitVec.eq_of_toNat_eq; simp
  have h2 : BitVec.ofInt 8 (t.toNat : Int) = t.toBitVec := by apply BitVec.eq_of_toNat_eq; simp
  rw [h1, h2, wrap_u8_in (by omega) (by have := (a.toBitVec ^^^ t.toBitVec).isLt; omega)]
  rfl
end Go.Proofs.YtemnahkpffafoaaDoor
/-
  The laws of the bytes of modules, of all arguments of their types.
-/
namespace Go.Proofs.YtemnahkpffafoaaDoor
open Go Go.Abs
end Go.Proofs.YtemnahkpffafoaaDoor
