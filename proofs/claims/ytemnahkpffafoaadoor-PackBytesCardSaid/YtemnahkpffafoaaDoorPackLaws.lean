/-
  Laws of the bytes of modules.
-/
import Derived.Test.YtemnahkpffafoaaDoorPackDec
import Derived.Test.YtemnahkpffafoaaDoorDraftArgs
import Derived.Test.YtemnahkpffafoaaDoorGlobOk
set_option autoImplicit false
set_option linter.unusedVariables false
set_option linter.unusedSimpArgs false
namespace Go.Proofs.YtemnahkpffafoaaDoor
open Go Go.Abs
theorem check_fits {m : Mod} (h : checkR m = none) : m.strings.length ≤ big ∧ m.funcs.length ≤ big ∧ argsOk m := by
  have ht := tree_fine (check_tree h)
  have hs := (strings_ok h).1
  have hf := ht.funcs
  refine ⟨by unfold big; omega, by unfold big; omega, fun f hf' => ?_⟩
  have ff := ht.fns f hf'
  have h5 := ff.flats
  refine ⟨by unfold big; omega, fun x hx => ?_⟩
  have hfine := stmt_fine (ff.stmts x hx)
  have h6 : x.s.args.length ≤ 6 := by
    rcases kinds_cases hfine.kinds with h | h | h | h | h
    · rw [h.2.1]; simp
    · rw [h.2.1]; simp
    · exact (hfine.call h.1).1
    · rw [h.2.1]; simp
    · rw [h.2.2.2]; simp
  omega
/-- what is written of a module -/
def sealM (m : Mod) : List UInt8 := sealB (markB ++ packB m)
theorem sealM_len {m : Mod} (h : checkR m = none) : (sealM m).length ≤ 10000100 ∧ 8 ≤ (sealM m).length := by
  have := (okPk_of h).2
  unfold sealM
  rw [seal_le, List.length_append, show markB.length = 4 from rfl]
  omega
theorem enc_of {m : Mod} (h : checkR m = none) (h0 : H) : run w0 10 [.agg (modV m)] h0 = some (.ret (.tup [.f (.lst (sealM m).length (bF (sealM m))), .agg (faultV none)]), h0) := by
  obtain ⟨f1, f2, f3⟩ := check_fits h
  obtain ⟨k1, k2⟩ := okPk_of h
  exact pEncode_spec m f1 f2 f3 h k1 (by unfold roomB; omega) h0
theorem lay_of {m : Mod} (h : checkR m = none) {h0 : H} : run w0 13 [.agg (modV m)] h0 = some (.ret (.ref h0.length 0 (markB ++ packB m).length 1), h0 ++ [.fz (bF (markB ++ packB m))]) := by
  obtain ⟨k1, k2⟩ := okPk_of h
  exact llay_at m k1 (by unfold roomB; omega)
theorem str_go {l : List UInt8} {n : Nat} (hn : n = l.length) (K : ByteArray → R) : ((if (bF l).length = n then Option.map (fun l => (⟨l.toArray⟩ : ByteArray)) (strOfF (bF l)) else none).bind K) = K ⟨l.toArray⟩ := by
  rw [if_pos (by simp [hn]), strOfF_bF]; rfl
abbrev mO (m : Mod) : Ob := .cells (modV m)
theorem PackBytes_law (g f e : Nat) (hg : g < 256) (hf : f < 256) (he : e < 256) (acts : List MAct) (hx : ∀ x ∈ acts, x.ok) : PackBytes_0 g f e acts.length (actsF acts) = some (.ret (B true), []) := by
  rw [PackBytes_eq, pawake_spec, pB_some, if_pos (show (!true) = false from rfl)]
  by_cases hn : acts.length ≤ 60
  · have hc := make_check g f e acts (by omega)
    rw [if_neg (by simp; omega), make_go g f e hg hf he acts hn hx]
    generalize makeM g f e acts = m at hc
    obtain ⟨hl1, hl2⟩ := sealM_len hc
    rw [enc_go (enc_of hc _)]
    have hD := pDecode_spec (h := [.cells [N .u8 g, N .u8 f, N .u8 e, .f (.lst acts.length (actsF acts))], mO m, zf']) (sealM m) (by unfold lenB; omega)
    rw [show decB (sealM m) = (m, faultV none) from dec_enc hc] at hD
    rw [dec_go hD (L := 3) rfl, if_pos (by rfl), str_go rfl]
    have hL := lay_of hc (h0 := [.cells [N .u8 g, N .u8 f, N .u8 e, .f (.lst acts.length (actsF acts))], mO m, zf', mO m, zf'])
    have hS := rSeal_give (h := [.cells [N .u8 g, N .u8 f, N .u8 e, .f (.lst acts.length (actsF acts))], mO m, zf', mO m, zf', .fz (bF (markB ++ packB m))]) (k := 5) (p := markB ++ packB m) rfl (by have := (okPk_of hc).2; rw [List.length_append, show markB.length = 4 from rfl]; omega)
    refine Eq.trans (congrArg (fun r => pO r _) hL) ?_
    rw [pO_some]
    simp only [asRef, asFz, List.length_cons, List.length_nil, List.nil_append, List.cons_append, List.getElem?_cons_zero, List.getElem?_cons_succ, and_self, if_true, Option.bind_some]
    refine Eq.trans (congrArg (fun r => pO r _) hS) ?_
    rw [pO_some]
    simp only [V.lst?, V.f?, F.lst?, Option.bind_some]
    rw [if_pos (by rfl), str_go rfl]
    rw [show sealB (markB ++ packB m) = sealM m from rfl, if_pos (by simp), if_pos (by rfl)]
    have hsame := dSame_same m (okPk_of hc).1
    refine Eq.trans (congrArg (fun r => pB r _) (hsame _)) ?_
    rw [pB_some]
  · rw [if_pos (by simp; omega), pB_some]
end Go.Proofs.YtemnahkpffafoaaDoor
/-
  The laws of the bytes of modules, of all arguments of their types.
-/
namespace Go.Proofs.YtemnahkpffafoaaDoor
open Go Go.Abs
set_option maxRecDepth 100000 in
theorem PackBytes_all (l : List (List F)) (h : Args Tryd.prog Tryd.f3.params.toList l) : ∃ h', run w0 3 (argVs Tryd.prog Tryd.f3.params.toList l) [] = some (.ret (B true), h') := by
  obtain ⟨x1, l1, rfl, h1, h⟩ := h.cons_inv
  obtain rfl := h.nil_inv
  obtain ⟨g, f, e, acts, rfl, hg, hf, he, _, hx⟩ := draft_of h1
  have h : run w0 3 [.agg [N .u8 g, N .u8 f, N .u8 e, .f (.lst acts.length (actsF acts))]] [] = some (.ret (B true), []) := by rw [PackBytes_run, PackBytes_law g f e hg hf he acts hx, withH_true]
  exact ⟨[], h⟩
end Go.Proofs.YtemnahkpffafoaaDoor
