/-
  Laws of the bytes of modules.
-/
import Derived.Test.YtemnahkpffafoaaDoorPackDec
import Derived.Test.YtemnahkpffafoaaDoorDraftArgs
import Derived.Test.YtemnahkpffafoaaDoorGlobOk
set_option autoImplicit false
set_option linter.unusedVariables false
set_option linter.unusedSimpArgs false
namespace Go.Proofs.YtemnahkpffafoaaDoor
open Go Go.Abs
theorem check_fits {m : Mod} (h : checkR m = none) : m.strings.length ≤ big ∧ m.funcs.length ≤ big ∧ argsOk m := by
  have ht := tree_fine (check_tree h)
  have hs := (strings_ok h).1
  have hf := ht.funcs
  refine ⟨by unfold big; omega, by unfold big; omega, fun f hf' => ?_⟩
  have ff := ht.fns f hf'
  have h5 := ff.flats
  refine ⟨by unfold big; omega, fun x hx => ?_⟩
  have hfine := stmt_fine (ff.stmts x hx)
  have h6 : x.s.args.length ≤ 6 := by
    rcases kinds_cases hfine.kinds with h | h | h | h | h
    · rw [h.2.1]; simp
    · rw [h.2.1]; simp
    · exact (hfine.call h.1).1
    · rw [h.2.1]; simp
    · rw [h.2.2.2]; simp
  omega
/-- what is written of a module -/
def sealM (m : Mod) : List UInt8 := sealB (markB ++ packB m)
theorem sealM_len {m : Mod} (h : checkR m = none) : (sealM m).length ≤ 10000100 ∧ 8 ≤ (sealM m).length := by
  have := (okPk_of h).2
  unfold sealM
  rw [seal_le, List.length_append, show markB.length = 4 from rfl]
  omega
theorem enc_of {m : Mod} (h : checkR m = none) (h0 : H) : run w0 10 [.agg (modV m)] h0 = some (.ret (.tup [.f (.lst (sealM m).length (bF (sealM m))), .agg (faultV none)]), h0) := by
  obtain ⟨f1, f2, f3⟩ := check_fits h
  obtain ⟨k1, k2⟩ := okPk_of h
  exact pEncode_spec m f1 f2 f3 h k1 (by unfold roomB; omega) h0
abbrev mO (m : Mod) : Ob := .cells (modV m)
theorem pDecode_give {h : H} {k : Nat} {b : List UInt8} (hk : h[k]? = some (.fz (bF b))) (hb : b.length ≤ lenB) : run w0 11 [.ref k 0 b.length 1] h = some (.ret (decV (decB b)), h.set k .dead) := by
  rw [call_give own_pDecode hk (by simp) (of_decide_eq_true (by kernel_rfl)) rfl, Nat.mul_one, List.drop_zero, bF_all]
  have e : coreOf w0 11 Tryd.f11 [.val, .val] none [.f (.lst b.length (bF b))] [] = pDecode_0 b.length (bF b) := rfl
  rw [e, pDecode_core b hb]
  simp [graft, decV_ren _ (decB_ren b)]
theorem dec_short {b : List UInt8} (h : b.length < 4) : decB b = (noM, simpleV 3) := by
  unfold decB openB; rw [if_pos h]; rfl
theorem open_turn {q : List UInt8} (h4 : 4 ≤ q.length) (hc : crc q ≠ 0#32) : openB q = ([], 6) := by
  unfold openB; rw [if_neg (by omega), if_pos hc]
theorem crc_sealM (m : Mod) : crc (sealM m) = 0#32 := crc_seal _
theorem xorB (a t : UInt8) : IntKind.wrap .u8 (BitVec.ofInt 8 (a.toNat : Int) ^^^ BitVec.ofInt 8 (t.toNat : Int)).toNat = (((a ^^^ t).toNat : Nat) : Int) := by
  have h1 : BitVec.ofInt 8 (a.toNat : Int) = a.toBitVec := by apply BitVec.eq_of_toNat_eq; simp
  have h2 : BitVec.ofInt 8 (t.toNat : Int) = t.toBitVec := by apply BitVec.eq_of_toNat_eq; simp
  rw [h1, h2, wrap_u8_in (by omega) (by have := (a.toBitVec ^^^ t.toBitVec).isLt; omega)]
  rfl
theorem PackSums_law (g f e : Nat) (hg : g < 256) (hf : f < 256) (he : e < 256) (acts : List MAct) (hx : ∀ x ∈ acts, x.ok) (at_ cut : Nat) (h1 : at_ < 65536) (h2 : cut < 65536) (turn : UInt8) : PackSums_0 g f e acts.length (actsF acts) at_ turn.toNat cut = some (.ret (B true), []) := by
  rw [PackSums_eq, pawake_spec, pB_some, if_pos (show (!true) = false from rfl)]
  by_cases hn : acts.length ≤ 60
  · rw [if_pos (by simp; omega)]
    by_cases ht : turn = 0
    · subst ht
      rw [if_pos (by rfl), pB_some]
    · have ht' : turn.toNat ≠ 0 := fun h => ht (by apply UInt8.toNat_inj.1; simpa using h)
      rw [if_neg (by simp; omega)]
      have hc := make_check g f e acts (by omega)
      rw [make_go g f e hg hf he acts hn hx]
      generalize makeM g f e acts = m at hc
      obtain ⟨hl1, hl2⟩ := sealM_len hc
      have hs0 := crc_sealM m
      rw [enc_go (enc_of hc _)]
      generalize sealM m = p at hl1 hl2 hs0
      have hw : Int.tmod (IntKind.wrap .i64 (at_ : Int)) (p.length : Int) = ((at_ % p.length : Nat) : Int) := by rw [wrap_i64 (by omega) (by omega)]; rfl
      have hw2 : Int.tmod (IntKind.wrap .i64 (cut : Int)) 4 = ((cut % 4 : Nat) : Int) := by rw [wrap_i64 (by omega) (by omega)]; rfl
      have hlt : at_ % p.length < p.length := Nat.mod_lt _ (by omega)
      rw [hw, hw2]
      generalize at_ % p.length = k at hlt
      obtain ⟨a, x, b, hp, hk⟩ : ∃ a x b, p = a ++ x :: b ∧ a.length = k := ⟨p.take k, p[k], p.drop (k + 1), by rw [← List.drop_eq_getElem_cons hlt, List.take_append_drop], by rw [List.length_take]; omega⟩
      have hbk : (bF p).drop (0 + (k * 1)) = F.s (.int .u8 x.toNat) :: bF b := by rw [hp, bF_append, ← hk]; simp [bF_cons]
      rw [if_neg (show ¬ (((p.length : Nat) : Int) == 0) = true from fun h => by have := eq_of_beq h; omega), if_pos ⟨by decide, by simp, by decide⟩, if_pos (by omega), if_neg (by omega), if_pos ⟨rfl, by omega, by omega⟩]
      simp only [Int.toNat_natCast]
      have hat : ∀ K : Int → R, atI .u8 (bF p) (0 + (k * 1)) K = K x.toNat := by
        intro K
        unfold atI
        have : (bF p)[0 + (k * 1)]? = some (F.s (.int .u8 x.toNat)) := by
          have := congrArg (fun l => l[0]?) hbk
          simpa using this
        rw [this]; rfl
      rw [hat, if_pos ⟨trivial, by omega, by omega⟩, if_pos (by simp; omega), xorB]
      have hset : (bF p).set (0 + (k * 1)) (F.s (.int .u8 ((x ^^^ turn).toNat : Int))) = bF (a ++ (x ^^^ turn) :: b) := by
        rw [hp, bF_append, bF_append, bF_cons, bF_cons, ← hk]
        simp
      have hql : (a ++ (x ^^^ turn) :: b).length = p.length := by rw [hp]; simp
      have hcq : crc (a ++ (x ^^^ turn) :: b) ≠ 0#32 := by
        rw [← hs0, hp]
        refine crc_turn fun h => ht ?_
        have : x ^^^ (x ^^^ turn) = x ^^^ x := by rw [h]
        rw [← UInt8.xor_assoc, UInt8.xor_self, UInt8.zero_xor] at this
        exact this
      rw [hset, ← hql]
      generalize a ++ (x ^^^ turn) :: b = q at hql hcq
      have hdq : decB q = (noM, simpleV 6) := by
        unfold decB
        rw [open_turn (by omega) hcq]; rfl
      have hD := pDecode_give (h := [.cells [N .u8 g, N .u8 f, N .u8 e, .f (.lst acts.length (actsF acts))], zf', .fz (bF q)]) (k := 2) (b := q) rfl (by unfold lenB; omega)
      rw [hdq] at hD
      rw [dec_go hD (L := 3) rfl, if_pos ⟨by omega, by omega⟩]
      simp only [Option.bind_some, Int.toNat_natCast, Nat.sub_zero, Nat.mul_one, List.drop_zero]
      have hs : (p.take (cut % 4)).length = cut % 4 := by rw [List.length_take]; omega
      have hD2 := pDecode_spec (h := [.cells [N .u8 g, N .u8 f, N .u8 e, .f (.lst acts.length (actsF acts))], zf', .dead, mO noM, .cells (simpleV 6)]) (p.take (cut % 4)) (by unfold lenB; omega)
      rw [dec_short (b := p.take (cut % 4)) (by omega), hs] at hD2
      rw [bF_take]
      refine Eq.trans (dec_go hD2 (L := 5) rfl _) ?_
      rw [if_pos (by rfl)]
      rfl
  · rw [if_neg (by simp; omega), pB_some]
end Go.Proofs.YtemnahkpffafoaaDoor
/-
  The laws of the bytes of modules, of all arguments of their types.
-/
namespace Go.Proofs.YtemnahkpffafoaaDoor
open Go Go.Abs
set_option maxRecDepth 100000 in
theorem PackSums_all (l : List (List F)) (h : Args Tryd.prog Tryd.f6.params.toList l) : ∃ h', run w0 6 (argVs Tryd.prog Tryd.f6.params.toList l) [] = some (.ret (B true), h') := by
  obtain ⟨x1, l1, rfl, h1, h⟩ := h.cons_inv
  obtain ⟨x2, l2, rfl, h2, h⟩ := h.cons_inv
  obtain ⟨x3, l3, rfl, h3, h⟩ := h.cons_inv
  obtain ⟨x4, l4, rfl, h4, h⟩ := h.cons_inv
  obtain rfl := h.nil_inv
  obtain ⟨g, f, e, acts, rfl, hg, hf, he, _, hx⟩ := draft_of h1
  obtain ⟨n2, rfl, hn2⟩ := h2.of_int (k := .u16) (by kernel_rfl)
  obtain ⟨n2, rfl, hu2⟩ := wf_u16 hn2
  obtain ⟨n3, rfl, hn3⟩ := h3.of_int (k := .u8) (by kernel_rfl)
  obtain ⟨n3, rfl, hu3⟩ := wf_u8 hn3
  obtain ⟨n4, rfl, hn4⟩ := h4.of_int (k := .u16) (by kernel_rfl)
  obtain ⟨n4, rfl, hu4⟩ := wf_u16 hn4
  obtain ⟨t, rfl⟩ : ∃ t : UInt8, n3 = t.toNat := ⟨UInt8.ofNat n3, by simp; omega⟩
  have h : run w0 6 [.agg [N .u8 g, N .u8 f, N .u8 e, .f (.lst acts.length (actsF acts))], N .u16 n2, N .u8 t.toNat, N .u16 n4] [] = some (.ret (B true), []) := by rw [PackSums_run, PackSums_law g f e hg hf he acts hx n2 n4 hu2 hu4 t, withH_true]
  exact ⟨[], h⟩
end Go.Proofs.YtemnahkpffafoaaDoor
