/-
  Laws of bytes that may be no module's: what is read is what is written; other marks.
-/
import Derived.Test.YtemnahkpffafoaaDoorPackLaws
set_option autoImplicit false
set_option linter.unusedVariables false
set_option linter.unusedSimpArgs false
namespace Go.Proofs.YtemnahkpffafoaaDoor
open Go Go.Abs
theorem decQ_form (q : List UInt8) (hq : q.length ≤ lenB) : decQ q = (noM, simpleV 4) ∨ (∃ f, decQ q = (noM, faultV (some f))) ∨ ∃ m, decQ q = (m, faultV none) ∧ checkR m = none ∧ q = markB ++ packB m := by
  unfold decQ
  split
  · exact .inl rfl
  split
  · exact .inl rfl
  rename_i h4 hm
  have hm : q.take 4 = markB := Classical.byContradiction hm
  have hl : (q.drop 4).length ≤ lenB := by rw [List.length_drop]; omega
  rcases hp : pMod (q.drop 4) 0 0 with ⟨m, a, e⟩
  dsimp only
  split
  · exact .inl rfl
  rename_i h0
  have he : e = 0 := by omega
  subst he
  obtain ⟨_, _, _, _, r5, r6⟩ := read_fits hl hp
  cases hc : checkR m with
  | some x => exact .inr (.inl ⟨x, rfl⟩)
  | none =>
    refine .inr (.inr ⟨m, rfl, hc, ?_⟩)
    have e : q.drop 4 = packB m := by rw [← r5, List.take_of_length_le (by omega)]
    have e2 : q.take 4 ++ q.drop 4 = q := List.take_append_drop ..
    rw [hm, e] at e2
    exact e2.symm
theorem decB_seal (q : List UInt8) : decB (sealB q) = decQ q := by
  unfold decB
  rw [open_seal, if_neg (by simp)]
abbrev yes : R := some (.ret (B true), [])
theorem seal_go {h : H} {k L : Nat} {p : List UInt8} (hk : h[k]? = some (.fz (bF p))) (hp : p.length < 1000000000000) (hL : h.length = L) (K : Nat × List F → R) :
    (pO (run w0 12 [.ref k 0 p.length 1] h) fun v g => (V.lst? v).bind fun q => if g.length = L then K q else none) = K ((sealB p).length, bF (sealB p)) := by
  rw [rSeal_give hk hp, pO_some]
  simp [V.lst?, V.f?, F.lst?, hL]
theorem seal_cut {h : H} {k L n : Nat} {q : List UInt8} (hk : h[k]? = some (.fz (bF q))) (hn : n ≤ q.length) (hp : n < 1000000000000) (hL : h.length = L) (K : H → Nat × List F → R) :
    (pO (run w0 12 [.ref k 0 n 1] h) fun v g => (V.lst? v).bind fun q => if g.length = L then K g q else none) = K (h.set k .dead) ((sealB (q.take n)).length, bF (sealB (q.take n))) := by
  have hl : (q.take n).length = n := by rw [List.length_take]; omega
  rw [call_give own_rSeal hk (by simp; omega) (of_decide_eq_true (by kernel_rfl)) rfl, Nat.mul_one, List.drop_zero, bF_take]
  have e : coreOf w0 12 Tryd.f12 [.val] none [.f (.lst n (bF (q.take n)))] [] = rSeal_0 (q.take n).length (bF (q.take n)) := by rw [hl]; rfl
  rw [e, rSeal_core _ (by omega), graft_f, pO_some]
  simp [V.lst?, V.f?, F.lst?, hL]
theorem decQ_mark {z : List UInt8} (h : z.take 4 ≠ markB) : decQ z = (noM, simpleV 4) := by
  unfold decQ
  by_cases h4 : z.length < 4
  · rw [if_pos h4]
  · rw [if_neg h4, if_pos h]
theorem decQ_not6 (z : List UInt8) (hz : z.length ≤ lenB) : ∃ (x : Mod) (n0 n1 n2 n3 n4 n5 n6 : Int), decQ z = (x, [I n0, I n1, I n2, I n3, I n4, I n5, I n6]) ∧ n0 ≠ 6 := by
  rcases decQ_form z hz with h | ⟨⟨f1, f2, f3⟩, h⟩ | ⟨m, h, _, _⟩
  · exact ⟨noM, 4, 0, 0, 0, 0, -1, -1, h, by decide⟩
  · exact ⟨noM, 8, 0, 0, 0, f1, f2, f3, h, by decide⟩
  · exact ⟨m, 0, 0, 0, 0, 0, -1, -1, h, by decide⟩
theorem PackMarks_law (g f e : Nat) (hg : g < 256) (hf : f < 256) (he : e < 256) (acts : List MAct) (hx : ∀ x ∈ acts, x.ok) (mark : List UInt8) (cut : Nat) (h2 : cut < 256) :
    PackMarks_0 g f e acts.length (actsF acts) mark.length (bF mark) cut = yes := by
  rw [PackMarks_eq, pawake_spec, pB_some, if_pos (show (!true) = false from rfl)]
  by_cases hn : acts.length ≤ 40
  · rw [if_pos (by simp; omega)]
    by_cases hr : mark.length ≤ 10
    · rw [if_neg (by simp; omega)]
      have hc := make_check g f e acts (by omega)
      rw [make_go g f e hg hf he acts (by omega) hx]
      generalize makeM g f e acts = m at hc
      have hL := lay_of hc (h0 := [.cells [N .u8 g, N .u8 f, N .u8 e, .f (.lst acts.length (actsF acts))]])
      have hlen := (okPk_of hc).2
      have hq1 : (markB ++ packB m).length = 4 + (packB m).length := by rw [List.length_append]; rfl
      refine Eq.trans (congrArg (fun r => pO r _) hL) ?_
      rw [pO_some]
      simp only [asRef, asFz, List.length_cons, List.length_nil, List.nil_append, List.cons_append, List.getElem?_cons_zero, List.getElem?_cons_succ, and_self, if_true, Option.bind_some]
      generalize markB ++ packB m = q at hq1
      have e1 : ((bF q).drop (0 + (4 * 1))).take ((q.length - 4) * 1) = bF (q.drop 4) := by rw [List.take_of_length_le (by simp)]; simp [bF, List.map_drop]
      have e2 : ((bF mark).drop 0).take (mark.length * 1) = bF mark := by rw [List.drop_zero, List.take_of_length_le (by simp)]
      have hlen2 : (mark ++ q.drop 4).length = mark.length + (q.length - 4) := by rw [List.length_append, List.length_drop]
      have hlen : mark.length + (q.length - 4) = (mark ++ q.drop 4).length := hlen2.symm
      have hw : Int.tmod (IntKind.wrap .i64 (cut : Int)) 4 = ((cut % 4 : Nat) : Int) := by rw [wrap_i64 (by omega) (by omega)]; rfl
      have hcz : decQ (q.take (cut % 4)) = (noM, simpleV 4) := by unfold decQ; rw [if_pos (by rw [List.length_take]; omega)]
      by_cases h4 : 4 ≤ mark.length
      · rw [if_pos (decide_eq_true (by omega)), if_pos ⟨by omega, by omega⟩, Option.bind_some]
        have e4 : ((bF mark).drop 0).take ((Int.toNat 4 - 0) * 1) = bF (mark.take 4) := by rw [List.drop_zero]; exact bF_take ..
        have e5 : (mark.take 4).length = 4 := by rw [List.length_take]; omega
        rw [e4, str_go (by rw [e5]; rfl)]
        have hb : ((⟨(mark.take 4).toArray⟩ : ByteArray).toList == (⟨#[87, 86, 77, 49]⟩ : ByteArray).toList) = decide (mark.take 4 = markB) := by
          rw [ba_mk, show (⟨#[87, 86, 77, 49]⟩ : ByteArray).toList = markB from ba_mk markB, Bool.eq_iff_iff]; simp
        rw [hb]
        by_cases hm : mark.take 4 = markB
        · rw [if_pos (by simp [hm])]
        rw [if_neg (by simp [hm])]
        have hdz : decQ (mark ++ q.drop 4) = (noM, simpleV 4) := decQ_mark (by rw [List.take_append_of_le_length h4]; exact hm)
        generalize hxx : noM = x at hdz
        obtain ⟨n0, n1, n2, n3, n4, n5, n6, hs⟩ : ∃ n0 n1 n2 n3 n4 n5 n6 : Int, n0 = 4 ∧ n1 = 0 ∧ n2 = 0 ∧ n3 = 0 ∧ n4 = 0 ∧ n5 = -1 ∧ n6 = -1 := ⟨_, _, _, _, _, _, _, rfl, rfl, rfl, rfl, rfl, rfl, rfl⟩
        have hdz : decQ (mark ++ q.drop 4) = (x, [I n0, I n1, I n2, I n3, I n4, I n5, I n6]) := by
          obtain ⟨rfl, rfl, rfl, rfl, rfl, rfl, rfl⟩ := hs; exact hdz
        rw [if_pos ⟨by decide, by simp, by decide⟩, if_pos (by omega), if_pos ⟨by omega, by omega⟩, Option.bind_some]
        simp only [Int.reduceToNat]
        rw [e1, e2, if_pos ⟨trivial, by rw [bF_length]; omega⟩, if_pos ⟨by decide, by rw [bF_length, List.length_drop]; omega, by decide⟩, if_pos ⟨trivial, by omega⟩, if_pos (by simp), ← bF_append, hlen,
          seal_go (p := mark ++ q.drop 4) (h := [.cells [N .u8 g, N .u8 f, N .u8 e, .f (.lst acts.length (actsF acts))], .fz (bF q), .dead, .fz (bF (mark ++ q.drop 4))]) (k := 3) (L := 4) rfl (by omega) rfl]
        have hD := pDecode_spec (h := [.cells [N .u8 g, N .u8 f, N .u8 e, .f (.lst acts.length (actsF acts))], .fz (bF q), .dead, .dead]) (sealB (mark ++ q.drop 4)) (by rw [seal_le]; unfold lenB; omega)
        rw [decB_seal, hdz] at hD
        refine Eq.trans (dec_go hD (L := 4) rfl _) ?_
        rw [hw, if_pos ⟨by omega, by omega⟩, Option.bind_some]
        simp only [Int.toNat_natCast, Nat.sub_zero]
        refine Eq.trans (seal_cut (q := q) (n := cut % 4) (h := [.cells [N .u8 g, N .u8 f, N .u8 e, .f (.lst acts.length (actsF acts))], .fz (bF q), .dead, .dead, mO x, .cells [I n0, I n1, I n2, I n3, I n4, I n5, I n6]]) (k := 1) (L := 6) rfl (by omega) (by omega) rfl _) ?_
        have hD2 := pDecode_spec (h := [.cells [N .u8 g, N .u8 f, N .u8 e, .f (.lst acts.length (actsF acts))], .dead, .dead, .dead, mO x, .cells [I n0, I n1, I n2, I n3, I n4, I n5, I n6]]) (sealB (q.take (cut % 4))) (by rw [seal_le, List.length_take]; unfold lenB; omega)
        rw [decB_seal, hcz] at hD2
        refine Eq.trans (dec_go hD2 (L := 6) rfl _) ?_
        obtain ⟨rfl, rfl, rfl, rfl, rfl, rfl, rfl⟩ := hs
        rw [if_neg (by simp; omega), if_pos (by rfl)]
        rfl
      · rw [if_neg (by simp; omega)]
        obtain ⟨x, n0, n1, n2, n3, n4, n5, n6, hdz, h6⟩ := decQ_not6 (mark ++ q.drop 4) (by unfold lenB; omega)
        rw [if_pos ⟨by decide, by simp, by decide⟩, if_pos (by omega), if_pos ⟨by omega, by omega⟩, Option.bind_some]
        simp only [Int.reduceToNat]
        rw [e1, e2, if_pos ⟨trivial, by rw [bF_length]; omega⟩, if_pos ⟨by decide, by rw [bF_length, List.length_drop]; omega, by decide⟩, if_pos ⟨trivial, by omega⟩, if_pos (by simp), ← bF_append, hlen,
          seal_go (p := mark ++ q.drop 4) (h := [.cells [N .u8 g, N .u8 f, N .u8 e, .f (.lst acts.length (actsF acts))], .fz (bF q), .dead, .fz (bF (mark ++ q.drop 4))]) (k := 3) (L := 4) rfl (by omega) rfl]
        have hD := pDecode_spec (h := [.cells [N .u8 g, N .u8 f, N .u8 e, .f (.lst acts.length (actsF acts))], .fz (bF q), .dead, .dead]) (sealB (mark ++ q.drop 4)) (by rw [seal_le]; unfold lenB; omega)
        rw [decB_seal, hdz] at hD
        refine Eq.trans (dec_go hD (L := 4) rfl _) ?_
        rw [hw, if_pos ⟨by omega, by omega⟩, Option.bind_some]
        simp only [Int.toNat_natCast, Nat.sub_zero]
        refine Eq.trans (seal_cut (q := q) (n := cut % 4) (h := [.cells [N .u8 g, N .u8 f, N .u8 e, .f (.lst acts.length (actsF acts))], .fz (bF q), .dead, .dead, mO x, .cells [I n0, I n1, I n2, I n3, I n4, I n5, I n6]]) (k := 1) (L := 6) rfl (by omega) (by omega) rfl _) ?_
        have hD2 := pDecode_spec (h := [.cells [N .u8 g, N .u8 f, N .u8 e, .f (.lst acts.length (actsF acts))], .dead, .dead, .dead, mO x, .cells [I n0, I n1, I n2, I n3, I n4, I n5, I n6]]) (sealB (q.take (cut % 4))) (by rw [seal_le, List.length_take]; unfold lenB; omega)
        rw [decB_seal, hcz] at hD2
        refine Eq.trans (dec_go hD2 (L := 6) rfl _) ?_
        rw [if_pos (decide_eq_true (by omega)), if_pos (by rfl)]
        have : (!(n0 == 6)) = true := by simpa using h6
        rw [this]
    · rw [if_pos (by simp; omega), pB_some]
  · rw [if_neg (by simp; omega), pB_some]
theorem bytes_of {p : List F} {t : TypeId} (h : Ty Tryd.prog t p) (hs : ∀ {q : List F}, Ty Tryd.prog t q → ∃ raw : List UInt8, q = [.lst raw.length (raw.flatMap fun x : UInt8 => [F.s (.int .u8 (x.toNat : Nat))])]) : ∃ raw : List UInt8, p = [.lst raw.length (bF raw)] := by
  obtain ⟨raw, hr⟩ := hs h
  refine ⟨raw, ?_⟩
  rw [hr]
  simp [bF, List.map_eq_flatMap]
theorem u8_of {p : List F} (h : Ty Tryd.prog 5 p) : ∃ x : UInt8, p = [F.s (.int .u8 (x.toNat : Nat))] ∧ True := by
  obtain ⟨n, rfl, hn⟩ := h.of_int (k := .u8) (by kernel_rfl)
  obtain ⟨n, rfl, hu⟩ := wf_u8 hn
  exact ⟨UInt8.ofNat n, by simp; omega, trivial⟩
set_option maxRecDepth 100000 in
theorem PackMarks_all (l : List (List F)) (h : Args Tryd.prog Tryd.f7.params.toList l) : ∃ h', run w0 7 (argVs Tryd.prog Tryd.f7.params.toList l) [] = some (.ret (B true), h') := by
  obtain ⟨x1, l1, rfl, h1, h⟩ := h.cons_inv
  obtain ⟨x2, l2, rfl, h2, h⟩ := h.cons_inv
  obtain ⟨x3, l3, rfl, h3, h⟩ := h.cons_inv
  obtain rfl := h.nil_inv
  obtain ⟨g, f, e, acts, rfl, hg, hf, he, _, hx⟩ := draft_of h1
  obtain ⟨raw, rfl⟩ := bytes_of h2 fun hq => by
    obtain ⟨raw, hr, _⟩ := hq.slice_of (e := 5) (f := fun x : UInt8 => [F.s (.int .u8 (x.toNat : Nat))]) (ok := fun _ => True) (by kernel_rfl) fun p hp => u8_of hp
    exact ⟨raw, hr⟩
  obtain ⟨n3, rfl, hn3⟩ := h3.of_int (k := .u8) (by kernel_rfl)
  obtain ⟨n3, rfl, hu3⟩ := wf_u8 hn3
  have h : run w0 7 [.agg [N .u8 g, N .u8 f, N .u8 e, .f (.lst acts.length (actsF acts))], .f (.lst raw.length (bF raw)), N .u8 n3] [] = some (.ret (B true), []) := by rw [PackMarks_run, PackMarks_law g f e hg hf he acts hx raw n3 hu3, withH_true]
  exact ⟨[], h⟩
end Go.Proofs.YtemnahkpffafoaaDoor
