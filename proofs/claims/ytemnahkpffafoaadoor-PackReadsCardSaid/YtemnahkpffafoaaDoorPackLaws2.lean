/-
  Laws of bytes that may be no module's: what is read is what is written; other marks.
-/
import Derived.Test.YtemnahkpffafoaaDoorPackLaws
set_option autoImplicit false
set_option linter.unusedVariables false
set_option linter.unusedSimpArgs false
namespace Go.Proofs.YtemnahkpffafoaaDoor
open Go Go.Abs
theorem decQ_form (q : List UInt8) (hq : q.length ≤ lenB) : decQ q = (noM, simpleV 4) ∨ (∃ f, decQ q = (noM, faultV (some f))) ∨ ∃ m, decQ q = (m, faultV none) ∧ checkR m = none ∧ q = markB ++ packB m := by
  unfold decQ
  split
  · exact .inl rfl
  split
  · exact .inl rfl
  rename_i h4 hm
  have hm : q.take 4 = markB := Classical.byContradiction hm
  have hl : (q.drop 4).length ≤ lenB := by rw [List.length_drop]; omega
  rcases hp : pMod (q.drop 4) 0 0 with ⟨m, a, e⟩
  dsimp only
  split
  · exact .inl rfl
  rename_i h0
  have he : e = 0 := by omega
  subst he
  obtain ⟨_, _, _, _, r5, r6⟩ := read_fits hl hp
  cases hc : checkR m with
  | some x => exact .inr (.inl ⟨x, rfl⟩)
  | none =>
    refine .inr (.inr ⟨m, rfl, hc, ?_⟩)
    have e : q.drop 4 = packB m := by rw [← r5, List.take_of_length_le (by omega)]
    have e2 : q.take 4 ++ q.drop 4 = q := List.take_append_drop ..
    rw [hm, e] at e2
    exact e2.symm
theorem decB_form (b : List UInt8) (hb : b.length ≤ lenB) : (∃ c : Nat, (c = 3 ∨ c = 4 ∨ c = 6) ∧ decB b = (noM, simpleV c)) ∨ (∃ f, decB b = (noM, faultV (some f))) ∨ ∃ m, decB b = (m, faultV none) ∧ checkR m = none ∧ b = sealM m := by
  unfold decB
  by_cases h : (openB b).2 ≠ 0
  · rw [if_pos h]
    refine .inl ⟨(openB b).2, ?_, rfl⟩
    unfold openB at h ⊢
    split
    · exact .inl rfl
    · split
      · exact .inr (.inr rfl)
      · rename_i h1 h2
        rw [if_neg h1, if_neg h2] at h
        exact absurd rfl h
  · rw [if_neg h]
    rcases ho : openB b with ⟨q, e⟩
    rw [ho] at h
    have he : e = 0 := by simpa using h
    subst he
    have hle := open_le b
    rw [ho] at hle
    dsimp only at hle ⊢
    rcases decQ_form q (by omega) with h1 | h1 | ⟨m, h1, h2, h3⟩
    · exact .inl ⟨4, .inr (.inl rfl), h1⟩
    · exact .inr (.inl h1)
    · exact .inr (.inr ⟨m, h1, h2, by unfold sealM; rw [← h3]; exact seal_open ho⟩)
theorem decB_seal (q : List UInt8) : decB (sealB q) = decQ q := by
  unfold decB
  rw [open_seal, if_neg (by simp)]
theorem chk_go {m : Mod} (h : checkR m = none) (h0 : H) (K : Int → Int → Int → Int → Int → Int → Int → R) :
    (pA (run w0 15 [.agg (modV m)] h0) fun l3 => cI .i64 l3 0 fun n4 => cI .i64 l3 1 fun n5 => cI .i64 l3 2 fun n6 => cI .i64 l3 3 fun n7 => cI .i64 l3 4 fun n8 => cI .i64 l3 5 fun n9 => cI .i64 l3 6 fun n10 => if l3.length = 7 then K n4 n5 n6 n7 n8 n9 n10 else none) = K 0 0 0 0 0 (-1) (-1) := by
  obtain ⟨f1, f2, f3⟩ := check_fits h
  rw [ruleCheck_spec m f1 f2 f3, h]
  rfl
abbrev yes : R := some (.ret (B true), [])
abbrev bytsF (l : List (List UInt8)) : List F := l.map fun x => F.lst x.length (bF x)
theorem seal_val {h : H} {L : Nat} {p : List UInt8} (hp : p.length < 1000000000000) (hL : h.length = L) (K : Nat × List F → R) :
    (pO (run w0 12 [.f (.lst p.length (bF p))] h) fun v g => (V.lst? v).bind fun q => if g.length = L then K q else none) = K ((sealB p).length, bF (sealB p)) := by
  rw [rSeal_spec hp, pO_some]
  simp [V.lst?, V.f?, F.lst?, hL]
theorem bytes_ne (p : List UInt8) : ¬ (!((⟨p.toArray⟩ : ByteArray).toList == (⟨p.toArray⟩ : ByteArray).toList)) = true := by simp
theorem reads_loop (b : Bool) (l : List (List UInt8)) (hl : ∀ x ∈ l, x.length < 1000000000) (hn : l.length < 100) : ∀ (rest : List (List UInt8)) (i : Nat), l.drop i = rest → i ≤ l.length →
    PackReads_1 b l.length (bytsF l) l.length i = yes
  | [], i, hd, hi => by
    have := done_of_drop hd
    rw [PackReads_1_eq, if_neg (by simp; omega)]
  | x :: rest, i, hd, hi => by
    have hlt := lt_of_drop hd
    have hx := hl x (List.mem_of_mem_drop (by rw [hd]; simp : x ∈ l.drop i))
    have ih := reads_loop b l hl hn rest (i + 1) (drop_next hd) (by omega)
    have ih' : PackReads_1 b l.length (bytsF l) l.length (IntKind.wrap .i64 ((i : Int) + 1)) = yes := by
      rw [wrap_i64 (by omega) (by omega), show ((i : Int) + 1) = ((i + 1 : Nat) : Int) by omega]; exact ih
    have he : bytsF l = l.flatMap fun x => [F.lst x.length (bF x)] := by rw [bytsF, List.map_eq_flatMap]
    rw [PackReads_1_eq, if_pos (decide_eq_true (by omega))]
    rw [show (F.lst l.length (bytsF l)) = F.lst l.length (l.flatMap fun x => [F.lst x.length (bF x)]) by rw [he], elem_next (f := fun x : List UInt8 => [F.lst x.length (bF x)]) (fun _ => rfl) hd]
    simp only [List.cons_append, List.nil_append, atL_zero]
    cases b
    · rw [if_neg (by simp)]
      have hD := pDecode_spec (h := []) x (by unfold lenB; omega)
      rcases decB_form x (by unfold lenB; omega) with ⟨c, hc, hd⟩ | ⟨⟨f1, f2, f3⟩, hd⟩ | ⟨m, hd, hc, hs⟩
      · rw [hd] at hD
        rw [dec_go hD (L := 0) rfl, if_pos (by simp; omega), if_pos (by rfl), if_pos (by simp; omega), if_pos (by simp), if_neg (by simp), if_pos (by rfl)]
        rcases hc with rfl | rfl | rfl
        · rw [if_pos (by rfl), if_pos (by rfl), if_neg (by decide)]; exact ih'
        · rw [if_neg (by decide)]; exact ih'
        · rw [if_pos (by rfl), if_neg (by decide)]; exact ih'
      · rw [hd] at hD
        rw [dec_go hD (L := 0) rfl, if_pos (by rfl), if_pos (by rfl), if_neg (by simp)]
        exact ih'
      · rw [hd] at hD
        rw [dec_go hD (L := 0) rfl, if_neg (by simp), enc_go (enc_of hc _), chk_go hc, if_pos (by rfl), if_pos (by rfl), str_go rfl, str_go rfl, ← hs, if_neg (bytes_ne _)]
        exact ih'
    · have hsl := seal_le x
      rw [if_pos rfl, seal_val (by omega) (L := 0) rfl]
      have hD := pDecode_spec (h := []) (sealB x) (by unfold lenB; omega)
      rw [decB_seal] at hD
      rcases decQ_form x (by unfold lenB; omega) with hd | ⟨⟨f1, f2, f3⟩, hd⟩ | ⟨m, hd, hc, hs⟩
      · rw [hd] at hD
        rw [dec_go hD (L := 0) rfl, if_pos (by rfl), if_pos (by rfl), if_pos (by rfl), if_pos (by rfl), if_pos rfl, if_pos (by rfl), if_neg (by simp)]
        exact ih'
      · rw [hd] at hD
        rw [dec_go hD (L := 0) rfl, if_pos (by rfl), if_pos (by rfl), if_neg (by simp)]
        exact ih'
      · rw [hd] at hD
        have hs' : sealB x = sealM m := by unfold sealM; rw [← hs]
        rw [dec_go hD (L := 0) rfl, if_neg (by simp), enc_go (enc_of hc _), chk_go hc, if_pos (by rfl), if_pos (by rfl), str_go rfl, str_go rfl, hs', if_neg (bytes_ne _)]
        exact ih'
theorem at_bF {q : List UInt8} {k : Nat} (hk : k < q.length) (K : Int → R) : atI .u8 (bF q) (0 + (k * 1)) K = K (q[k].toNat : Nat) := by
  unfold atI
  have : (bF q)[0 + (k * 1)]? = some (F.s (.int .u8 (q[k].toNat : Nat))) := by
    rw [Nat.zero_add, Nat.mul_one]; simp [bF, hk]
  rw [this]; rfl
theorem set_bF (q : List UInt8) (k : Nat) (y : UInt8) : (bF q).set (0 + (k * 1)) (F.s (.int .u8 (y.toNat : Nat))) = bF (q.set k y) := by
  rw [Nat.zero_add, Nat.mul_one]
  simp [bF, List.map_set]
theorem PackReads_law (raw : List UInt8) (g f e : Nat) (hg : g < 256) (hf : f < 256) (he : e < 256) (acts : List MAct) (hx : ∀ x ∈ acts, x.ok) (at_ cut : Nat) (h1 : at_ < 65536) (h2 : cut < 65536) (turn : UInt8) (b : Bool) :
    PackReads_0 raw.length (bF raw) g f e acts.length (actsF acts) at_ turn.toNat cut b = yes := by
  rw [PackReads_eq, pawake_spec, pB_some, if_pos (show (!true) = false from rfl)]
  by_cases hr : raw.length ≤ 200
  · rw [if_pos (by simp; omega)]
    by_cases hn : acts.length ≤ 40
    · rw [if_neg (by simp; omega)]
      have hc := make_check g f e acts (by omega)
      rw [make_go g f e hg hf he acts (by omega) hx]
      generalize makeM g f e acts = m at hc
      have hL := lay_of hc (h0 := [.cells [N .u8 g, N .u8 f, N .u8 e, .f (.lst acts.length (actsF acts))]])
      have hlen := (okPk_of hc).2
      have hq1 : (markB ++ packB m).length = 4 + (packB m).length := by rw [List.length_append]; rfl
      refine Eq.trans (congrArg (fun r => pO r _) hL) ?_
      rw [pO_some]
      simp only [asRef, asFz, List.length_cons, List.length_nil, List.nil_append, List.cons_append, List.getElem?_cons_zero, List.getElem?_cons_succ, and_self, if_true, Option.bind_some]
      generalize markB ++ packB m = q at hq1
      have hw1 : IntKind.wrap .i64 ((q.length : Int) + 1) = ((q.length + 1 : Nat) : Int) := by rw [wrap_i64 (by omega) (by omega)]; rfl
      have hw2 : Int.tmod (IntKind.wrap .i64 (cut : Int)) ((q.length + 1 : Nat) : Int) = ((cut % (q.length + 1) : Nat) : Int) := by rw [wrap_i64 (by omega) (by omega)]; rfl
      have hw3 : Int.tmod (IntKind.wrap .i64 (at_ : Int)) (q.length : Int) = ((at_ % q.length : Nat) : Int) := by rw [wrap_i64 (by omega) (by omega)]; rfl
      have hj : cut % (q.length + 1) < q.length + 1 := Nat.mod_lt _ (by omega)
      have hk : at_ % q.length < q.length := Nat.mod_lt _ (by omega)
      rw [hw1, hw2, hw3]
      generalize cut % (q.length + 1) = j at hj
      generalize at_ % q.length = k at hk
      rw [if_neg (by omega), if_pos ⟨by omega, by omega⟩, Option.bind_some]
      simp only [Int.toNat_natCast]
      have e1 : ((bF q).drop 0).take ((j - 0) * 1) = bF (q.take j) := by rw [List.drop_zero, Nat.mul_one, Nat.sub_zero]; exact bF_take ..
      have ej : (q.take j).length = j := by rw [List.length_take]; omega
      rw [e1, if_pos ⟨trivial, by simp; omega⟩, if_pos ⟨by decide, by rw [bF_length, ej]; omega, by decide⟩, if_pos (by omega), if_neg (by omega), if_pos ⟨trivial, by omega, by omega⟩, at_bF hk,
        if_pos ⟨trivial, by omega, by omega⟩, if_pos (by simp; omega), xorB, set_bF]
      have hsl : (q.set k (q[k] ^^^ turn)).length = q.length := by simp
      rw [← hsl]
      generalize hq' : q.set k (q[k] ^^^ turn) = q2 at hsl
      have e2 : ((bF q2).drop 0).take (q2.length * 1) = bF q2 := by rw [List.drop_zero, Nat.mul_one, bF_all]
      have hm : F.s (.int .u8 87) :: F.s (.int .u8 86) :: F.s (.int .u8 77) :: F.s (.int .u8 49) :: bF raw = bF (markB ++ raw) := rfl
      have ht : ([F.s (.int .u8 ((turn.toNat : Nat) : Int))] : List F) = bF [turn] := rfl
      rw [e2, e2, hm, ht, ← bF_append]
      have l1 : (markB ++ raw).length = 4 + raw.length := by rw [List.length_append]; rfl
      have l2 : (q2 ++ [turn]).length = q2.length + 1 := by rw [List.length_append]; rfl
      have e3 : ((bF (q.take j)).drop 0).take ((j - 0) * 1) = bF (q.take j) := by rw [List.drop_zero, Nat.mul_one, Nat.sub_zero]; exact bF_all' _ _ ej.symm
      have e4 : ((bF (markB ++ raw)).drop 0).take ((4 + raw.length) * 1) = bF (markB ++ raw) := by rw [List.drop_zero, Nat.mul_one]; exact bF_all' _ _ l1.symm
      have e5 : ((bF (q2 ++ [turn])).drop 0).take ((q2.length + 1) * 1) = bF (q2 ++ [turn]) := by rw [List.drop_zero, Nat.mul_one]; exact bF_all' _ _ l2.symm
      rw [e3, e4, e5]
      simp only [bF_length]
      rw [ej, l2]
      rw [if_pos ⟨by decide, by omega, by decide⟩, if_pos ⟨trivial, by omega⟩, if_pos ⟨trivial, by omega⟩, if_pos ⟨by decide, by omega, by decide⟩, if_pos (by omega), if_pos ⟨trivial, by omega⟩, if_pos (by omega), if_pos (by omega), if_pos (by omega), if_pos (by omega), if_pos (by omega)]
      have hl : ([raw, q2, q.take j, markB ++ raw, q2 ++ [turn]] : List (List UInt8)).length = 5 := rfl
      have hrow : ([F.lst raw.length (bF raw), F.lst q2.length (bF q2), F.lst (j - 0) (bF (q.take j)), F.lst (4 + raw.length) (bF (markB ++ raw)), F.lst (q2.length + 1) (bF (q2 ++ [turn]))] : List F) = bytsF [raw, q2, q.take j, markB ++ raw, q2 ++ [turn]] := by
        rw [← l1, ← l2, Nat.sub_zero]
        have : j = (q.take j).length := ej.symm
        simp only [bytsF, List.map_cons, List.map_nil]
        rw [← this]
      rw [hrow]
      refine reads_loop b [raw, q2, q.take j, markB ++ raw, q2 ++ [turn]] (fun x hx => ?_) (by simp) [raw, q2, q.take j, markB ++ raw, q2 ++ [turn]] 0 rfl (by omega)
      simp only [List.mem_cons, List.not_mem_nil, or_false] at hx
      rcases hx with rfl | rfl | rfl | rfl | rfl <;> omega
    · rw [if_pos (by simp; omega), pB_some]
  · rw [if_neg (by simp; omega), pB_some]
theorem bytes_of {p : List F} {t : TypeId} (h : Ty Tryd.prog t p) (hs : ∀ {q : List F}, Ty Tryd.prog t q → ∃ raw : List UInt8, q = [.lst raw.length (raw.flatMap fun x : UInt8 => [F.s (.int .u8 (x.toNat : Nat))])]) : ∃ raw : List UInt8, p = [.lst raw.length (bF raw)] := by
  obtain ⟨raw, hr⟩ := hs h
  refine ⟨raw, ?_⟩
  rw [hr]
  simp [bF, List.map_eq_flatMap]
theorem u8_of {p : List F} (h : Ty Tryd.prog 5 p) : ∃ x : UInt8, p = [F.s (.int .u8 (x.toNat : Nat))] ∧ True := by
  obtain ⟨n, rfl, hn⟩ := h.of_int (k := .u8) (by kernel_rfl)
  obtain ⟨n, rfl, hu⟩ := wf_u8 hn
  exact ⟨UInt8.ofNat n, by simp; omega, trivial⟩
set_option maxRecDepth 100000 in
theorem PackReads_all (l : List (List F)) (h : Args Tryd.prog Tryd.f4.params.toList l) : ∃ h', run w0 4 (argVs Tryd.prog Tryd.f4.params.toList l) [] = some (.ret (B true), h') := by
  obtain ⟨x1, l1, rfl, h1, h⟩ := h.cons_inv
  obtain ⟨x2, l2, rfl, h2, h⟩ := h.cons_inv
  obtain ⟨x3, l3, rfl, h3, h⟩ := h.cons_inv
  obtain ⟨x4, l4, rfl, h4, h⟩ := h.cons_inv
  obtain ⟨x5, l5, rfl, h5, h⟩ := h.cons_inv
  obtain ⟨x6, l6, rfl, h6, h⟩ := h.cons_inv
  obtain rfl := h.nil_inv
  obtain ⟨raw, rfl⟩ := bytes_of h1 fun hq => by
    obtain ⟨raw, hr, _⟩ := hq.slice_of (e := 5) (f := fun x : UInt8 => [F.s (.int .u8 (x.toNat : Nat))]) (ok := fun _ => True) (by kernel_rfl) fun p hp => u8_of hp
    exact ⟨raw, hr⟩
  obtain ⟨g, f, e, acts, rfl, hg, hf, he, _, hx⟩ := draft_of h2
  obtain ⟨n3, rfl, hn3⟩ := h3.of_int (k := .u16) (by kernel_rfl)
  obtain ⟨n3, rfl, hu3⟩ := wf_u16 hn3
  obtain ⟨t, rfl, _⟩ := u8_of h4
  obtain ⟨n5, rfl, hn5⟩ := h5.of_int (k := .u16) (by kernel_rfl)
  obtain ⟨n5, rfl, hu5⟩ := wf_u16 hn5
  obtain ⟨b, rfl⟩ := h6.of_bool (by kernel_rfl)
  have h : run w0 4 [.f (.lst raw.length (bF raw)), .agg [N .u8 g, N .u8 f, N .u8 e, .f (.lst acts.length (actsF acts))], N .u16 n3, N .u8 t.toNat, N .u16 n5, B b] [] = some (.ret (B true), []) := by rw [PackReads_run, PackReads_law raw g f e hg hf he acts hx n3 n5 hu3 hu5 t b, withH_true]
  exact ⟨[], h⟩
end Go.Proofs.YtemnahkpffafoaaDoor
