import Derived.Test.YtemnahkpffafoaaDoorPackSpec
set_option autoImplicit false
namespace Go.Proofs.YtemnahkpffafoaaDoor
open Go Go.Abs
theorem own_lnum : OwnFn w0 30 Tryd.f30 [.own 1, .val] [.own 1] := ⟨rfl, by kernel_rfl, rfl, by kernel_rfl, _, _, rfl⟩
theorem own_llist : OwnFn w0 31 Tryd.f31 [.own 1, .val] [.own 1] := ⟨rfl, by kernel_rfl, rfl, by kernel_rfl, _, _, rfl⟩
theorem own_lref : OwnFn w0 55 Tryd.f55 [.own 1, .val] [.own 1] := ⟨rfl, by kernel_rfl, rfl, by kernel_rfl, _, _, rfl⟩
theorem own_lbody : OwnFn w0 32 Tryd.f32 [.own 1, .val] [.own 1] := ⟨rfl, by kernel_rfl, rfl, by kernel_rfl, _, _, rfl⟩
theorem lnum_adds (n : Int) : AddsB 30 [N .i64 n] (nuB n) := by
 refine AddsB.of own_lnum (of_decide_eq_true (by kernel_rfl)) rfl fun p hr => ?_
 have e : coreOf w0 30 Tryd.f30 [.own 1] none [.ref 0 0 p.length 1, N .i64 n] [.fz (bF p)] = lnum_0 (bF p) p.length n := rfl
 have hq := nuB_len n
 have hr2 : p.length + (nuB n).length + 20 ≤ roomB := by rw [List.length_append] at hr; exact hr
 unfold roomB at hr2
 rw [e, lnum_eq, u64_nat, rPut_at (by omega), pO_some]
 have hd : putB (n % 18446744073709551616).toNat = nuB n := rfl
 rw [hd]
 simp only [asRef, asFz, List.length_cons, List.length_nil, List.cons_append, List.nil_append, List.getElem?_cons_zero, List.getElem?_cons_succ, and_self, true_and, if_true, Option.bind_some, Nat.zero_add, Nat.mul_one, List.drop_zero]
 rw [if_pos (by simp), bF_all, if_pos (by simp), if_pos (by omega), if_pos (by simp), bF_all, ← bF_append, if_pos (by simp), bF_all' _ _ (by simp)]
 rw [List.length_append]
theorem llist_loop (l : List Int) (hl : l.length ≤ 1048576) : ∀ (rest : List Int) (i : Nat) (p : List UInt8), l.drop i = rest → (p ++ rest.flatMap nuB).length + 20 ≤ roomB →
  llist_1 p.length l.length (kF .i64 l) i (bF p) = some (.ret (.ref 0 0 (p ++ rest.flatMap nuB).length 1), [.fz (bF (p ++ rest.flatMap nuB))])
 | [], i, p, hd, hr => by
  have := done_of_drop hd
  rw [llist_1_eq, if_neg (by simp; omega), keepB, takeB, List.flatMap_nil, List.append_nil]
 | n :: rest, i, p, hd, hr => by
  have hlt := lt_of_drop hd
  rw [List.flatMap_cons, ← List.append_assoc] at hr ⊢
  rw [llist_1_eq, if_pos (decide_eq_true (by omega)), elem_kF hd, atI_zero, (lnum_adds n).go (h := [.fz (bF p)]) (k := 0) (L := 1) (L' := 2) rfl rfl rfl (by rw [List.length_append] at hr; omega), keepB, takeB,
   show ((i : Nat) : Int) + 1 = ((i + 1 : Nat) : Int) by omega, wrap_i64 (by omega) (by omega), llist_loop l hl rest (i + 1) (p ++ nuB n) (drop_next hd) hr]
theorem llist_adds (l : List Int) (hl : l.length ≤ 1048576) : AddsB 31 [.f (.lst l.length (kF .i64 l))] (listB l) := by
 refine AddsB.of own_llist (of_decide_eq_true (by kernel_rfl)) rfl fun p hr => ?_
 have e : coreOf w0 31 Tryd.f31 [.own 1] none [.ref 0 0 p.length 1, .f (.lst l.length (kF .i64 l))] [.fz (bF p)] = llist_0 (bF p) p.length l.length (kF .i64 l) := rfl
 unfold listB at hr ⊢
 rw [← List.append_assoc] at hr ⊢
 rw [e, llist_eq, (lnum_adds (l.length : Nat)).go (h := [.fz (bF p)]) (k := 0) (L := 1) (L' := 2) rfl rfl rfl (by rw [List.length_append] at hr; omega), keepB, takeB]
 exact llist_loop l hl l 0 _ rfl hr
theorem lref_adds {r : MRef} (h : okRef r) : AddsB 55 [.agg (refV r)] (refB r) := by
 obtain ⟨h1, h2, h3, h4⟩ := okRef_k h
 refine AddsB.of own_lref (of_decide_eq_true (by kernel_rfl)) rfl fun p hr => ?_
 have e : coreOf w0 55 Tryd.f55 [.own 1] none [.ref 0 0 p.length 1, .agg (refV r)] [.fz (bF p)] = lref_0 (bF p) p.length r.k r.id := rfl
 unfold refB refN at hr ⊢
 rw [e, lref_eq]
 by_cases h0 : r.k = 0
 ·rw [if_pos h0] at hr ⊢
  rw [if_pos (by simp [h0]), (lnum_adds 0).go (h := [.fz (bF p), .cells [N .u8 r.k, N .i64 r.id]]) (k := 0) (L := 2) (L' := 3) rfl rfl rfl hr, keepB, takeB]
 ·rw [if_neg h0] at hr ⊢
  rw [if_neg (by simpa using h0), wrap_i64 (n := 4 * r.id) (by omega) (by omega), wrap_i64 (n := r.k) (by omega) (by omega), wrap_i64 (by omega) (by omega),
   (lnum_adds (4 * r.id + r.k)).go (h := [.fz (bF p), .cells [N .u8 r.k, N .i64 r.id]]) (k := 0) (L := 2) (L' := 3) rfl rfl rfl hr, keepB, takeB]
noncomputable abbrev LB1 (body : List MStmt) (i : Nat) (p : List UInt8) : R := lbody_1 p.length body.length (stmtsF body) i (bF p)
theorem lbody_args (body : List MStmt) (i : Nat) (hi : i < 4611686018427387904) (a b : MRef) (ha : okRef a) (hb : okRef b) (args : List MRef) (sb : List MStmt) (hl : args.length ≤ 1048576) (hok : ∀ r ∈ args, okRef r) : ∀ (rest : List MRef) (j : Nat) (p : List UInt8), args.drop j = rest → (p ++ (rest.flatMap refB ++ (refB a ++ refB b))).length + 20 ≤ roomB →
  lbody_2 p.length body.length (stmtsF body) i 5 a.k a.id b.k b.id args.length (refsF args) sb.length (stmtsF sb) j (bF p) = LB1 body (i + 1) (p ++ (rest.flatMap refB ++ (refB a ++ refB b)))
 | [], j, p, hd, hr => by
  have := done_of_drop hd
  rw [List.flatMap_nil, List.nil_append, ← List.append_assoc] at hr ⊢
  rw [lbody_2_eq, if_neg (by simp; omega), if_pos (by decide), (lref_adds ha).go (h := [.fz (bF p)]) (k := 0) (L := 1) (L' := 2) rfl rfl rfl (by rw [List.length_append] at hr; omega),
   (lref_adds hb).go (h := [.dead, .fz (bF (p ++ refB a))]) (k := 1) (L := 2) (L' := 3) rfl rfl rfl hr, keepB, takeB, show ((i : Nat) : Int) + 1 = ((i + 1 : Nat) : Int) by omega, wrap_i64 (by omega) (by omega)]
 | r :: rest, j, p, hd, hr => by
  have hlt := lt_of_drop hd
  have hm : r ∈ args := List.mem_of_mem_drop (by rw [hd]; simp : r ∈ args.drop j)
  rw [List.flatMap_cons, List.append_assoc, ← List.append_assoc] at hr ⊢
  rw [lbody_2_eq, if_pos (decide_eq_true (by omega)), elem_next MRef.F_len hd]
  simp only [MRef.F, List.cons_append, List.nil_append, atI_zero, atI_succ]
  rw [(lref_adds (hok r hm)).go (h := [.fz (bF p)]) (k := 0) (L := 1) (L' := 2) rfl rfl rfl (by rw [List.length_append] at hr; omega), keepB, takeB,
   show ((j : Nat) : Int) + 1 = ((j + 1 : Nat) : Int) by omega, wrap_i64 (by omega) (by omega), lbody_args body i hi a b ha hb args sb hl hok rest (j + 1) (p ++ refB r) (drop_next hd) hr]
theorem lbody_loop (n : Nat) (ih : ∀ body, okBody n body → AddsB 32 [.f (.lst body.length (stmtsF body))] (bodyB body)) (body : List MStmt) (hl : body.length ≤ 1048576) : ∀ (rest : List MStmt) (i : Nat) (p : List UInt8), body.drop i = rest → (∀ s ∈ rest, okSt (n + 1) s) → (p ++ rest.flatMap stmtB).length + 20 ≤ roomB →
  LB1 body i p = some (.ret (.ref 0 0 (p ++ rest.flatMap stmtB).length 1), [.fz (bF (p ++ rest.flatMap stmtB))])
 | [], i, p, hd, hs, hr => by
  have := done_of_drop hd
  unfold LB1
  rw [lbody_1_eq, if_neg (by simp; omega), keepB, takeB, List.flatMap_nil, List.append_nil]
 | s :: rest, i, p, hd, hs, hr => by
  have hlt := lt_of_drop hd
  rw [List.flatMap_cons, ← List.append_assoc] at hr ⊢
  have next := lbody_loop n ih body hl rest (i + 1) (p ++ stmtB s) (drop_next hd) (fun x hx => hs x (by simp [hx])) hr
  have hok := hs s (by simp)
  obtain ⟨k, a, b, args, sb⟩ := s
  obtain ⟨k0, k7, hok⟩ := hok
  have hw : IntKind.wrap .i64 ((i : Int) + 1) = ((i + 1 : Nat) : Int) := by rw [show ((i : Nat) : Int) + 1 = ((i + 1 : Nat) : Int) by omega, wrap_i64 (by omega) (by omega)]
  unfold LB1 at next ⊢
  rw [← next]
  rw [List.length_append] at hr
  rw [lbody_1_eq, if_pos (decide_eq_true (by omega)), elem_next MStmt.F_len hd]
  simp only [MStmt.F_eq, List.cons_append, List.nil_append, atI_zero, atI_succ, atL_zero, atL_succ, MStmt.kind, MStmt.a, MStmt.b, MStmt.args, MStmt.body]
  rw [stmtB] at hr ⊢
  rw [wrap_i64 (n := k) (by omega) (by omega), hw]
  rw [(lnum_adds k).go (h := [.fz (bF p), .cells [N .u8 k, N .u8 a.k, N .i64 a.id, N .u8 b.k, N .i64 b.id, .f (.lst args.length (refsF args)), .f (.lst sb.length (stmtsF sb))]]) (k := 0) (L := 2) (L' := 3) rfl rfl rfl (by rw [List.length_append] at hr ⊢; simp only [List.length_append] at hr; omega)]
  by_cases h7 : k = 7
  ·subst h7
   rw [if_pos (show (7 : Int) = 7 from rfl)] at hok hr ⊢
   obtain ⟨_, _, _, hb1, hb2⟩ := hok
   rw [stmtsB_flat] at hr ⊢
   have hb := ih sb ⟨hb1, hb2⟩
   unfold bodyB at hb
   rw [← List.append_assoc p, if_pos (by rfl)]
   rw [hb.go (h := [.dead, .cells [N .u8 7, N .u8 a.k, N .i64 a.id, N .u8 b.k, N .i64 b.id, .f (.lst args.length (refsF args)), .f (.lst sb.length (stmtsF sb))], .fz (bF (p ++ nuB 7))]) (k := 2) (L := 3) (L' := 4) rfl rfl rfl (by simp only [List.length_append] at hr ⊢; omega), keepB, takeB]
  ·rw [if_neg h7] at hok hr ⊢
   obtain ⟨_, hb, hargs, ha⟩ := hok
   rw [if_neg (by simpa using h7)]
   have ha' : okRef a := by
    by_cases h6 : k = 6
    ·rw [if_pos h6] at ha; exact .inl ha
    ·rw [if_neg h6] at ha; exact ha
   by_cases h5 : k = 5
   ·subst h5
    rw [if_pos (show (5 : Int) = 5 from rfl)] at hargs hr ⊢
    rw [if_pos (show (5 : Int) ≠ 6 by decide)] at hr ⊢
    rw [if_pos (by rfl)]
    rw [(lnum_adds (args.length : Nat)).go (h := [.dead, .cells [N .u8 5, N .u8 a.k, N .i64 a.id, N .u8 b.k, N .i64 b.id, .f (.lst args.length (refsF args)), .f (.lst sb.length (stmtsF sb))], .fz (bF (p ++ nuB 5))]) (k := 2) (L := 3) (L' := 4) rfl rfl rfl (by simp only [List.length_append] at hr ⊢; omega), keepB, takeB]
    have := lbody_args body i (by omega) a b ha' hb args sb hargs.1 hargs.2 args 0 (p ++ nuB 5 ++ nuB args.length) rfl (by simp only [List.length_append] at hr ⊢; omega)
    refine this.trans ?_
    unfold LB1
    simp only [List.append_assoc]
   ·rw [if_neg h5] at hargs hr ⊢
    rw [if_neg (by simpa using h5)]
    by_cases h6 : k = 6
    ·rw [if_neg (show ¬ (k ≠ 6) from fun h => h h6)] at hr ⊢
     rw [if_neg (by simp [h6])]
     rw [(lref_adds hb).go (h := [.dead, .cells [N .u8 k, N .u8 a.k, N .i64 a.id, N .u8 b.k, N .i64 b.id, .f (.lst args.length (refsF args)), .f (.lst sb.length (stmtsF sb))], .fz (bF (p ++ nuB k))]) (k := 2) (L := 3) (L' := 4) rfl rfl rfl (by simp only [List.length_append] at hr ⊢; omega), keepB, takeB]
     simp only [List.nil_append, List.append_assoc]
    ·rw [if_pos (show k ≠ 6 from h6)] at hr ⊢
     rw [if_pos (by simpa using h6)]
     rw [(lref_adds ha').go (h := [.dead, .cells [N .u8 k, N .u8 a.k, N .i64 a.id, N .u8 b.k, N .i64 b.id, .f (.lst args.length (refsF args)), .f (.lst sb.length (stmtsF sb))], .fz (bF (p ++ nuB k))]) (k := 2) (L := 3) (L' := 4) rfl rfl rfl (by simp only [List.length_append] at hr ⊢; omega),
      (lref_adds hb).go (h := [.dead, .cells [N .u8 k, N .u8 a.k, N .i64 a.id, N .u8 b.k, N .i64 b.id, .f (.lst args.length (refsF args)), .f (.lst sb.length (stmtsF sb))], .dead, .fz (bF (p ++ nuB k ++ refB a))]) (k := 3) (L := 4) (L' := 5) rfl rfl rfl (by simp only [List.length_append] at hr ⊢; omega), keepB, takeB]
     simp only [List.nil_append, List.append_assoc]
theorem lbody_adds : ∀ (n : Nat) (body : List MStmt), okBody n body → AddsB 32 [.f (.lst body.length (stmtsF body))] (bodyB body)
 | 0, body, hb => by
  cases body with
  | cons s r => exact (hb.2 s (by simp)).elim
  | nil =>
   refine AddsB.of own_lbody (of_decide_eq_true (by kernel_rfl)) rfl fun p hr => ?_
   have e : coreOf w0 32 Tryd.f32 [.own 1] none [.ref 0 0 p.length 1, .f (.lst ([] : List MStmt).length (stmtsF []))] [.fz (bF p)] = lbody_0 (bF p) p.length 0 [] := rfl
   have e2 : bodyB [] = nuB ((0 : Nat) : Int) := by unfold bodyB; simp
   rw [e2] at hr ⊢
   rw [e, lbody_eq, (lnum_adds ((0 : Nat) : Int)).go (h := [.fz (bF p)]) (k := 0) (L := 1) (L' := 2) rfl rfl rfl hr, keepB, takeB, lbody_1_eq, if_neg (by simp), keepB, takeB]
 | n + 1, body, hb => by
  refine AddsB.of own_lbody (of_decide_eq_true (by kernel_rfl)) rfl fun p hr => ?_
  have e : coreOf w0 32 Tryd.f32 [.own 1] none [.ref 0 0 p.length 1, .f (.lst body.length (stmtsF body))] [.fz (bF p)] = lbody_0 (bF p) p.length body.length (stmtsF body) := rfl
  unfold bodyB at hr ⊢
  rw [← List.append_assoc] at hr ⊢
  rw [e, lbody_eq, (lnum_adds (body.length : Nat)).go (h := [.fz (bF p)]) (k := 0) (L := 1) (L' := 2) rfl rfl rfl (by rw [List.length_append] at hr; omega), keepB, takeB]
  exact lbody_loop n (lbody_adds n) body hb.1 body 0 _ rfl hb.2 hr
end Go.Proofs.YtemnahkpffafoaaDoor
