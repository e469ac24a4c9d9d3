import Derived.Test.YtemnahkpffafoaaDoorPackDef
import Derived.Test.YtemnahkpffafoaaDoorReadSpec
set_option autoImplicit false
namespace Go.Proofs.YtemnahkpffafoaaDoor
open Go Go.Abs
def AddsB (f : FuncId) (xs : List V) (q : List UInt8) : Prop :=
 ∀ ⦃h : H⦄ ⦃k : Nat⦄ ⦃p : List UInt8⦄, h[k]? = some (.fz (bF p)) → (p ++ q).length + 20 ≤ roomB → run w0 f (.ref k 0 p.length 1 :: xs) h = some (.ret (.ref h.length 0 (p ++ q).length 1), h.set k .dead ++ [.fz (bF (p ++ q))])
theorem AddsB.go {f : FuncId} {xs : List V} {q : List UInt8} (a : AddsB f xs q) {h : H} {k L L' : Nat} {p : List UInt8} (hk : h[k]? = some (.fz (bF p))) (hL : h.length = L) (hL' : L + 1 = L') (hr : (p ++ q).length + 20 ≤ roomB) (K : Nat → List F → R) :
  (pO (run w0 f (.ref k 0 p.length 1 :: xs) h) fun v g => (asRef L 1 v).bind fun m => (asFz g L).bind fun c => if g.length = L' then K m c else none) = K (p ++ q).length (bF (p ++ q)) := by
 subst hL; subst hL'
 rw [a hk hr, pO_some]
 simp [asRef, asFz]
theorem keepB {p : List UInt8} {x : R} : (if 0 + (p.length * 1) ≤ (bF p).length then x else none) = x := if_pos (by simp)
theorem takeB (p : List UInt8) : ((bF p).drop 0).take (p.length * 1) = bF p := by rw [List.drop_zero, bF_all' _ _ (by omega)]
theorem AddsB.of {f : FuncId} {fn : Func} (ho : OwnFn w0 f fn [.own 1, .val] [.own 1]) (hn : 2 ≤ fn.ntmps) {x : V} (hv : vals [.val] [x] = true) {q : List UInt8}
  (hc : ∀ p : List UInt8, (p ++ q).length + 20 ≤ roomB → coreOf w0 f fn [.own 1] none [.ref 0 0 p.length 1, x] [.fz (bF p)] = some (.ret (.ref 0 0 (p ++ q).length 1), [.fz (bF (p ++ q))])) : AddsB f [x] q := by
 intro h k p hk hr
 rw [call_row ho hk (by simp) (by simpa using hn) hv, Nat.mul_one, List.drop_zero, bF_all, hc p hr, graft_ref]
 simp
theorem u64_nat (n : Int) : IntKind.wrap .u64 n = (((n % 18446744073709551616).toNat : Nat) : Int) := by rw [wrap_u64]; omega
theorem nuB_len (n : Int) : (nuB n).length ≤ 10 := putB_len (by omega)
theorem own_pnum : OwnFn w0 20 Tryd.f20 [.own 1, .val] [.own 1] := ⟨rfl, by kernel_rfl, rfl, by kernel_rfl, _, _, rfl⟩
theorem own_plist : OwnFn w0 22 Tryd.f22 [.own 1, .val] [.own 1] := ⟨rfl, by kernel_rfl, rfl, by kernel_rfl, _, _, rfl⟩
theorem own_pref : OwnFn w0 45 Tryd.f45 [.own 1, .val] [.own 1] := ⟨rfl, by kernel_rfl, rfl, by kernel_rfl, _, _, rfl⟩
theorem own_pbody : OwnFn w0 23 Tryd.f23 [.own 1, .val] [.own 1] := ⟨rfl, by kernel_rfl, rfl, by kernel_rfl, _, _, rfl⟩
theorem Put_adds {n : Nat} (hn : n < 18446744073709551616) : AddsB 44 [N .u64 n] (putB n) := by
 intro h k p hk hr
 exact Put_at hk (by rw [List.length_append] at hr; unfold roomB at hr ⊢; omega) hn
theorem pnum_adds (n : Int) : AddsB 20 [N .i64 n] (nuB n) := by
 refine AddsB.of own_pnum (of_decide_eq_true (by kernel_rfl)) rfl fun p hr => ?_
 have e : coreOf w0 20 Tryd.f20 [.own 1] none [.ref 0 0 p.length 1, N .i64 n] [.fz (bF p)] = pnum_0 (bF p) p.length n := rfl
 rw [e, pnum_eq, u64_nat, (Put_adds (n := (n % 18446744073709551616).toNat) (by omega)).go (h := [.fz (bF p)]) (k := 0) (L := 1) (L' := 2) rfl rfl rfl hr, keepB, takeB]
 rfl
theorem plist_loop (l : List Int) (hl : l.length ≤ 1048576) : ∀ (rest : List Int) (i : Nat) (p : List UInt8), l.drop i = rest → (p ++ rest.flatMap nuB).length + 20 ≤ roomB →
  plist_1 p.length l.length (kF .i64 l) l.length i (bF p) = some (.ret (.ref 0 0 (p ++ rest.flatMap nuB).length 1), [.fz (bF (p ++ rest.flatMap nuB))])
 | [], i, p, hd, hr => by
  have := done_of_drop hd
  rw [plist_1_eq, if_neg (by simp; omega), keepB, takeB, List.flatMap_nil, List.append_nil]
 | n :: rest, i, p, hd, hr => by
  have hlt := lt_of_drop hd
  rw [List.flatMap_cons, ← List.append_assoc] at hr ⊢
  rw [plist_1_eq, if_pos (decide_eq_true (by omega)), elem_kF hd, atI_zero, (pnum_adds n).go (h := [.fz (bF p)]) (k := 0) (L := 1) (L' := 2) rfl rfl rfl (by rw [List.length_append] at hr; omega), keepB, takeB,
   show ((i : Nat) : Int) + 1 = ((i + 1 : Nat) : Int) by omega, wrap_i64 (by omega) (by omega), plist_loop l hl rest (i + 1) (p ++ nuB n) (drop_next hd) hr]
theorem plist_adds (l : List Int) (hl : l.length ≤ 1048576) : AddsB 22 [.f (.lst l.length (kF .i64 l))] (listB l) := by
 refine AddsB.of own_plist (of_decide_eq_true (by kernel_rfl)) rfl fun p hr => ?_
 have e : coreOf w0 22 Tryd.f22 [.own 1] none [.ref 0 0 p.length 1, .f (.lst l.length (kF .i64 l))] [.fz (bF p)] = plist_0 (bF p) p.length l.length (kF .i64 l) := rfl
 unfold listB at hr ⊢
 rw [← List.append_assoc] at hr ⊢
 rw [e, plist_eq, (pnum_adds (l.length : Nat)).go (h := [.fz (bF p)]) (k := 0) (L := 1) (L' := 2) rfl rfl rfl (by rw [List.length_append] at hr; omega), keepB, takeB]
 exact plist_loop l hl l 0 _ rfl hr
theorem okRef_k {r : MRef} (h : okRef r) : 0 ≤ r.k ∧ r.k ≤ 4 ∧ 0 ≤ r.id ∧ r.id ≤ 200000 := by
 rcases h with rfl | ⟨h1, h2, h3, h4⟩
 ·exact ⟨by decide, by decide, by decide, by decide⟩
 ·exact ⟨by omega, h2, h3, h4⟩
theorem pref_adds {r : MRef} (h : okRef r) : AddsB 45 [.agg (refV r)] (refB r) := by
 obtain ⟨h1, h2, h3, h4⟩ := okRef_k h
 refine AddsB.of own_pref (of_decide_eq_true (by kernel_rfl)) rfl fun p hr => ?_
 have e : coreOf w0 45 Tryd.f45 [.own 1] none [.ref 0 0 p.length 1, .agg (refV r)] [.fz (bF p)] = pref_0 (bF p) p.length r.k r.id := rfl
 unfold refB refN at hr ⊢
 rw [e, pref_eq]
 by_cases h0 : r.k = 0
 ·rw [if_pos h0] at hr ⊢
  rw [if_pos (by simp [h0]), (pnum_adds 0).go (h := [.fz (bF p), .cells [N .u8 r.k, N .i64 r.id]]) (k := 0) (L := 2) (L' := 3) rfl rfl rfl hr, keepB, takeB]
 ·rw [if_neg h0] at hr ⊢
  rw [if_neg (by simpa using h0), wrap_i64 (n := 4 * r.id) (by omega) (by omega), wrap_i64 (n := r.k) (by omega) (by omega), wrap_i64 (by omega) (by omega),
   (pnum_adds (4 * r.id + r.k)).go (h := [.fz (bF p), .cells [N .u8 r.k, N .i64 r.id]]) (k := 0) (L := 2) (L' := 3) rfl rfl rfl hr, keepB, takeB]
noncomputable abbrev PB1 (body : List MStmt) (i : Nat) (p : List UInt8) : R := pbody_1 p.length body.length (stmtsF body) body.length i (bF p)
theorem pbody_args (body : List MStmt) (i : Nat) (hi : i < 4611686018427387904) (a b : MRef) (ha : okRef a) (hb : okRef b) (args : List MRef) (sb : List MStmt) (hl : args.length ≤ 1048576) (hok : ∀ r ∈ args, okRef r) : ∀ (rest : List MRef) (j : Nat) (p : List UInt8), args.drop j = rest → (p ++ (rest.flatMap refB ++ (refB a ++ refB b))).length + 20 ≤ roomB →
  pbody_2 p.length 5 a.k a.id b.k b.id args.length (refsF args) sb.length (stmtsF sb) body.length (stmtsF body) body.length i args.length (refsF args) args.length j (bF p) = PB1 body (i + 1) (p ++ (rest.flatMap refB ++ (refB a ++ refB b)))
 | [], j, p, hd, hr => by
  have := done_of_drop hd
  rw [List.flatMap_nil, List.nil_append, ← List.append_assoc] at hr ⊢
  rw [pbody_2_eq, if_neg (by simp; omega), if_pos (by decide), (pref_adds ha).go (h := [.fz (bF p)]) (k := 0) (L := 1) (L' := 2) rfl rfl rfl (by rw [List.length_append] at hr; omega),
   (pref_adds hb).go (h := [.dead, .fz (bF (p ++ refB a))]) (k := 1) (L := 2) (L' := 3) rfl rfl rfl hr, keepB, takeB, show ((i : Nat) : Int) + 1 = ((i + 1 : Nat) : Int) by omega, wrap_i64 (by omega) (by omega)]
 | r :: rest, j, p, hd, hr => by
  have hlt := lt_of_drop hd
  have hm : r ∈ args := List.mem_of_mem_drop (by rw [hd]; simp : r ∈ args.drop j)
  rw [List.flatMap_cons, List.append_assoc, ← List.append_assoc] at hr ⊢
  rw [pbody_2_eq, if_pos (decide_eq_true (by omega)), elem_next MRef.F_len hd]
  simp only [MRef.F, List.cons_append, List.nil_append, atI_zero, atI_succ]
  rw [(pref_adds (hok r hm)).go (h := [.fz (bF p), .cells [N .u8 r.k, N .i64 r.id]]) (k := 0) (L := 2) (L' := 3) rfl rfl rfl (by rw [List.length_append] at hr; omega), keepB, takeB,
   show ((j : Nat) : Int) + 1 = ((j + 1 : Nat) : Int) by omega, wrap_i64 (by omega) (by omega), pbody_args body i hi a b ha hb args sb hl hok rest (j + 1) (p ++ refB r) (drop_next hd) hr]
def okBody (n : Nat) (body : List MStmt) : Prop := body.length ≤ 1048576 ∧ ∀ s ∈ body, okSt n s
theorem pbody_loop (n : Nat) (ih : ∀ body, okBody n body → AddsB 23 [.f (.lst body.length (stmtsF body))] (bodyB body)) (body : List MStmt) (hl : body.length ≤ 1048576) : ∀ (rest : List MStmt) (i : Nat) (p : List UInt8), body.drop i = rest → (∀ s ∈ rest, okSt (n + 1) s) → (p ++ rest.flatMap stmtB).length + 20 ≤ roomB →
  PB1 body i p = some (.ret (.ref 0 0 (p ++ rest.flatMap stmtB).length 1), [.fz (bF (p ++ rest.flatMap stmtB))])
 | [], i, p, hd, hs, hr => by
  have := done_of_drop hd
  unfold PB1
  rw [pbody_1_eq, if_neg (by simp; omega), keepB, takeB, List.flatMap_nil, List.append_nil]
 | s :: rest, i, p, hd, hs, hr => by
  have hlt := lt_of_drop hd
  rw [List.flatMap_cons, ← List.append_assoc] at hr ⊢
  have next := pbody_loop n ih body hl rest (i + 1) (p ++ stmtB s) (drop_next hd) (fun x hx => hs x (by simp [hx])) hr
  have hok := hs s (by simp)
  obtain ⟨k, a, b, args, sb⟩ := s
  obtain ⟨k0, k7, hok⟩ := hok
  have hw : IntKind.wrap .i64 ((i : Int) + 1) = ((i + 1 : Nat) : Int) := by rw [show ((i : Nat) : Int) + 1 = ((i + 1 : Nat) : Int) by omega, wrap_i64 (by omega) (by omega)]
  unfold PB1 at next ⊢
  rw [← next]
  rw [List.length_append] at hr
  rw [pbody_1_eq, if_pos (decide_eq_true (by omega)), elem_next MStmt.F_len hd]
  simp only [MStmt.F_eq, List.cons_append, List.nil_append, atI_zero, atI_succ, atL_zero, atL_succ, MStmt.kind, MStmt.a, MStmt.b, MStmt.args, MStmt.body]
  rw [stmtB] at hr ⊢
  rw [wrap_i64 (n := k) (by omega) (by omega), hw]
  rw [(pnum_adds k).go (h := [.fz (bF p), .cells [N .u8 k, N .u8 a.k, N .i64 a.id, N .u8 b.k, N .i64 b.id, .f (.lst args.length (refsF args)), .f (.lst sb.length (stmtsF sb))]]) (k := 0) (L := 2) (L' := 3) rfl rfl rfl (by rw [List.length_append] at hr ⊢; simp only [List.length_append] at hr; omega)]
  by_cases h7 : k = 7
  ·subst h7
   rw [if_pos (show (7 : Int) = 7 from rfl)] at hok hr ⊢
   obtain ⟨_, _, _, hb1, hb2⟩ := hok
   rw [stmtsB_flat] at hr ⊢
   have hb := ih sb ⟨hb1, hb2⟩
   unfold bodyB at hb
   rw [← List.append_assoc p, if_pos (by rfl)]
   rw [hb.go (h := [.dead, .cells [N .u8 7, N .u8 a.k, N .i64 a.id, N .u8 b.k, N .i64 b.id, .f (.lst args.length (refsF args)), .f (.lst sb.length (stmtsF sb))], .fz (bF (p ++ nuB 7))]) (k := 2) (L := 3) (L' := 4) rfl rfl rfl (by simp only [List.length_append] at hr ⊢; omega), keepB, takeB]
  ·rw [if_neg h7] at hok hr ⊢
   obtain ⟨_, hb, hargs, ha⟩ := hok
   rw [if_neg (by simpa using h7)]
   have ha' : okRef a := by
    by_cases h6 : k = 6
    ·rw [if_pos h6] at ha; exact .inl ha
    ·rw [if_neg h6] at ha; exact ha
   by_cases h5 : k = 5
   ·subst h5
    rw [if_pos (show (5 : Int) = 5 from rfl)] at hargs hr ⊢
    rw [if_pos (show (5 : Int) ≠ 6 by decide)] at hr ⊢
    rw [if_pos (by rfl)]
    rw [(pnum_adds (args.length : Nat)).go (h := [.dead, .cells [N .u8 5, N .u8 a.k, N .i64 a.id, N .u8 b.k, N .i64 b.id, .f (.lst args.length (refsF args)), .f (.lst sb.length (stmtsF sb))], .fz (bF (p ++ nuB 5))]) (k := 2) (L := 3) (L' := 4) rfl rfl rfl (by simp only [List.length_append] at hr ⊢; omega), keepB, takeB]
    have := pbody_args body i (by omega) a b ha' hb args sb hargs.1 hargs.2 args 0 (p ++ nuB 5 ++ nuB args.length) rfl (by simp only [List.length_append] at hr ⊢; omega)
    refine this.trans ?_
    unfold PB1
    simp only [List.append_assoc]
   ·rw [if_neg h5] at hargs hr ⊢
    rw [if_neg (by simpa using h5)]
    by_cases h6 : k = 6
    ·rw [if_neg (show ¬ (k ≠ 6) from fun h => h h6)] at hr ⊢
     rw [if_neg (by simp [h6])]
     rw [(pref_adds hb).go (h := [.dead, .cells [N .u8 k, N .u8 a.k, N .i64 a.id, N .u8 b.k, N .i64 b.id, .f (.lst args.length (refsF args)), .f (.lst sb.length (stmtsF sb))], .fz (bF (p ++ nuB k))]) (k := 2) (L := 3) (L' := 4) rfl rfl rfl (by simp only [List.length_append] at hr ⊢; omega), keepB, takeB]
     simp only [List.nil_append, List.append_assoc]
    ·rw [if_pos (show k ≠ 6 from h6)] at hr ⊢
     rw [if_pos (by simpa using h6)]
     rw [(pref_adds ha').go (h := [.dead, .cells [N .u8 k, N .u8 a.k, N .i64 a.id, N .u8 b.k, N .i64 b.id, .f (.lst args.length (refsF args)), .f (.lst sb.length (stmtsF sb))], .fz (bF (p ++ nuB k))]) (k := 2) (L := 3) (L' := 4) rfl rfl rfl (by simp only [List.length_append] at hr ⊢; omega),
      (pref_adds hb).go (h := [.dead, .cells [N .u8 k, N .u8 a.k, N .i64 a.id, N .u8 b.k, N .i64 b.id, .f (.lst args.length (refsF args)), .f (.lst sb.length (stmtsF sb))], .dead, .fz (bF (p ++ nuB k ++ refB a))]) (k := 3) (L := 4) (L' := 5) rfl rfl rfl (by simp only [List.length_append] at hr ⊢; omega), keepB, takeB]
     simp only [List.nil_append, List.append_assoc]
theorem pbody_adds : ∀ (n : Nat) (body : List MStmt), okBody n body → AddsB 23 [.f (.lst body.length (stmtsF body))] (bodyB body)
 | 0, body, hb => by
  cases body with
  | cons s r => exact (hb.2 s (by simp)).elim
  | nil =>
   refine AddsB.of own_pbody (of_decide_eq_true (by kernel_rfl)) rfl fun p hr => ?_
   have e : coreOf w0 23 Tryd.f23 [.own 1] none [.ref 0 0 p.length 1, .f (.lst ([] : List MStmt).length (stmtsF []))] [.fz (bF p)] = pbody_0 (bF p) p.length 0 [] := rfl
   have e2 : bodyB [] = nuB ((0 : Nat) : Int) := by unfold bodyB; simp
   rw [e2] at hr ⊢
   rw [e, pbody_eq, (pnum_adds ((0 : Nat) : Int)).go (h := [.fz (bF p)]) (k := 0) (L := 1) (L' := 2) rfl rfl rfl hr, keepB, takeB, pbody_1_eq, if_neg (by simp), keepB, takeB]
 | n + 1, body, hb => by
  refine AddsB.of own_pbody (of_decide_eq_true (by kernel_rfl)) rfl fun p hr => ?_
  have e : coreOf w0 23 Tryd.f23 [.own 1] none [.ref 0 0 p.length 1, .f (.lst body.length (stmtsF body))] [.fz (bF p)] = pbody_0 (bF p) p.length body.length (stmtsF body) := rfl
  unfold bodyB at hr ⊢
  rw [← List.append_assoc] at hr ⊢
  rw [e, pbody_eq, (pnum_adds (body.length : Nat)).go (h := [.fz (bF p)]) (k := 0) (L := 1) (L' := 2) rfl rfl rfl (by rw [List.length_append] at hr; omega), keepB, takeB]
  exact pbody_loop n (pbody_adds n) body hb.1 body 0 _ rfl hb.2 hr
end Go.Proofs.YtemnahkpffafoaaDoor
