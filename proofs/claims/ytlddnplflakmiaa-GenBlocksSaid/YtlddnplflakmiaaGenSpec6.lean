/-
  The program's own constraints of a statement, and of a function's object.
-/
import Derived.Test.YtlddnplflakmiaaGenSpec5
set_option autoImplicit false
set_option linter.unusedVariables false
set_option linter.unusedSimpArgs false
namespace Go.Proofs.Ytlddnplflakmiaa
open Go Go.Abs
/-- what a statement must keep -/
def okS (m : Mod) (s : MStmt) : Prop := kindsR s = true ∧ s.args.length ≤ 100 ∧ (s.kind = 5 → s.b.k = 3 → ∃ g, getF m s.b.id = some g ∧ s.args.length ≤ g.locals.length)
theorem varR_iff {r : MRef} : varR r = true ↔ r.k = 1 ∨ r.k = 2 := by simp [varR]
section
variable (m : Mod) (hm : okM m)
theorem gVarP_var {fn : Int} {r : MRef} (h : varR r = true) : gVarP m fn r = posAt (ofR fn r) 0 (varsR m) := if_pos (varR_iff.1 h)
theorem args_next {n k : Nat} {g : MFun} (h1 : m.funcs[n]? = some g) (hk : k < g.locals.length) : posAt (1, (n : Int), (k : Int)) 0 (varsR m) = firstR m n + k := by
  have hg : getF m (n : Int) = some g := by unfold getF; rw [if_pos (by omega), Int.toNat_natCast, h1]
  have e : inV g 1 (k : Int) = k := by unfold inV; rw [if_pos ⟨rfl, by omega, by omega⟩]
  rw [vars_pos m 1 _ _ (by omega), hg]
  dsimp only
  rw [e, if_pos (by omega), Int.toNat_natCast]
include hm in
theorem gmfunction_loop {n : Nat} {g : MFun} (h1 : m.funcs[n]? = some g) (b : Bool) (x v : Int) (bb : Bool) : ∀ (rest k : Nat) (ar : List Int), k + rest = g.params.toNat → ar.length = k →
    mapL m (gmfunction_1 n) g.params k b x bb v ar.length (kF .i64 ar) = some (.ret (.agg [B bb, N .i64 v, .f (.lst (ar ++ argsT m n k rest).length (kF .i64 (ar ++ argsT m n k rest)))]), [])
  | 0, k, ar, hk, hl => by
    obtain ⟨q1, q2, q3, q4⟩ := hm.2.2 g (List.mem_of_getElem? h1)
    rw [mapL, gmfunction_1_eq, if_neg (by simp; omega)]
    simp only [Nat.zero_add, Nat.mul_one, List.drop_zero]
    rw [if_pos (by simp), List.take_of_length_le (by simp)]
    simp [argsT]
  | rest + 1, k, ar, hk, hl => by
    obtain ⟨q1, q2, q3, q4⟩ := hm.2.2 g (List.mem_of_getElem? h1)
    have hlt := (List.getElem?_eq_some_iff.1 h1).1
    have := first_le m hm (Nat.le_of_lt hlt)
    have ih := gmfunction_loop h1 b x v bb rest (k + 1) (ar ++ [(firstR m n : Int) + k]) (by omega) (by simp; omega)
    rw [mapL, gmfunction_1_eq, if_pos (by simp; omega), first_at m hlt, wrap_i64 (n := (firstR m n : Int) + k) (by omega) (by omega), wrap_i64 (n := (k : Int) + 1) (by omega) (by omega), show ((k : Int) + 1) = ((k + 1 : Nat) : Int) by omega]
    simp only [Nat.zero_add, Nat.mul_one, List.drop_zero]
    rw [if_pos ⟨trivial, by omega⟩, if_pos (by simp), List.take_of_length_le (l := kF .i64 ar) (by simp), if_pos (by simp), List.take_of_length_le (by simp)]
    rw [kF_append, List.length_append, List.length_singleton] at ih
    refine Eq.trans ih ?_
    rw [argsT, args_next m h1 (by omega)]
    simp
include hm in
theorem gmfunction_spec {n : Nat} {g : MFun} (h1 : m.funcs[n]? = some g) (h0 : H) : run w0 31 [.agg (mapV m), I n] h0 = some (.ret (.agg (cellV (cellT m (3, (n : Int), 0)))), h0) := by
  have hg : getF m (n : Int) = some g := by unfold getF; rw [if_pos (by omega), Int.toNat_natCast, h1]
  rw [gmfunction_run, gmfunction_eq, gmResult_spec m hm, pI_some, fun_p h1]
  have h := gmfunction_loop m hm h1 false 0 (posAt (3, (n : Int), 0) 0 (varsR m)) true g.params.toNat 0 [] (by omega) rfl
  refine (congrArg (withH true h0) h).trans ?_
  rw [withH_true]
  unfold cellT
  rw [if_pos rfl, hg]
  simp
include hm in
theorem gmcall1_loop (fn : Int) (s : MStmt) (hs : s.args.length ≤ 100) (hv : ∀ r ∈ s.args, varR r = true) (a b : Int) : ∀ (rest : List MRef) (k : Nat) (ar : List Int), s.args.drop k = rest → k ≤ s.args.length → ar.length = k →
    mapL m (gmcall_1 fn) s.args.length (refsF s.args) s.args.length k 5 a b ar.length (kF .i64 ar) = some (.ret (.f (.lst 1 (consF [⟨5, a, b, ar ++ rest.map fun r => posAt (ofR fn r) 0 (varsR m)⟩]))), [])
  | [], k, ar, hd, hk, hl => by
    have := done_of_drop hd
    rw [mapL, gmcall_1_eq, if_neg (by simp; omega)]
    simp only [Nat.zero_add, Nat.mul_one, List.drop_zero]
    rw [if_pos (by simp), List.take_of_length_le (by simp)]
    simp [consF, MCon.F]
  | r :: rest, k, ar, hd, hk, hl => by
    have hlt := lt_of_drop hd
    have ih := gmcall1_loop fn s hs hv a b rest (k + 1) (ar ++ [posAt (ofR fn r) 0 (varsR m)]) (drop_next hd) (by omega) (by simp; omega)
    rw [mapL, gmcall_1_eq, if_pos (by simp; omega), elem_next MRef.F_len hd]
    simp only [MRef.F, List.cons_append, atI_zero, atI_succ]
    rw [gmVar_spec m hm fn r, pI_some, gVarP_var m (hv r (mem_of_drop hd)), wrap_i64 (by omega) (by omega), show ((k : Int) + 1) = ((k + 1 : Nat) : Int) by omega]
    simp only [Nat.zero_add, Nat.mul_one, List.drop_zero]
    rw [if_pos ⟨trivial, by omega⟩, if_pos (by simp), List.take_of_length_le (l := kF .i64 ar) (by simp), if_pos (by simp), List.take_of_length_le (by simp)]
    rw [kF_append, List.length_append, List.length_singleton] at ih
    refine Eq.trans ih ?_
    simp
include hm in
theorem gmcall2_loop (fn : Int) (s : MStmt) (hs : s.args.length ≤ 100) (hv : ∀ r ∈ s.args, varR r = true) (a : Int) {n : Nat} {g : MFun} (hb : s.b.id = n) (h1 : m.funcs[n]? = some g) (hal : s.args.length ≤ g.locals.length) :
    ∀ (rest : List MRef) (k : Nat) (kk : List MCon), s.args.drop k = rest → k ≤ s.args.length → kk.length = k →
    mapL m (gmcall_2 fn a) s.kind s.a.k s.a.id s.b.k s.b.id s.args.length (refsF s.args) s.body.length (stmtsF s.body) kk.length s.args.length (refsF s.args) s.args.length k (consF kk) =
      some (.ret (.f (.lst (kk ++ (parT m s.b.id k (rest.map fun r => posAt (ofR fn r) 0 (varsR m)) ++ tailT m s.b.id a)).length (consF (kk ++ (parT m s.b.id k (rest.map fun r => posAt (ofR fn r) 0 (varsR m)) ++ tailT m s.b.id a))))), [])
  | [], k, kk, hd, hk, hl => by
    have := done_of_drop hd
    rw [mapL, gmcall_2_eq, if_neg (by simp; omega)]
    by_cases ha : 0 ≤ a
    · have ht : tailT m s.b.id a = [(⟨2, a, posAt (3, s.b.id, 0) 0 (varsR m), []⟩ : MCon)] := if_pos ha
      rw [if_pos (by simpa using ha), ht, gmResult_spec m hm, pI_some]
      simp only [Nat.zero_add, Nat.mul_one, List.drop_zero, row3, row4, row4s, if_true]
      rw [if_pos ⟨trivial, by omega⟩]
      simp [parT, consF, MCon.F, kF]
    · have ht : tailT m s.b.id a = [] := if_neg ha
      rw [if_neg (by simpa using ha), ht]
      simp only [Nat.zero_add, Nat.mul_one, List.drop_zero, row3, row4, row4s, if_true]
      simp [parT]
  | r :: rest, k, kk, hd, hk, hl => by
    have hlt := lt_of_drop hd
    have hnl := (List.getElem?_eq_some_iff.1 h1).1
    have := first_le m hm (Nat.le_of_lt hnl)
    obtain ⟨q1, q2, q3, q4⟩ := hm.2.2 g (List.mem_of_getElem? h1)
    have ih := gmcall2_loop fn s hs hv a hb h1 hal rest (k + 1) (kk ++ [(⟨2, (firstR m n : Int) + k, posAt (ofR fn r) 0 (varsR m), []⟩ : MCon)]) (drop_next hd) (by omega) (by simp; omega)
    rw [mapL, gmcall_2_eq, if_pos (by simp; omega), elem_next MRef.F_len hd]
    simp only [MRef.F, List.cons_append, atI_zero, atI_succ]
    rw [hb, first_at m hnl, gmVar_spec m hm fn r, pI_some, gVarP_var m (hv r (mem_of_drop hd)), wrap_i64 (n := (k : Int) + 1) (by omega) (by omega), wrap_i64 (n := (firstR m n : Int) + k) (by omega) (by omega), show ((k : Int) + 1) = ((k + 1 : Nat) : Int) by omega]
    simp only [Nat.zero_add, Nat.mul_one, List.drop_zero, row3, row4, row4s, if_true]
    rw [if_pos ⟨trivial, by omega⟩]
    have e : consF (kk ++ [(⟨2, (firstR m n : Int) + k, posAt (ofR fn r) 0 (varsR m), []⟩ : MCon)]) = consF kk ++ [F.s (.int .u8 2), F.s (.int .i64 ((firstR m n : Int) + k)), F.s (.int .i64 (posAt (ofR fn r) 0 (varsR m))), F.lst 0 []] := by simp [consF, MCon.F, kF]
    rw [e, List.length_append, List.length_singleton, hb] at ih
    refine Eq.trans ih ?_
    simp only [List.map_cons, parT, args_next m h1 (show k < g.locals.length by omega)]
    simp
include hm in
/-- a statement that is as it should be -/
theorem gmconstraints_spec (fn : Nat) (s : MStmt) (hs : okS m s) (h0 : H) : run w0 33 [.agg (mapV m), I fn, .agg (stmtV s)] h0 = some (.ret (.f (.lst (consT m fn s).length (consF (consT m fn s)))), h0) := by
  obtain ⟨hk, hal, hcall⟩ := hs
  rw [gmconstraints_run, gmconstraints_eq, gmVar_spec m hm fn s.a, pI_some, gmVar_spec m hm fn s.b, pI_some]
  unfold kindsR at hk
  have one : ∀ (k a b : Int), consT m fn s = [⟨k, a, b, []⟩] → withH true h0 (some (.ret (.f (.lst 1 ([F.s (.int .u8 k), F.s (.int .i64 a), F.s (.int .i64 b), F.lst 0 []]))), [])) = some (.ret (.f (.lst (consT m fn s).length (consF (consT m fn s)))), h0) := by
    intro k a b h; rw [h, withH_true]; simp [consF, MCon.F, kF]
  by_cases k1 : s.kind = 1
  · rw [if_pos k1, decide_eq_true_eq] at hk
    obtain ⟨_, _, va, _, _⟩ := hk
    rw [if_pos (by simp [k1]), gmObject_spec m hm fn s.b, pI_some, gVarP_var m va]
    exact one 1 _ _ (by unfold consT; rw [if_pos k1])
  rw [if_neg k1] at hk
  rw [if_neg (by simpa using k1)]
  by_cases k234 : s.kind = 2 ∨ s.kind = 3 ∨ s.kind = 4
  · rw [if_pos k234, decide_eq_true_eq] at hk
    obtain ⟨_, _, va, vb⟩ := hk
    rw [gVarP_var m va, gVarP_var m vb]
    by_cases k2 : s.kind = 2
    · rw [if_pos (by simp [k2])]
      exact one 2 _ _ (by unfold consT; rw [if_neg k1, if_pos k2])
    rw [if_neg (by simpa using k2)]
    by_cases k3 : s.kind = 3
    · rw [if_pos (by simp [k3])]
      exact one 3 _ _ (by unfold consT; rw [if_neg k1, if_neg k2, if_pos k3])
    have k4 : s.kind = 4 := by omega
    rw [if_neg (by simpa using k3), if_pos (by simp [k4])]
    exact one 4 _ _ (by unfold consT; rw [if_neg k1, if_neg k2, if_neg k3, if_pos k4])
  rw [if_neg k234] at hk
  have k2 : ¬ s.kind = 2 := fun h => k234 (.inl h)
  have k3 : ¬ s.kind = 3 := fun h => k234 (.inr (.inl h))
  have k4 : ¬ s.kind = 4 := fun h => k234 (.inr (.inr h))
  rw [if_neg (by simpa using k2), if_neg (by simpa using k3), if_neg (by simpa using k4)]
  by_cases k5 : s.kind = 5
  · rw [if_pos k5, decide_eq_true_eq] at hk
    obtain ⟨vs, _, va, vb⟩ := hk
    have k6 : ¬ s.kind = 6 := by omega
    rw [if_neg (by simpa using k6), if_pos (by simp [k5])]
    have hc : consT m fn s = if s.b.k ≠ 3 then [⟨5, if s.a.k = 0 then -1 else posAt (ofR fn s.a) 0 (varsR m), posAt (ofR fn s.b) 0 (varsR m), s.args.map fun r => posAt (ofR fn r) 0 (varsR m)⟩] else parT m s.b.id 0 (s.args.map fun r => posAt (ofR fn r) 0 (varsR m)) ++ tailT m s.b.id (if s.a.k = 0 then -1 else posAt (ofR fn s.a) 0 (varsR m)) := by
      unfold consT; rw [if_neg k1, if_neg k2, if_neg k3, if_neg k4, if_neg k6, if_pos k5]; rfl
    have ea : gVarP m fn s.a = if s.a.k = 0 then -1 else posAt (ofR fn s.a) 0 (varsR m) := by
      rcases va with h | h
      · have h0 : s.a.k = 0 := by rw [h]
        rw [if_pos h0]; exact if_neg (by omega)
      · have := varR_iff.1 h
        rw [gVarP_var m h, if_neg (by omega)]
    by_cases kb : s.b.k = 3
    · obtain ⟨g, hg, hl⟩ := hcall k5 kb
      obtain ⟨n, hn, h1, h2⟩ := getF_some m hg
      have lp := gmcall2_loop m hm fn s hal vs (gVarP m fn s.a) hn h1 hl s.args 0 [] rfl (by omega) rfl
      have ec : ∀ (b : Int) (h : H), run w0 48 [.agg (mapV m), I fn, .agg (stmtV s), I (gVarP m fn s.a), I b] h = some (.ret (.f (.lst (consT m fn s).length (consF (consT m fn s)))), h) := by
        intro b h
        rw [gmcall_run, gmcall_eq, if_neg (by simp [kb])]
        refine (congrArg (withH true h) lp).trans ?_
        rw [withH_true, hc, if_neg (by simp [kb]), ea]; rfl
      rw [ec, pL_some, withH_true]
    · have hvb : varR s.b = true := by rcases vb with h | h; · exact h
                                       · exact absurd h kb
      have lp := gmcall1_loop m hm fn s hal vs (gVarP m fn s.a) (gVarP m fn s.b) s.args 0 [] rfl (by omega) rfl
      have ec : ∀ (h : H), run w0 48 [.agg (mapV m), I fn, .agg (stmtV s), I (gVarP m fn s.a), I (gVarP m fn s.b)] h = some (.ret (.f (.lst (consT m fn s).length (consF (consT m fn s)))), h) := by
        intro h
        rw [gmcall_run, gmcall_eq, if_pos (by simp [kb])]
        refine (congrArg (withH true h) lp).trans ?_
        rw [withH_true, hc, if_pos kb, ea, gVarP_var m hvb]; rfl
      rw [ec, pL_some, withH_true]
  rw [if_neg k5] at hk
  by_cases k6 : s.kind = 6
  · rw [if_pos k6, decide_eq_true_eq] at hk
    obtain ⟨_, _, _, vb⟩ := hk
    rw [if_pos (by simp [k6]), gmResult_spec m hm, pI_some, gVarP_var m vb]
    exact one 2 _ _ (by unfold consT; rw [if_neg k1, if_neg k2, if_neg k3, if_neg k4, if_pos k6])
  rw [if_neg (by simpa using k6), if_neg (by simpa using k5), withH_true]
  have : consT m fn s = [] := by unfold consT; rw [if_neg k1, if_neg k2, if_neg k3, if_neg k4, if_neg k6, if_neg k5]
  rw [this]; rfl
end
end Go.Proofs.Ytlddnplflakmiaa
