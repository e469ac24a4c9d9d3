/-
  What the functions of the document's own constraints answer: variables, objects, places.
-/
import Derived.Test.YtlddnplflakmiaaRuleSpec
import Derived.Test.YtlddnplflakmiaaGens
set_option autoImplicit false
set_option linter.unusedVariables false
set_option linter.unusedSimpArgs false
namespace Go.Proofs.Ytlddnplflakmiaa
open Go Go.Abs

/-- what is kept, and one more -/
theorem push_go {α : Type} {f : α → List F} {es : Nat} (hf : ∀ a, (f a).length = es) (done : List α) (x : α) (z : Nat) (hz : (done.length + 1) * z ≤ 140737488355328) (K : Nat → List F → R) :
    (if es = es ∧ (done.length + 1) * z ≤ 140737488355328 then if 0 + (done.length * es) ≤ (done.flatMap f).length then if 0 + ((done.length + 1) * es) ≤ ((((done.flatMap f).drop 0).take (done.length * es)) ++ f x).length then K (done.length + 1) ((((((done.flatMap f).drop 0).take (done.length * es)) ++ f x).drop 0).take ((done.length + 1) * es)) else none else none else none) = K (done ++ [x]).length ((done ++ [x]).flatMap f) := by
  have hl := flat_len hf done
  have e : done.flatMap f ++ f x = (done ++ [x]).flatMap f := by simp
  have hl2 := flat_len hf (done ++ [x])
  simp only [Nat.zero_add, List.drop_zero]
  rw [if_pos ⟨trivial, hz⟩, if_pos (by omega), List.take_of_length_le (l := done.flatMap f) (by omega), e, if_pos (by rw [hl2]; simp), List.take_of_length_le (by rw [hl2]; simp), List.length_append, List.length_singleton]
theorem keep_go {α : Type} {f : α → List F} {es : Nat} (hf : ∀ a, (f a).length = es) (done : List α) (K : List F → R) :
    (if 0 + (done.length * es) ≤ (done.flatMap f).length then K (((done.flatMap f).drop 0).take (done.length * es)) else none) = K (done.flatMap f) := by
  have hl := flat_len hf done
  simp only [Nat.zero_add, List.drop_zero]
  rw [if_pos (by omega), List.take_of_length_le (by omega)]
/-- few of each -/
def okF (f : MFun) : Prop := f.locals.length ≤ 100 ∧ f.sites.length ≤ 100 ∧ 0 ≤ f.params ∧ f.params ≤ f.locals.length
def okM (m : Mod) : Prop := m.globals.length ≤ 100 ∧ m.funcs.length ≤ 100 ∧ ∀ f ∈ m.funcs, okF f
theorem fun_at {m : Mod} {n : Nat} {g : MFun} (h : m.funcs[n]? = some g) : ∃ r, ∀ K, elem (.lst m.funcs.length (funsF m.funcs)) (n : Int) 5 K = K (g.F ++ r) := by
  obtain ⟨hn, rfl⟩ := List.getElem?_eq_some_iff.1 h
  exact ⟨_, fun K => elem_next MFun.F_len (drop_get hn) K⟩
theorem mem_of_drop {α : Type} {l rest : List α} {x : α} {i : Nat} (h : l.drop i = x :: rest) : x ∈ l := List.mem_of_mem_drop (by rw [h]; simp : x ∈ l.drop i)
theorem fun_l {m : Mod} {n : Nat} {g : MFun} (h : m.funcs[n]? = some g) (K : Nat → List F → R) : (elem (.lst m.funcs.length (funsF m.funcs)) (n : Int) 5 fun c => atL (c.drop 2) 0 K) = K g.locals.length (kF .i64 g.locals) := by
  obtain ⟨r, he⟩ := fun_at h
  rw [he]; simp [MFun.F]
theorem fun_s {m : Mod} {n : Nat} {g : MFun} (h : m.funcs[n]? = some g) (K : Nat → List F → R) : (elem (.lst m.funcs.length (funsF m.funcs)) (n : Int) 5 fun c => atL (c.drop 3) 0 K) = K g.sites.length (kF .i64 g.sites) := by
  obtain ⟨r, he⟩ := fun_at h
  rw [he]; simp [MFun.F]
theorem fun_b {m : Mod} {n : Nat} {g : MFun} (h : m.funcs[n]? = some g) (K : Nat → List F → R) : (elem (.lst m.funcs.length (funsF m.funcs)) (n : Int) 5 fun c => atL (c.drop 4) 0 K) = K g.body.length (stmtsF g.body) := by
  obtain ⟨r, he⟩ := fun_at h
  rw [he]; simp [MFun.F]
theorem fun_p {m : Mod} {n : Nat} {g : MFun} (h : m.funcs[n]? = some g) (K : Int → R) : (elem (.lst m.funcs.length (funsF m.funcs)) (n : Int) 5 fun c => atI .i64 (c.drop 1) 0 K) = K g.params := by
  obtain ⟨r, he⟩ := fun_at h
  rw [he]; simp [MFun.F]
theorem qFind_loop (x : Thing) (l : List Thing) (hl : l.length < 9223372036854775807) : ∀ (rest : List Thing) (i : Nat), l.drop i = rest → i ≤ l.length → qFind_1 l.length (thingsF l) x.1 x.2.1 x.2.2 i = some (.ret (I (posAt x i rest)), [])
  | [], i, hd, hi => by
    have := done_of_drop hd
    rw [qFind_1_eq, if_neg (by simp; omega)]; rfl
  | y :: rest, i, hd, hi => by
    have := lt_of_drop hd
    have ih := qFind_loop x l hl rest (i + 1) (drop_next hd) (by omega)
    rw [qFind_1_eq, if_pos (by simp; omega), elem_next Thing.F_len hd]
    simp only [Thing.F, List.cons_append, atI_zero, atI_succ]
    rw [wrap_i64 (by omega) (by omega), show ((i : Int) + 1) = ((i + 1 : Nat) : Int) by omega, ih, posAt]
    rcases x with ⟨a, b, c⟩
    rcases y with ⟨a', b', c'⟩
    dsimp only
    by_cases h : ((a', b', c') : Thing) = (a, b, c)
    · simp only [Prod.mk.injEq] at h
      obtain ⟨rfl, rfl, rfl⟩ := h
      rw [if_pos (by simp), if_pos rfl]
    · rw [if_neg h, if_neg (fun hh => h (by simp at hh; simp [hh]))]
theorem qFind_spec (x : Thing) (l : List Thing) (hl : l.length < 9223372036854775807) (h0 : H) : run w0 25 [.f (.lst l.length (thingsF l)), .agg [N .u8 x.1, N .i64 x.2.1, N .i64 x.2.2]] h0 = some (.ret (I (posAt x 0 l)), h0) := by
  have h := qFind_loop x l hl l 0 rfl (by omega)
  have h' : qFind_1 l.length (thingsF l) x.1 x.2.1 x.2.2 0 = _ := h
  rw [qFind_run, qFind_eq, h', withH_true]
/-- what a reference names -/
def ofR (fn : Int) (r : MRef) : Thing := if r.k = 2 then (2, 0, r.id) else if r.k = 3 then (3, r.id, 0) else (r.k, fn, r.id)
theorem qOf_spec (fn : Int) (r : MRef) (h0 : H) : run w0 26 [I fn, .agg (refV r)] h0 = some (.ret (.agg [N .u8 (ofR fn r).1, N .i64 (ofR fn r).2.1, N .i64 (ofR fn r).2.2]), h0) := by
  rw [qOf_run, qOf_eq]
  unfold ofR
  by_cases h2 : r.k = 2
  · rw [if_pos (by simp [h2]), if_pos h2, withH_true]
  · rw [if_neg (by simp [h2]), if_neg h2]
    by_cases h3 : r.k = 3
    · rw [if_pos (by simp [h3]), if_pos h3, withH_true]
    · rw [if_neg (by simp [h3]), if_neg h3, withH_true]
section
variable (m : Mod) (hm : okM m)
abbrev mL (m : Mod) {α : Type} (k : Nat → List F → Nat → List F → Nat → List F → Nat → List F → α) : α := k m.strings.length (sF m.strings) m.globals.length (kF .i64 m.globals) m.funcs.length (funsF m.funcs) m.entries.length (kF .i64 m.entries)
theorem blk_end (k f : Int) (done : List Thing) (i n : Nat) : done ++ blk k f i (n + 1) = (done ++ [(k, f, (i : Int))]) ++ blk k f (i + 1) n := by simp [blk]
include hm in
theorem qVars_g : ∀ (n i : Nat) (done : List Thing), i + n = m.globals.length → done.length ≤ i →
    mL m qVars_1 done.length i (thingsF done) = mL m qVars_2 (done ++ blk 2 0 i n).length 0 (thingsF (done ++ blk 2 0 i n))
  | 0, i, done, hi, hd => by
    rw [mL, qVars_1_eq, if_neg (by simp; omega)]
    refine (keep_go Thing.F_len done (fun c => mL m qVars_2 done.length 0 c)).trans ?_
    simp [blk]
  | n + 1, i, done, hi, hd => by
    have := hm.1
    rw [mL, qVars_1_eq, if_pos (by simp; omega), wrap_i64 (by omega) (by omega), show ((i : Int) + 1) = ((i + 1 : Nat) : Int) by omega]
    refine (push_go Thing.F_len done (2, 0, (i : Int)) 24 (by omega) (fun k c => mL m qVars_1 k ((i + 1 : Nat) : Int) c)).trans ?_
    rw [blk_end]
    exact qVars_g n (i + 1) (done ++ [(2, 0, (i : Int))]) (by omega) (by simp; omega)
theorem qVars_l {f : Nat} {g : MFun} (hg : m.funcs[f]? = some g) (hok : okF g) : ∀ (n i : Nat) (done : List Thing), i + n = g.locals.length → done.length ≤ 1000000 + i →
    mL m qVars_3 done.length f i (thingsF done) = mL m qVars_4 (done ++ blk 1 f i n ++ [(3, (f : Int), 0)]).length f 0 (thingsF (done ++ blk 1 f i n ++ [(3, (f : Int), 0)]))
  | 0, i, done, hi, hd => by
    have := hok.1
    rw [mL, qVars_3_eq, fun_l hg]
    rw [if_neg (by simp; omega)]
    refine (push_go Thing.F_len done (3, (f : Int), 0) 24 (by omega) (fun k c => mL m qVars_4 k f 0 c)).trans ?_
    simp [blk]
  | n + 1, i, done, hi, hd => by
    have := hok.1
    rw [mL, qVars_3_eq, fun_l hg]
    rw [if_pos (by simp; omega), wrap_i64 (by omega) (by omega), show ((i : Int) + 1) = ((i + 1 : Nat) : Int) by omega]
    refine (push_go Thing.F_len done (1, (f : Int), (i : Int)) 24 (by omega) (fun k c => mL m qVars_3 k f ((i + 1 : Nat) : Int) c)).trans ?_
    rw [blk_end]
    exact qVars_l hg hok n (i + 1) (done ++ [(1, (f : Int), (i : Int))]) (by omega) (by simp; omega)
include hm in
theorem qVars_s {f : Nat} {g : MFun} (hg : m.funcs[f]? = some g) (hok : okF g) : ∀ (n i : Nat) (done : List Thing), i + n = g.sites.length → done.length ≤ 2000000 + i →
    mL m qVars_4 done.length f i (thingsF done) = mL m qVars_2 (done ++ blk 4 f i n).length ((f + 1 : Nat) : Int) (thingsF (done ++ blk 4 f i n))
  | 0, i, done, hi, hd => by
    have := hok.2.1
    have hlt := (List.getElem?_eq_some_iff.1 hg).1
    have := hm.2.1
    rw [mL, qVars_4_eq, fun_s hg]
    rw [if_neg (by simp; omega), wrap_i64 (by omega) (by omega), show ((f : Int) + 1) = ((f + 1 : Nat) : Int) by omega]
    refine (keep_go Thing.F_len done (fun c => mL m qVars_2 done.length ((f + 1 : Nat) : Int) c)).trans ?_
    simp [blk]
  | n + 1, i, done, hi, hd => by
    have := hok.2.1
    rw [mL, qVars_4_eq, fun_s hg]
    rw [if_pos (by simp; omega), wrap_i64 (n := (i : Int) + 1) (by omega) (by omega), show ((i : Int) + 1) = ((i + 1 : Nat) : Int) by omega]
    refine (push_go Thing.F_len done (4, (f : Int), (i : Int)) 24 (by omega) (fun k c => mL m qVars_4 k f ((i + 1 : Nat) : Int) c)).trans ?_
    rw [blk_end]
    exact qVars_s hg hok n (i + 1) (done ++ [(4, (f : Int), (i : Int))]) (by omega) (by simp; omega)
include hm in
theorem qVars_f : ∀ (rest : List MFun) (f : Nat) (done : List Thing), m.funcs.drop f = rest → f ≤ m.funcs.length → done.length ≤ 100 + f * 300 →
    mL m qVars_2 done.length f (thingsF done) = some (.ret (.f (.lst (done ++ fromF varsOfF f rest).length (thingsF (done ++ fromF varsOfF f rest)))), [])
  | [], f, done, hd, hf, hl => by
    have := done_of_drop hd
    rw [mL, qVars_2_eq, if_neg (by simp; omega)]
    refine (keep_go Thing.F_len done (fun c => some (.ret (.f (.lst done.length c)), []))).trans ?_
    simp [fromF]
  | g :: rest, f, done, hd, hf, hl => by
    have hlt := lt_of_drop hd
    have h2 := hm.2.1
    have hg : m.funcs[f]? = some g := by rw [drop_get hlt] at hd; rw [List.getElem?_eq_getElem hlt, (List.cons.inj hd).1]
    have hok := hm.2.2 g (mem_of_drop hd)
    have ⟨k1, k2, _⟩ := hok
    rw [mL, qVars_2_eq, if_pos (by simp; omega)]
    refine (keep_go Thing.F_len done (fun c => mL m qVars_3 done.length f 0 c)).trans ?_
    refine (qVars_l m hg hok g.locals.length 0 done (by omega) (by omega)).trans ?_
    have hb := blk_len 1 (f : Int) g.locals.length 0
    refine (qVars_s m hm hg hok g.sites.length 0 (done ++ blk 1 f 0 g.locals.length ++ [(3, (f : Int), 0)]) (by omega) (by simp; omega)).trans ?_
    have hb4 := blk_len 4 (f : Int) g.sites.length 0
    have e : done ++ blk 1 f 0 g.locals.length ++ [(3, (f : Int), 0)] ++ blk 4 f 0 g.sites.length = done ++ varsOfF f g := by simp [varsOfF]
    rw [e]
    refine (qVars_f rest (f + 1) (done ++ varsOfF f g) (drop_next hd) (by omega) (by rw [List.length_append, varsOfF_len]; unfold szF; omega)).trans ?_
    simp [fromF]
include hm in
theorem qVars_spec (h0 : H) : run w0 16 [.agg (modV m)] h0 = some (.ret (.f (.lst (varsR m).length (thingsF (varsR m)))), h0) := by
  have h1 : mL m qVars_1 0 0 [] = _ := qVars_g m hm m.globals.length 0 [] (by omega) (by simp)
  have hb := blk_len 2 0 m.globals.length 0
  have hg := hm.1
  have h2 := qVars_f m hm m.funcs 0 ([] ++ blk 2 0 0 m.globals.length) rfl (by omega) (by rw [List.nil_append, hb]; omega)
  rw [qVars_run, qVars_eq]
  exact (congrArg (withH true h0) (h1.trans h2)).trans (by rw [withH_true]; simp [varsR])
include hm in
theorem qCells_g : ∀ (n i : Nat) (done : List Thing), i + n = m.globals.length → done.length ≤ i →
    mL m qCells_1 done.length i (thingsF done) = mL m qCells_2 (done ++ blk 2 0 i n).length 0 (thingsF (done ++ blk 2 0 i n))
  | 0, i, done, hi, hd => by
    rw [mL, qCells_1_eq, if_neg (by simp; omega)]
    refine (keep_go Thing.F_len done (fun c => mL m qCells_2 done.length 0 c)).trans ?_
    simp [blk]
  | n + 1, i, done, hi, hd => by
    have := hm.1
    rw [mL, qCells_1_eq, if_pos (by simp; omega), wrap_i64 (by omega) (by omega), show ((i : Int) + 1) = ((i + 1 : Nat) : Int) by omega]
    refine (push_go Thing.F_len done (2, 0, (i : Int)) 24 (by omega) (fun k c => mL m qCells_1 k ((i + 1 : Nat) : Int) c)).trans ?_
    rw [blk_end]
    exact qCells_g n (i + 1) (done ++ [(2, 0, (i : Int))]) (by omega) (by simp; omega)
theorem qCells_l {f : Nat} {g : MFun} (hg : m.funcs[f]? = some g) (hok : okF g) : ∀ (n i : Nat) (done : List Thing), i + n = g.locals.length → done.length ≤ 1000000 + i →
    mL m qCells_3 done.length f i (thingsF done) = mL m qCells_4 (done ++ blk 1 f i n).length f 0 (thingsF (done ++ blk 1 f i n))
  | 0, i, done, hi, hd => by
    have := hok.1
    rw [mL, qCells_3_eq, fun_l hg]
    rw [if_neg (by simp; omega)]
    refine (keep_go Thing.F_len done (fun c => mL m qCells_4 done.length f 0 c)).trans ?_
    simp [blk]
  | n + 1, i, done, hi, hd => by
    have := hok.1
    rw [mL, qCells_3_eq, fun_l hg]
    rw [if_pos (by simp; omega), wrap_i64 (by omega) (by omega), show ((i : Int) + 1) = ((i + 1 : Nat) : Int) by omega]
    refine (push_go Thing.F_len done (1, (f : Int), (i : Int)) 24 (by omega) (fun k c => mL m qCells_3 k f ((i + 1 : Nat) : Int) c)).trans ?_
    rw [blk_end]
    exact qCells_l hg hok n (i + 1) (done ++ [(1, (f : Int), (i : Int))]) (by omega) (by simp; omega)
include hm in
theorem qCells_s {f : Nat} {g : MFun} (hg : m.funcs[f]? = some g) (hok : okF g) : ∀ (n i : Nat) (done : List Thing), i + n = g.sites.length → done.length ≤ 2000000 + i →
    mL m qCells_4 done.length f i (thingsF done) = mL m qCells_2 (done ++ blk 4 f i n).length ((f + 1 : Nat) : Int) (thingsF (done ++ blk 4 f i n))
  | 0, i, done, hi, hd => by
    have := hok.2.1
    have hlt := (List.getElem?_eq_some_iff.1 hg).1
    have := hm.2.1
    rw [mL, qCells_4_eq, fun_s hg]
    rw [if_neg (by simp; omega), wrap_i64 (by omega) (by omega), show ((f : Int) + 1) = ((f + 1 : Nat) : Int) by omega]
    refine (keep_go Thing.F_len done (fun c => mL m qCells_2 done.length ((f + 1 : Nat) : Int) c)).trans ?_
    simp [blk]
  | n + 1, i, done, hi, hd => by
    have := hok.2.1
    rw [mL, qCells_4_eq, fun_s hg]
    rw [if_pos (by simp; omega), wrap_i64 (n := (i : Int) + 1) (by omega) (by omega), show ((i : Int) + 1) = ((i + 1 : Nat) : Int) by omega]
    refine (push_go Thing.F_len done (4, (f : Int), (i : Int)) 24 (by omega) (fun k c => mL m qCells_4 k f ((i + 1 : Nat) : Int) c)).trans ?_
    rw [blk_end]
    exact qCells_s hg hok n (i + 1) (done ++ [(4, (f : Int), (i : Int))]) (by omega) (by simp; omega)
include hm in
theorem qCells_f : ∀ (rest : List MFun) (f : Nat) (done : List Thing), m.funcs.drop f = rest → f ≤ m.funcs.length → done.length ≤ 100 + f * 300 →
    mL m qCells_2 done.length f (thingsF done) = some (.ret (.f (.lst (done ++ fromF cellsOfF f rest).length (thingsF (done ++ fromF cellsOfF f rest)))), [])
  | [], f, done, hd, hf, hl => by
    have := done_of_drop hd
    rw [mL, qCells_2_eq, if_neg (by simp; omega)]
    refine (keep_go Thing.F_len done (fun c => some (.ret (.f (.lst done.length c)), []))).trans ?_
    simp [fromF]
  | g :: rest, f, done, hd, hf, hl => by
    have hlt := lt_of_drop hd
    have h2 := hm.2.1
    have hg : m.funcs[f]? = some g := by rw [drop_get hlt] at hd; rw [List.getElem?_eq_getElem hlt, (List.cons.inj hd).1]
    have hok := hm.2.2 g (mem_of_drop hd)
    have ⟨k1, k2, _⟩ := hok
    rw [mL, qCells_2_eq, if_pos (by simp; omega)]
    refine (push_go Thing.F_len done (3, (f : Int), 0) 24 (by omega) (fun k c => mL m qCells_3 k f 0 c)).trans ?_
    refine (qCells_l m hg hok g.locals.length 0 (done ++ [(3, (f : Int), 0)]) (by omega) (by simp; omega)).trans ?_
    have hb := blk_len 1 (f : Int) g.locals.length 0
    refine (qCells_s m hm hg hok g.sites.length 0 (done ++ [(3, (f : Int), 0)] ++ blk 1 f 0 g.locals.length) (by omega) (by simp; omega)).trans ?_
    have hb4 := blk_len 4 (f : Int) g.sites.length 0
    have e : done ++ [(3, (f : Int), 0)] ++ blk 1 f 0 g.locals.length ++ blk 4 f 0 g.sites.length = done ++ cellsOfF f g := by simp [cellsOfF]
    rw [e]
    refine (qCells_f rest (f + 1) (done ++ cellsOfF f g) (drop_next hd) (by omega) (by rw [List.length_append, cellsOfF_len]; unfold szF; omega)).trans ?_
    simp [fromF]
include hm in
theorem qCells_spec (h0 : H) : run w0 17 [.agg (modV m)] h0 = some (.ret (.f (.lst (cellsR m).length (thingsF (cellsR m)))), h0) := by
  have h1 : mL m qCells_1 0 0 [] = _ := qCells_g m hm m.globals.length 0 [] (by omega) (by simp)
  have hb := blk_len 2 0 m.globals.length 0
  have hg := hm.1
  have h2 := qCells_f m hm m.funcs 0 ([] ++ blk 2 0 0 m.globals.length) rfl (by omega) (by rw [List.nil_append, hb]; omega)
  rw [qCells_run, qCells_eq]
  exact (congrArg (withH true h0) (h1.trans h2)).trans (by rw [withH_true]; simp [cellsR])
end
end Go.Proofs.Ytlddnplflakmiaa
