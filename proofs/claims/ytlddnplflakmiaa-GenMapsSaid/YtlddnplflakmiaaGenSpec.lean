/-
  What the functions of the document's own constraints answer: variables, objects, places.
-/
import Derived.Test.YtlddnplflakmiaaGenDef
import Derived.Test.YtlddnplflakmiaaEqGenV
set_option autoImplicit false
set_option linter.unusedVariables false
set_option linter.unusedSimpArgs false
namespace Go.Proofs.Ytlddnplflakmiaa
open Go Go.Abs

theorem qFind_loop (x : Thing) (l : List Thing) (hl : l.length < 9223372036854775807) : ∀ (rest : List Thing) (i : Nat), l.drop i = rest → i ≤ l.length → qFind_1 l.length (thingsF l) x.1 x.2.1 x.2.2 i = some (.ret (I (posAt x i rest)), [])
  | [], i, hd, hi => by
    have := done_of_drop hd
    rw [qFind_1_eq, if_neg (by simp; omega)]; rfl
  | y :: rest, i, hd, hi => by
    have := lt_of_drop hd
    have ih := qFind_loop x l hl rest (i + 1) (drop_next hd) (by omega)
    rw [qFind_1_eq, if_pos (by simp; omega), elem_next Thing.F_len hd]
    simp only [Thing.F, List.cons_append, atI_zero, atI_succ]
    rw [wrap_i64 (by omega) (by omega), show ((i : Int) + 1) = ((i + 1 : Nat) : Int) by omega, ih, posAt]
    rcases x with ⟨a, b, c⟩
    rcases y with ⟨a', b', c'⟩
    dsimp only
    by_cases h : ((a', b', c') : Thing) = (a, b, c)
    · simp only [Prod.mk.injEq] at h
      obtain ⟨rfl, rfl, rfl⟩ := h
      rw [if_pos (by simp), if_pos rfl]
    · rw [if_neg h, if_neg (fun hh => h (by simp at hh; simp [hh]))]
theorem qFind_spec (x : Thing) (l : List Thing) (hl : l.length < 9223372036854775807) (h0 : H) : run w0 25 [.f (.lst l.length (thingsF l)), .agg [N .u8 x.1, N .i64 x.2.1, N .i64 x.2.2]] h0 = some (.ret (I (posAt x 0 l)), h0) := by
  have h := qFind_loop x l hl l 0 rfl (by omega)
  have h' : qFind_1 l.length (thingsF l) x.1 x.2.1 x.2.2 0 = _ := h
  rw [qFind_run, qFind_eq, h', withH_true]
theorem qOf_spec (fn : Int) (r : MRef) (h0 : H) : run w0 26 [I fn, .agg (refV r)] h0 = some (.ret (.agg [N .u8 (ofR fn r).1, N .i64 (ofR fn r).2.1, N .i64 (ofR fn r).2.2]), h0) := by
  rw [qOf_run, qOf_eq]
  unfold ofR
  by_cases h2 : r.k = 2
  · rw [if_pos (by simp [h2]), if_pos h2, withH_true]
  · rw [if_neg (by simp [h2]), if_neg h2]
    by_cases h3 : r.k = 3
    · rw [if_pos (by simp [h3]), if_pos h3, withH_true]
    · rw [if_neg (by simp [h3]), if_neg h3, withH_true]
section
variable (m : Mod) (hm : okM m)
include hm in
theorem qVars_g : ∀ (n i : Nat) (done : List Thing), i + n = m.globals.length → done.length ≤ i →
    mL m qVars_1 done.length i (thingsF done) = mL m qVars_2 (done ++ blk 2 0 i n).length 0 (thingsF (done ++ blk 2 0 i n))
  | 0, i, done, hi, hd => by
    rw [mL, qVars_1_eq, if_neg (by simp; omega)]
    refine (keep_go Thing.F_len done (fun c => mL m qVars_2 done.length 0 c)).trans ?_
    simp [blk]
  | n + 1, i, done, hi, hd => by
    have := hm.1
    rw [mL, qVars_1_eq, if_pos (by simp; omega), wrap_i64 (by omega) (by omega), show ((i : Int) + 1) = ((i + 1 : Nat) : Int) by omega]
    refine (push_go Thing.F_len done (2, 0, (i : Int)) 24 (by omega) (fun k c => mL m qVars_1 k ((i + 1 : Nat) : Int) c)).trans ?_
    rw [blk_end]
    exact qVars_g n (i + 1) (done ++ [(2, 0, (i : Int))]) (by omega) (by simp; omega)
theorem qVars_l {f : Nat} {g : MFun} (hg : m.funcs[f]? = some g) (hok : okF g) : ∀ (n i : Nat) (done : List Thing), i + n = g.locals.length → done.length ≤ 1000000 + i →
    mL m qVars_3 done.length f i (thingsF done) = mL m qVars_4 (done ++ blk 1 f i n ++ [(3, (f : Int), 0)]).length f 0 (thingsF (done ++ blk 1 f i n ++ [(3, (f : Int), 0)]))
  | 0, i, done, hi, hd => by
    have := hok.1
    rw [mL, qVars_3_eq, fun_l hg]
    rw [if_neg (by simp; omega)]
    refine (push_go Thing.F_len done (3, (f : Int), 0) 24 (by omega) (fun k c => mL m qVars_4 k f 0 c)).trans ?_
    simp [blk]
  | n + 1, i, done, hi, hd => by
    have := hok.1
    rw [mL, qVars_3_eq, fun_l hg]
    rw [if_pos (by simp; omega), wrap_i64 (by omega) (by omega), show ((i : Int) + 1) = ((i + 1 : Nat) : Int) by omega]
    refine (push_go Thing.F_len done (1, (f : Int), (i : Int)) 24 (by omega) (fun k c => mL m qVars_3 k f ((i + 1 : Nat) : Int) c)).trans ?_
    rw [blk_end]
    exact qVars_l hg hok n (i + 1) (done ++ [(1, (f : Int), (i : Int))]) (by omega) (by simp; omega)
include hm in
theorem qVars_s {f : Nat} {g : MFun} (hg : m.funcs[f]? = some g) (hok : okF g) : ∀ (n i : Nat) (done : List Thing), i + n = g.sites.length → done.length ≤ 2000000 + i →
    mL m qVars_4 done.length f i (thingsF done) = mL m qVars_2 (done ++ blk 4 f i n).length ((f + 1 : Nat) : Int) (thingsF (done ++ blk 4 f i n))
  | 0, i, done, hi, hd => by
    have := hok.2.1
    have hlt := (List.getElem?_eq_some_iff.1 hg).1
    have := hm.2.1
    rw [mL, qVars_4_eq, fun_s hg]
    rw [if_neg (by simp; omega), wrap_i64 (by omega) (by omega), show ((f : Int) + 1) = ((f + 1 : Nat) : Int) by omega]
    refine (keep_go Thing.F_len done (fun c => mL m qVars_2 done.length ((f + 1 : Nat) : Int) c)).trans ?_
    simp [blk]
  | n + 1, i, done, hi, hd => by
    have := hok.2.1
    rw [mL, qVars_4_eq, fun_s hg]
    rw [if_pos (by simp; omega), wrap_i64 (n := (i : Int) + 1) (by omega) (by omega), show ((i : Int) + 1) = ((i + 1 : Nat) : Int) by omega]
    refine (push_go Thing.F_len done (4, (f : Int), (i : Int)) 24 (by omega) (fun k c => mL m qVars_4 k f ((i + 1 : Nat) : Int) c)).trans ?_
    rw [blk_end]
    exact qVars_s hg hok n (i + 1) (done ++ [(4, (f : Int), (i : Int))]) (by omega) (by simp; omega)
include hm in
theorem qVars_f : ∀ (rest : List MFun) (f : Nat) (done : List Thing), m.funcs.drop f = rest → f ≤ m.funcs.length → done.length ≤ 100 + f * 300 →
    mL m qVars_2 done.length f (thingsF done) = some (.ret (.f (.lst (done ++ fromF varsOfF f rest).length (thingsF (done ++ fromF varsOfF f rest)))), [])
  | [], f, done, hd, hf, hl => by
    have := done_of_drop hd
    rw [mL, qVars_2_eq, if_neg (by simp; omega)]
    refine (keep_go Thing.F_len done (fun c => some (.ret (.f (.lst done.length c)), []))).trans ?_
    simp [fromF]
  | g :: rest, f, done, hd, hf, hl => by
    have hlt := lt_of_drop hd
    have h2 := hm.2.1
    have hg : m.funcs[f]? = some g := by rw [drop_get hlt] at hd; rw [List.getElem?_eq_getElem hlt, (List.cons.inj hd).1]
    have hok := hm.2.2 g (mem_of_drop hd)
    have ⟨k1, k2, _⟩ := hok
    rw [mL, qVars_2_eq, if_pos (by simp; omega)]
    refine (keep_go Thing.F_len done (fun c => mL m qVars_3 done.length f 0 c)).trans ?_
    refine (qVars_l m hg hok g.locals.length 0 done (by omega) (by omega)).trans ?_
    have hb := blk_len 1 (f : Int) g.locals.length 0
    refine (qVars_s m hm hg hok g.sites.length 0 (done ++ blk 1 f 0 g.locals.length ++ [(3, (f : Int), 0)]) (by omega) (by simp; omega)).trans ?_
    have hb4 := blk_len 4 (f : Int) g.sites.length 0
    have e : done ++ blk 1 f 0 g.locals.length ++ [(3, (f : Int), 0)] ++ blk 4 f 0 g.sites.length = done ++ varsOfF f g := by simp [varsOfF]
    rw [e]
    refine (qVars_f rest (f + 1) (done ++ varsOfF f g) (drop_next hd) (by omega) (by rw [List.length_append, varsOfF_len]; unfold szF; omega)).trans ?_
    simp [fromF]
include hm in
theorem qVars_spec (h0 : H) : run w0 16 [.agg (modV m)] h0 = some (.ret (.f (.lst (varsR m).length (thingsF (varsR m)))), h0) := by
  have h1 : mL m qVars_1 0 0 [] = _ := qVars_g m hm m.globals.length 0 [] (by omega) (by simp)
  have hb := blk_len 2 0 m.globals.length 0
  have hg := hm.1
  have h2 := qVars_f m hm m.funcs 0 ([] ++ blk 2 0 0 m.globals.length) rfl (by omega) (by rw [List.nil_append, hb]; omega)
  rw [qVars_run, qVars_eq]
  exact (congrArg (withH true h0) (h1.trans h2)).trans (by rw [withH_true]; simp [varsR])
include hm in
theorem qCells_g : ∀ (n i : Nat) (done : List Thing), i + n = m.globals.length → done.length ≤ i →
    mL m qCells_1 done.length i (thingsF done) = mL m qCells_2 (done ++ blk 2 0 i n).length 0 (thingsF (done ++ blk 2 0 i n))
  | 0, i, done, hi, hd => by
    rw [mL, qCells_1_eq, if_neg (by simp; omega)]
    refine (keep_go Thing.F_len done (fun c => mL m qCells_2 done.length 0 c)).trans ?_
    simp [blk]
  | n + 1, i, done, hi, hd => by
    have := hm.1
    rw [mL, qCells_1_eq, if_pos (by simp; omega), wrap_i64 (by omega) (by omega), show ((i : Int) + 1) = ((i + 1 : Nat) : Int) by omega]
    refine (push_go Thing.F_len done (2, 0, (i : Int)) 24 (by omega) (fun k c => mL m qCells_1 k ((i + 1 : Nat) : Int) c)).trans ?_
    rw [blk_end]
    exact qCells_g n (i + 1) (done ++ [(2, 0, (i : Int))]) (by omega) (by simp; omega)
theorem qCells_l {f : Nat} {g : MFun} (hg : m.funcs[f]? = some g) (hok : okF g) : ∀ (n i : Nat) (done : List Thing), i + n = g.locals.length → done.length ≤ 1000000 + i →
    mL m qCells_3 done.length f i (thingsF done) = mL m qCells_4 (done ++ blk 1 f i n).length f 0 (thingsF (done ++ blk 1 f i n))
  | 0, i, done, hi, hd => by
    have := hok.1
    rw [mL, qCells_3_eq, fun_l hg]
    rw [if_neg (by simp; omega)]
    refine (keep_go Thing.F_len done (fun c => mL m qCells_4 done.length f 0 c)).trans ?_
    simp [blk]
  | n + 1, i, done, hi, hd => by
    have := hok.1
    rw [mL, qCells_3_eq, fun_l hg]
    rw [if_pos (by simp; omega), wrap_i64 (by omega) (by omega), show ((i : Int) + 1) = ((i + 1 : Nat) : Int) by omega]
    refine (push_go Thing.F_len done (1, (f : Int), (i : Int)) 24 (by omega) (fun k c => mL m qCells_3 k f ((i + 1 : Nat) : Int) c)).trans ?_
    rw [blk_end]
    exact qCells_l hg hok n (i + 1) (done ++ [(1, (f : Int), (i : Int))]) (by omega) (by simp; omega)
include hm in
theorem qCells_s {f : Nat} {g : MFun} (hg : m.funcs[f]? = some g) (hok : okF g) : ∀ (n i : Nat) (done : List Thing), i + n = g.sites.length → done.length ≤ 2000000 + i →
    mL m qCells_4 done.length f i (thingsF done) = mL m qCells_2 (done ++ blk 4 f i n).length ((f + 1 : Nat) : Int) (thingsF (done ++ blk 4 f i n))
  | 0, i, done, hi, hd => by
    have := hok.2.1
    have hlt := (List.getElem?_eq_some_iff.1 hg).1
    have := hm.2.1
    rw [mL, qCells_4_eq, fun_s hg]
    rw [if_neg (by simp; omega), wrap_i64 (by omega) (by omega), show ((f : Int) + 1) = ((f + 1 : Nat) : Int) by omega]
    refine (keep_go Thing.F_len done (fun c => mL m qCells_2 done.length ((f + 1 : Nat) : Int) c)).trans ?_
    simp [blk]
  | n + 1, i, done, hi, hd => by
    have := hok.2.1
    rw [mL, qCells_4_eq, fun_s hg]
    rw [if_pos (by simp; omega), wrap_i64 (n := (i : Int) + 1) (by omega) (by omega), show ((i : Int) + 1) = ((i + 1 : Nat) : Int) by omega]
    refine (push_go Thing.F_len done (4, (f : Int), (i : Int)) 24 (by omega) (fun k c => mL m qCells_4 k f ((i + 1 : Nat) : Int) c)).trans ?_
    rw [blk_end]
    exact qCells_s hg hok n (i + 1) (done ++ [(4, (f : Int), (i : Int))]) (by omega) (by simp; omega)
include hm in
theorem qCells_f : ∀ (rest : List MFun) (f : Nat) (done : List Thing), m.funcs.drop f = rest → f ≤ m.funcs.length → done.length ≤ 100 + f * 300 →
    mL m qCells_2 done.length f (thingsF done) = some (.ret (.f (.lst (done ++ fromF cellsOfF f rest).length (thingsF (done ++ fromF cellsOfF f rest)))), [])
  | [], f, done, hd, hf, hl => by
    have := done_of_drop hd
    rw [mL, qCells_2_eq, if_neg (by simp; omega)]
    refine (keep_go Thing.F_len done (fun c => some (.ret (.f (.lst done.length c)), []))).trans ?_
    simp [fromF]
  | g :: rest, f, done, hd, hf, hl => by
    have hlt := lt_of_drop hd
    have h2 := hm.2.1
    have hg : m.funcs[f]? = some g := by rw [drop_get hlt] at hd; rw [List.getElem?_eq_getElem hlt, (List.cons.inj hd).1]
    have hok := hm.2.2 g (mem_of_drop hd)
    have ⟨k1, k2, _⟩ := hok
    rw [mL, qCells_2_eq, if_pos (by simp; omega)]
    refine (push_go Thing.F_len done (3, (f : Int), 0) 24 (by omega) (fun k c => mL m qCells_3 k f 0 c)).trans ?_
    refine (qCells_l m hg hok g.locals.length 0 (done ++ [(3, (f : Int), 0)]) (by omega) (by simp; omega)).trans ?_
    have hb := blk_len 1 (f : Int) g.locals.length 0
    refine (qCells_s m hm hg hok g.sites.length 0 (done ++ [(3, (f : Int), 0)] ++ blk 1 f 0 g.locals.length) (by omega) (by simp; omega)).trans ?_
    have hb4 := blk_len 4 (f : Int) g.sites.length 0
    have e : done ++ [(3, (f : Int), 0)] ++ blk 1 f 0 g.locals.length ++ blk 4 f 0 g.sites.length = done ++ cellsOfF f g := by simp [cellsOfF]
    rw [e]
    refine (qCells_f rest (f + 1) (done ++ cellsOfF f g) (drop_next hd) (by omega) (by rw [List.length_append, cellsOfF_len]; unfold szF; omega)).trans ?_
    simp [fromF]
include hm in
theorem qCells_spec (h0 : H) : run w0 17 [.agg (modV m)] h0 = some (.ret (.f (.lst (cellsR m).length (thingsF (cellsR m)))), h0) := by
  have h1 : mL m qCells_1 0 0 [] = _ := qCells_g m hm m.globals.length 0 [] (by omega) (by simp)
  have hb := blk_len 2 0 m.globals.length 0
  have hg := hm.1
  have h2 := qCells_f m hm m.funcs 0 ([] ++ blk 2 0 0 m.globals.length) rfl (by omega) (by rw [List.nil_append, hb]; omega)
  rw [qCells_run, qCells_eq]
  exact (congrArg (withH true h0) (h1.trans h2)).trans (by rw [withH_true]; simp [cellsR])
end
section
variable (m : Mod)
theorem of_go (fn : Int) (r : MRef) (h0 : H) (K : Int → Int → Int → R) : (pA (run w0 26 [I fn, .agg (refV r)] h0) fun l => cI .u8 l 0 fun a => cI .i64 l 1 fun b => cI .i64 l 2 fun c => if l.length = 3 then K a b c else none) = K (ofR fn r).1 (ofR fn r).2.1 (ofR fn r).2.2 := by
  rw [qOf_spec, pA_some]
  simp [cI, V.int?, V.f?, F.int?]
theorem find_v (hm : okM m) (x : Thing) (h0 : H) (K : Int → R) : pI .i64 (run w0 25 [.f (.lst (varsR m).length (thingsF (varsR m))), .agg [N .u8 x.1, N .i64 x.2.1, N .i64 x.2.2]] h0) K = K (posAt x 0 (varsR m)) := by
  have := vars_le m hm
  rw [qFind_spec x _ (by omega), pI_some]
theorem find_c (hm : okM m) (x : Thing) (h0 : H) (K : Int → R) : pI .i64 (run w0 25 [.f (.lst (cellsR m).length (thingsF (cellsR m))), .agg [N .u8 x.1, N .i64 x.2.1, N .i64 x.2.2]] h0) K = K (posAt x 0 (cellsR m)) := by
  have := cells_le m hm
  rw [qFind_spec x _ (by omega), pI_some]
end
end Go.Proofs.Ytlddnplflakmiaa
