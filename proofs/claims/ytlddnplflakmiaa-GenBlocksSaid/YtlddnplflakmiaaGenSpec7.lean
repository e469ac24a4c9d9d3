/-
  The program's own constraints of a module: they are the document's.
-/
import Derived.Test.YtlddnplflakmiaaGenSpec6
set_option autoImplicit false
set_option linter.unusedVariables false
set_option linter.unusedSimpArgs false
namespace Go.Proofs.Ytlddnplflakmiaa
open Go Go.Abs
section
variable (m : Mod) (hm : okM m)
theorem gmVars_spec (h0 : H) : run w0 18 [.agg (mapV m)] h0 = some (.ret (I (allR m)), h0) := by
  rw [gmVars_run, gmVars_eq, withH_true]
theorem cellT_g {i : Nat} (h : i < m.globals.length) : cellT m (2, 0, (i : Int)) = ⟨false, i, []⟩ := by
  unfold cellT
  rw [if_neg (by simp), vars_posG, if_pos ⟨by omega, by omega⟩]
theorem cellT_l {n i : Nat} {g : MFun} (h1 : m.funcs[n]? = some g) (h : i < g.locals.length) : cellT m (1, (n : Int), (i : Int)) = ⟨false, (firstR m n : Int) + i, []⟩ := by
  unfold cellT
  rw [if_neg (by simp), args_next m h1 h]
theorem cellT_s (n j : Int) : cellT m (4, n, j) = ⟨false, posAt (4, n, j) 0 (varsR m), []⟩ := by
  unfold cellT
  rw [if_neg (by simp)]
noncomputable abbrev G2 (m : Mod) (f : Int) (v : Int) (cc : List MCell) (kk : List MCon) : R := mapL m gSystem_2 m.funcs.length (funsF m.funcs) m.funcs.length f 0 0 0 0 0 0 0 0 v cc.length kk.length (cellsF cc) (consF kk)
theorem cells_push (cc : List MCell) (b : Bool) (v : Int) : cellsF cc ++ [F.s (.bool b), F.s (.int .i64 v), F.lst 0 []] = cellsF (cc ++ [(⟨b, v, []⟩ : MCell)]) := by simp [cellsF, MCell.F, kF]
include hm in
theorem gS1 (v : Int) (kk : List MCon) : ∀ (n i : Nat) (cc : List MCell), i + n = m.globals.length → cc.length = i →
    mL m (fun a b c d e f g h => mapL m (gSystem_1 a b c d e f g h) m.globals.length i 0 0 0 0 0 0 0 0 v cc.length kk.length (cellsF cc) (consF kk)) = G2 m 0 v (cc ++ (blk 2 0 i n).map (cellT m)) kk
  | 0, i, cc, hi, hl => by
    rw [mL, mapL, gSystem_1_eq, if_neg (by simp; omega)]
    simp only [Nat.zero_add, Nat.mul_one, List.drop_zero, row3, row4, if_true]
    simp [blk]
  | n + 1, i, cc, hi, hl => by
    have := hm.1
    have ih := gS1 v kk n (i + 1) (cc ++ [cellT m (2, 0, (i : Int))]) (by omega) (by simp; omega)
    rw [mL, mapL, gSystem_1_eq, if_pos (by simp; omega), wrap_i64 (by omega) (by omega), show ((i : Int) + 1) = ((i + 1 : Nat) : Int) by omega]
    simp only [Nat.zero_add, Nat.mul_one, List.drop_zero, row3, row4, row3s, if_true]
    rw [if_pos ⟨trivial, by omega⟩, cells_push]
    rw [cellT_g m (by omega), List.length_append, List.length_singleton] at ih
    refine Eq.trans ih ?_
    rw [blk, List.map_cons, cellT_g m (by omega)]; simp
include hm in
theorem gS3 {f : Nat} {g : MFun} (h1 : m.funcs[f]? = some g) (v : Int) (kk : List MCon) : ∀ (n i : Nat) (cc : List MCell), i + n = g.locals.length → cc.length ≤ 1000000 + i →
    mapL m gSystem_3 f g.name g.params g.locals.length (kF .i64 g.locals) g.sites.length (kF .i64 g.sites) g.body.length (stmtsF g.body) m.funcs.length (funsF m.funcs) m.funcs.length f g.locals.length i 0 0 0 0 0 0 0 0 v cc.length kk.length (cellsF cc) (consF kk) =
    mapL m gSystem_4 f g.name g.params g.locals.length (kF .i64 g.locals) g.sites.length (kF .i64 g.sites) g.body.length (stmtsF g.body) m.funcs.length (funsF m.funcs) m.funcs.length f g.sites.length 0 0 0 0 0 0 0 0 0 v (cc ++ (blk 1 f i n).map (cellT m)).length kk.length (cellsF (cc ++ (blk 1 f i n).map (cellT m))) (consF kk)
  | 0, i, cc, hi, hl => by
    rw [mapL, gSystem_3_eq, if_neg (by simp; omega)]
    simp only [Nat.zero_add, Nat.mul_one, List.drop_zero, row3, row4, if_true]
    simp [blk]
  | n + 1, i, cc, hi, hl => by
    obtain ⟨q1, q2, _⟩ := hm.2.2 g (List.mem_of_getElem? h1)
    have hlt := (List.getElem?_eq_some_iff.1 h1).1
    have := first_le m hm (Nat.le_of_lt hlt)
    have ih := gS3 h1 v kk n (i + 1) (cc ++ [cellT m (1, (f : Int), (i : Int))]) (by omega) (by simp; omega)
    rw [mapL, gSystem_3_eq, if_pos (by simp; omega), first_at m hlt, wrap_i64 (n := (firstR m f : Int) + i) (by omega) (by omega), wrap_i64 (n := (i : Int) + 1) (by omega) (by omega), show ((i : Int) + 1) = ((i + 1 : Nat) : Int) by omega]
    simp only [Nat.zero_add, Nat.mul_one, List.drop_zero, row3, row4, row3s, if_true]
    rw [if_pos ⟨trivial, by omega⟩, cells_push]
    rw [cellT_l m h1 (by omega), List.length_append, List.length_singleton] at ih
    refine Eq.trans ih ?_
    rw [blk, List.map_cons, cellT_l m h1 (by omega)]; simp
include hm in
theorem gS4 {f : Nat} {g : MFun} (h1 : m.funcs[f]? = some g) (hb : (flats 0 0 g.body).length ≤ big) (v : Int) (kk : List MCon) : ∀ (n i : Nat) (cc : List MCell), i + n = g.sites.length → cc.length ≤ 2000000 + i →
    mapL m gSystem_4 f g.name g.params g.locals.length (kF .i64 g.locals) g.sites.length (kF .i64 g.sites) g.body.length (stmtsF g.body) m.funcs.length (funsF m.funcs) m.funcs.length f g.sites.length i 0 0 0 0 0 0 0 0 v cc.length kk.length (cellsF cc) (consF kk) =
    mapL m gSystem_5 f m.funcs.length (funsF m.funcs) m.funcs.length f (flats 0 0 g.body).length (itemsF (flats 0 0 g.body)) (flats 0 0 g.body).length 0 0 0 0 0 0 0 0 0 v (cc ++ (blk 4 f i n).map (cellT m)).length kk.length (cellsF (cc ++ (blk 4 f i n).map (cellT m))) (consF kk)
  | 0, i, cc, hi, hl => by
    rw [mapL, gSystem_4_eq, if_neg (by simp; omega), mFlat_spec g.body hb, pL_some]
    simp only [Nat.zero_add, Nat.mul_one, List.drop_zero, row3, row4, if_true]
    simp [blk]
  | n + 1, i, cc, hi, hl => by
    obtain ⟨q1, q2, _⟩ := hm.2.2 g (List.mem_of_getElem? h1)
    have ih := gS4 h1 hb v kk n (i + 1) (cc ++ [cellT m (4, (f : Int), (i : Int))]) (by omega) (by simp; omega)
    rw [mapL, gSystem_4_eq, if_pos (by simp; omega), gmContent_spec m hm, pI_some, wrap_i64 (n := (i : Int) + 1) (by omega) (by omega), show ((i : Int) + 1) = ((i + 1 : Nat) : Int) by omega]
    simp only [Nat.zero_add, Nat.mul_one, List.drop_zero, row3, row4, row3s, if_true]
    rw [if_pos ⟨trivial, by omega⟩, cells_push]
    rw [cellT_s, List.length_append, List.length_singleton] at ih
    refine Eq.trans ih ?_
    rw [blk, List.map_cons, cellT_s]; simp
include hm in
theorem gS5 (f : Nat) (hf : f ≤ 100) (items : List MItem) (hlen : items.length ≤ 1000) (ho : ∀ x ∈ items, okS m x.s) (v : Int) (cc : List MCell) : ∀ (rest : List MItem) (i : Nat) (kk : List MCon), items.drop i = rest → i ≤ items.length → kk.length + rest.length * 101 + 2 ≤ 1000000000 →
    mapL m gSystem_5 f m.funcs.length (funsF m.funcs) m.funcs.length f items.length (itemsF items) items.length i 0 0 0 0 0 0 0 0 v cc.length kk.length (cellsF cc) (consF kk) =
    G2 m ((f + 1 : Nat) : Int) v cc (kk ++ rest.flatMap fun x => consT m f x.s)
  | [], i, kk, hd, hi, hl => by
    have := done_of_drop hd
    rw [mapL, gSystem_5_eq, if_neg (by simp; omega), wrap_i64 (by omega) (by omega), show ((f : Int) + 1) = ((f + 1 : Nat) : Int) by omega]
    simp only [Nat.zero_add, Nat.mul_one, List.drop_zero, row3, row4, if_true]
    simp
  | x :: rest, i, kk, hd, hi, hl => by
    have hlt := lt_of_drop hd
    simp only [List.length_cons] at hl
    have hox := ho x (mem_of_drop hd)
    have hcl := consT_len m f x.s
    have hal := hox.2.1
    have ih := gS5 f hf items hlen ho v cc rest (i + 1) (kk ++ consT m f x.s) (drop_next hd) (by omega) (by rw [List.length_append]; omega)
    rw [mapL, gSystem_5_eq, if_pos (by simp; omega), elem_next MItem.F_len hd]
    rcases x with ⟨xn, xd, s⟩
    dsimp only at hal hox hcl ih
    simp only [MItem.F, MStmt.F_eq, List.cons_append, List.nil_append, atI_zero, atI_succ, atL_zero, atL_succ]
    rw [gmconstraints_spec m hm f s hox, pL_some, wrap_i64 (by omega) (by omega), show ((i : Int) + 1) = ((i + 1 : Nat) : Int) by omega]
    have hkl : (consF kk).length = kk.length * 4 := flat_len MCon.F_len kk
    have hcf : (consF (consT m f s)).length = (consT m f s).length * 4 := flat_len MCon.F_len _
    have e : consF kk ++ consF (consT m f s) = consF (kk ++ consT m f s) := by simp [consF]
    have hef : (consF (kk ++ consT m f s)).length = (kk.length + (consT m f s).length) * 4 := by rw [flat_len MCon.F_len, List.length_append]
    simp only [Nat.zero_add, Nat.mul_one, List.drop_zero, row3, row4, if_true]
    rw [if_pos ⟨by decide, hcf, by decide⟩, if_pos ⟨trivial, by omega⟩, e, if_pos (by omega), List.take_of_length_le (by omega)]
    rw [List.length_append] at ih
    refine Eq.trans ih ?_
    simp
def okG (m : Mod) : Prop := okM m ∧ okB m ∧ ∀ f ∈ m.funcs, ∀ x ∈ flats 0 0 f.body, okS m x.s
theorem gS2 (hg : okG m) (v : Int) : ∀ (rest : List MFun) (f : Nat) (cc : List MCell) (kk : List MCon), m.funcs.drop f = rest → f ≤ m.funcs.length → cc.length ≤ 100 + f * 300 → kk.length + rest.length * 102000 + 2 ≤ 1000000000 →
    G2 m f v cc kk = some (.ret (.tup [.agg (sysV ⟨v, cc ++ (fromF cellsOfF f rest).map (cellT m), kk ++ consFrom m f rest⟩), .agg (faultV none)]), [])
  | [], f, cc, kk, hd, hf, hc, hl => by
    have := done_of_drop hd
    rw [G2, mapL, gSystem_2_eq, if_neg (by simp; omega)]
    simp only [Nat.zero_add, Nat.mul_one, List.drop_zero, row3, row4, if_true]
    simp [consFrom, fromF, faultV]
  | g :: rest, f, cc, kk, hd, hf, hc, hl => by
    obtain ⟨hm, hb, hs⟩ := hg
    have hlt := lt_of_drop hd
    simp only [List.length_cons] at hl
    have h2 := hm.2.1
    have h1 : m.funcs[f]? = some g := by rw [drop_get hlt] at hd; rw [List.getElem?_eq_getElem hlt, (List.cons.inj hd).1]
    obtain ⟨b1, b2⟩ := hb g (mem_of_drop hd)
    obtain ⟨q1, q2, _⟩ := hm.2.2 g (mem_of_drop hd)
    rw [G2, mapL, gSystem_2_eq, if_pos (by simp; omega), elem_next MFun.F_len hd]
    simp only [MFun.F, List.cons_append, atI_zero, atI_succ, atL_zero, atL_succ]
    rw [gmfunction_spec m hm h1, pA_some]
    simp only [cB, cI, cL, V.bool?, V.int?, V.lst?, V.f?, F.bool?, F.int?, F.lst?, List.getElem?_cons_zero, List.getElem?_cons_succ, Option.bind_some, if_true, List.length_cons, List.length_nil]
    simp only [Nat.zero_add, Nat.mul_one, List.drop_zero, row3, row4, row3s, if_true]
    rw [if_pos ⟨trivial, by omega⟩]
    have e : cellsF cc ++ [F.s (.bool (cellT m (3, (f : Int), 0)).fn), F.s (.int .i64 (cellT m (3, (f : Int), 0)).var), F.lst (cellT m (3, (f : Int), 0)).args.length (kF .i64 (cellT m (3, (f : Int), 0)).args)] = cellsF (cc ++ [cellT m (3, (f : Int), 0)]) := by simp [cellsF, MCell.F]
    rw [e]
    have s3 := gS3 m hm h1 v kk g.locals.length 0 (cc ++ [cellT m (3, (f : Int), 0)]) (by omega) (by simp; omega)
    rw [List.length_append, List.length_singleton] at s3
    refine Eq.trans s3 ?_
    have l1 := blk_len 1 (f : Int) g.locals.length 0
    have l4 := blk_len 4 (f : Int) g.sites.length 0
    refine (gS4 m hm h1 (by unfold big; omega) v kk g.sites.length 0 _ (by omega) (by simp; omega)).trans ?_
    refine (gS5 m hm f (by omega) (flats 0 0 g.body) b1 (hs g (mem_of_drop hd)) v _ (flats 0 0 g.body) 0 kk rfl (by omega) (by omega)).trans ?_
    have hlen : ((flats 0 0 g.body).flatMap fun x => consT m f x.s).length ≤ (flats 0 0 g.body).length * 101 := by
      generalize flats 0 0 g.body = l at b2
      clear b1
      induction l with
      | nil => simp
      | cons x l ih =>
        have h1 := consT_len m f x.s
        have h2 := b2 x (by simp)
        have h3 := ih fun y hy => b2 y (by simp [hy])
        simp only [List.flatMap_cons, List.length_append, List.length_cons]
        omega
    refine (gS2 ⟨hm, hb, hs⟩ v rest (f + 1) _ _ (drop_next hd) (by omega) (by simp; omega) (by rw [List.length_append]; omega)).trans ?_
    simp [consFrom, fromF, cellsOfF]
end
/-- THE PROGRAM's CONSTRAINTS -/
theorem gSystem_spec (m : Mod) (hg : okG m) (hs : m.strings.length ≤ big) (ha : argsOk m) (hc : checkR m = none) (h0 : H) : run w0 10 [.agg (modV m)] h0 = some (.ret (.tup [.agg (sysV (sysT m)), .agg (faultV none)]), h0) := by
  have hm := hg.1
  rw [gSystem_run, gSystem_eq, ruleCheck_spec m hs (by have := hm.2.1; unfold big; omega) ha, hc, pA_some]
  simp only [faultV, cI, List.getElem?_cons_zero, List.getElem?_cons_succ, Option.bind_some, V.int?, V.f?, F.int?, if_true, List.length_cons, List.length_nil]
  rw [if_neg (by simp), gNewMap_spec m hm, pA_some]
  simp only [cI, cL, V.int?, V.lst?, V.f?, F.int?, F.lst?, List.getElem?_cons_zero, List.getElem?_cons_succ, Option.bind_some, if_true, List.length_cons, List.length_nil]
  rw [gmVars_spec m, pI_some]
  have h1 := gS1 m hm (allR m) [] m.globals.length 0 [] (by omega) rfl
  have hb := blk_len 2 0 m.globals.length 0
  have hgl := hm.1
  have h2 := gS2 m hg (allR m) m.funcs 0 ([] ++ (blk 2 0 0 m.globals.length).map (cellT m)) [] rfl (by omega) (by simp; omega) (by have := hm.2.1; simp; omega)
  refine (congrArg (withH true h0) (h1.trans h2)).trans ?_
  rw [withH_true]
  simp only [sysT, cellsR, List.nil_append, List.map_append, allR_len]
  rfl
end Go.Proofs.Ytlddnplflakmiaa
