import Derived.Test.YtemnahkpffafoaaDoorPackSpecL
import Derived.Test.YtemnahkpffafoaaDoorRuleSpec
set_option autoImplicit false
namespace Go.Proofs.YtemnahkpffafoaaDoor
open Go Go.Abs
theorem data_len (s : ByteArray) : s.data.toList.length = s.size := by cases s; simp [ByteArray.size]
theorem own_Text : OwnFn w0 21 Tryd.f21 [.own 1, .val] [.own 1] := ⟨rfl, by kernel_rfl, rfl, by kernel_rfl, _, _, rfl⟩
theorem own_llay11 : OwnFn w0 13 Tryd.f13 [.val] [.own 1] := ⟨rfl, by kernel_rfl, rfl, by kernel_rfl, _, _, rfl⟩
theorem Text_adds (s : ByteArray) : AddsB 21 [S s] (textB s) := by
 refine AddsB.of own_Text (of_decide_eq_true (by kernel_rfl)) rfl fun p hr => ?_
 have e : coreOf w0 21 Tryd.f21 [.own 1] none [.ref 0 0 p.length 1, S s] [.fz (bF p)] = Text_0 (bF p) p.length s := rfl
 have hd : putB (((s.size : Nat) : Int) % 18446744073709551616).toNat = nuB (s.size : Nat) := rfl
 have hs := data_len s
 have hr2 : p.length + ((nuB (s.size : Nat)).length + s.size) + 20 ≤ roomB := by rw [List.length_append] at hr; unfold textB at hr; rw [List.length_append, hs] at hr; exact hr
 have hr3 : (p ++ nuB (s.size : Nat)).length + 20 ≤ roomB := by rw [List.length_append]; omega
 rw [e, Text_eq, u64_nat, (Put_adds (n := (((s.size : Nat) : Int) % 18446744073709551616).toNat) (by omega)).go (h := [.fz (bF p)]) (k := 0) (L := 1) (L' := 2) rfl rfl rfl (by rw [hd]; exact hr3), hd, byteF_eq]
 unfold roomB at hr2
 have hl : (p ++ nuB (s.size : Nat)).length + s.size = (p ++ textB s).length := by unfold textB; simp [hs, Nat.add_assoc]
 rw [if_pos ⟨by omega, by rw [bF_length, hs, Nat.mul_one], by omega⟩, if_pos ⟨rfl, by rw [List.length_append]; omega⟩, keepB, takeB, ← bF_append, hl, List.append_assoc, show nuB (s.size : Nat) ++ s.data.toList = textB s from rfl, keepB, takeB]
noncomputable abbrev mdL {α : Type} (m : Abs.Mod) (k : Nat → List F → Nat → List F → Nat → List F → Nat → List F → α) : α := k m.strings.length (sF m.strings) m.globals.length (kF .i64 m.globals) m.funcs.length (funsF m.funcs) m.entries.length (kF .i64 m.entries)
noncomputable abbrev E1 (m : Abs.Mod) (i : Nat) (p : List UInt8) : R := mdL m pEncode_1 p.length m.strings.length (sF m.strings) m.strings.length i 0 0 0 0 0 0 0 (bF p)
noncomputable abbrev E2 (m : Abs.Mod) (i : Nat) (p : List UInt8) : R := mdL m pEncode_2 p.length m.funcs.length (funsF m.funcs) m.funcs.length i 0 0 0 0 0 0 0 (bF p)
abbrev zOb : Ob := .cells [I 0, I 0, I 0, I 0, I 0, I 0, I 0]
theorem E1_loop (m : Abs.Mod) (hl : m.strings.length ≤ 1048576) (hg : m.globals.length ≤ 1048576) : ∀ (rest : List ByteArray) (i : Nat) (p : List UInt8), m.strings.drop i = rest → (p ++ (rest.flatMap textB ++ (listB m.globals ++ nuB m.funcs.length))).length + 20 ≤ roomB →
  E1 m i p = E2 m 0 (p ++ (rest.flatMap textB ++ (listB m.globals ++ nuB m.funcs.length)))
 | [], i, p, hd, hr => by
  have := done_of_drop hd
  rw [List.flatMap_nil, List.nil_append, ← List.append_assoc] at hr ⊢
  unfold E1 mdL
  rw [pEncode_1_eq, if_neg (by simp; omega), (plist_adds m.globals hg).go (h := [zOb, .fz (bF p)]) (k := 1) (L := 2) (L' := 3) rfl rfl rfl (by rw [List.length_append] at hr; omega),
   (pnum_adds (m.funcs.length : Nat)).go (h := [zOb, .dead, .fz (bF (p ++ listB m.globals))]) (k := 2) (L := 3) (L' := 4) rfl rfl rfl hr, keepB, takeB]
  rfl
 | s :: rest, i, p, hd, hr => by
  have hlt := lt_of_drop hd
  rw [List.flatMap_cons, List.append_assoc, ← List.append_assoc] at hr ⊢
  have ih := E1_loop m hl hg rest (i + 1) (p ++ textB s) (drop_next hd) hr
  rw [← ih]
  unfold E1 mdL
  rw [pEncode_1_eq, if_pos (decide_eq_true (by omega)), elem_sF hd, atS_zero, (Text_adds s).go (h := [zOb, .fz (bF p)]) (k := 1) (L := 2) (L' := 3) rfl rfl rfl (by rw [List.length_append] at hr; omega), keepB, takeB,
   show ((i : Nat) : Int) + 1 = ((i + 1 : Nat) : Int) by omega, wrap_i64 (by omega) (by omega)]
theorem E2_loop (m : Abs.Mod) (hl : m.funcs.length ≤ 1048576) (hg : m.entries.length ≤ 1048576) (hf : ∀ f ∈ m.funcs, okFnP f) : ∀ (rest : List MFun) (i : Nat) (p : List UInt8), m.funcs.drop i = rest → (p ++ (rest.flatMap funB ++ listB m.entries)).length + 20 ≤ roomB →
  E2 m i p = some (.ret (.tup [.f (.lst (sealB (p ++ (rest.flatMap funB ++ listB m.entries))).length (bF (sealB (p ++ (rest.flatMap funB ++ listB m.entries))))), .agg (faultV none)]), [])
 | [], i, p, hd, hr => by
  have := done_of_drop hd
  rw [List.flatMap_nil, List.nil_append] at hr ⊢
  unfold E2 mdL
  rw [pEncode_2_eq, if_neg (by simp; omega), (plist_adds m.entries hg).go (h := [zOb, .fz (bF p)]) (k := 1) (L := 2) (L' := 3) rfl rfl rfl hr]
  have e := sumSeal_give (h := [zOb, .dead, .fz (bF (p ++ listB m.entries))]) (k := 2) (p := p ++ listB m.entries) rfl (by unfold roomB at hr ⊢; omega)
  rw [e, pO_some]
  simp [V.lst?, V.f?, F.lst?, faultV]
 | f :: rest, i, p, hd, hr => by
  have hlt := lt_of_drop hd
  have hm : f ∈ m.funcs := List.mem_of_mem_drop (by rw [hd]; simp : f ∈ m.funcs.drop i)
  obtain ⟨_, _, f3, f4, f5⟩ := hf f hm
  rw [List.flatMap_cons, List.append_assoc, ← List.append_assoc] at hr ⊢
  have ih := E2_loop m hl hg hf rest (i + 1) (p ++ funB f) (drop_next hd) hr
  rw [← ih]
  have hr2 : (p ++ funB f).length + 20 ≤ roomB := by rw [List.length_append] at hr; omega
  unfold funB at hr2
  simp only [List.length_append] at hr2
  unfold E2 mdL
  rw [pEncode_2_eq, if_pos (decide_eq_true (by omega)), elem_next MFun.F_len hd]
  simp only [MFun.F, List.cons_append, List.nil_append, atI_zero, atI_succ, atL_zero, atL_succ]
  have hfo : (.cells [N .i64 f.name, N .i64 f.params, .f (.lst f.locals.length (kF .i64 f.locals)), .f (.lst f.sites.length (kF .i64 f.sites)), .f (.lst f.body.length (stmtsF f.body))] : Ob) = .cells (funV f) := rfl
  rw [hfo, (pnum_adds f.name).go (h := [zOb, .fz (bF p), .cells (funV f)]) (k := 1) (L := 3) (L' := 4) rfl rfl rfl (by simp only [List.length_append]; omega),
   (pnum_adds f.params).go (h := [zOb, .dead, .cells (funV f), .fz (bF (p ++ nuB f.name))]) (k := 3) (L := 4) (L' := 5) rfl rfl rfl (by simp only [List.length_append]; omega),
   (plist_adds f.locals f3.1).go (h := [zOb, .dead, .cells (funV f), .dead, .fz (bF (p ++ nuB f.name ++ nuB f.params))]) (k := 4) (L := 5) (L' := 6) rfl rfl rfl (by simp only [List.length_append]; omega),
   (plist_adds f.sites f4.1).go (h := [zOb, .dead, .cells (funV f), .dead, .dead, .fz (bF (p ++ nuB f.name ++ nuB f.params ++ listB f.locals))]) (k := 5) (L := 6) (L' := 7) rfl rfl rfl (by simp only [List.length_append]; omega),
   (pbody_adds 16 f.body f5).go (h := [zOb, .dead, .cells (funV f), .dead, .dead, .dead, .fz (bF (p ++ nuB f.name ++ nuB f.params ++ listB f.locals ++ listB f.sites))]) (k := 6) (L := 7) (L' := 8) rfl rfl rfl (by simp only [List.length_append]; omega), keepB, takeB,
   show ((i : Nat) : Int) + 1 = ((i + 1 : Nat) : Int) by omega, wrap_i64 (by omega) (by omega)]
  have : p ++ nuB f.name ++ nuB f.params ++ listB f.locals ++ listB f.sites ++ bodyB f.body = p ++ funB f := by unfold funB; simp only [List.append_assoc]
  rw [this]
theorem pEncode_spec (m : Abs.Mod) (hs : m.strings.length ≤ big) (hN : m.funcs.length ≤ big) (ha : argsOk m) (hc : checkR m = none) (hk : okPk m) (hr : (packB m).length + 100 ≤ roomB) (h0 : H) :
  run w0 10 [.agg (modV m)] h0 = some (.ret (.tup [.f (.lst (sealB (markB ++ packB m)).length (bF (sealB (markB ++ packB m)))), .agg (faultV none)]), h0) := by
 rw [pEncode_run, pEncode_eq, ruleCheck_spec m hs hN ha, hc, pA_some]
 simp only [faultV, cI, List.getElem?_cons_zero, List.getElem?_cons_succ, Option.bind_some, V.int?, V.f?, F.int?, if_true, List.length_cons, List.length_nil]
 have hm : ([F.s (.int .u8 87), F.s (.int .u8 86), F.s (.int .u8 77), F.s (.int .u8 49)] : List F) = bF markB := rfl
 unfold packB at hr
 simp only [List.length_append] at hr
 have h4 : markB.length = 4 := rfl
 have e1 := (pnum_adds (m.strings.length : Nat)).go (h := [.cells (modV m), zOb, .cells [I 0, I 0, I 0, I 0, I 0, I (-1), I (-1)], .fz (bF markB)]) (k := 3) (L := 4) (L' := 5) (p := markB) rfl rfl rfl (by rw [List.length_append]; omega)
 rw [h4] at e1
 rw [if_neg (by simp), hm]
 have e2 := E1_loop m hk.strings.1 hk.globals.1 m.strings 0 (markB ++ nuB m.strings.length) rfl (by simp only [List.length_append, h4]; omega)
 have e3 := E2_loop m hk.funcs.1 hk.entries.1 hk.funcs.2 m.funcs 0 (markB ++ nuB m.strings.length ++ (m.strings.flatMap textB ++ (listB m.globals ++ nuB m.funcs.length))) rfl (by simp only [List.length_append, h4]; omega)
 have e4 := e2.trans e3
 have hp : markB ++ nuB m.strings.length ++ (m.strings.flatMap textB ++ (listB m.globals ++ nuB m.funcs.length)) ++ (m.funcs.flatMap funB ++ listB m.entries) = markB ++ packB m := by unfold packB; simp only [List.append_assoc]
 rw [hp] at e4
 rw [e1, keepB, takeB]
 exact (congrArg (withH true h0) e4).trans (withH_true _ _ _)
theorem pEncode_fault (m : Abs.Mod) (hs : m.strings.length ≤ big) (hN : m.funcs.length ≤ big) (ha : argsOk m) {x : Int × Int × Int} (hc : checkR m = some x) (h0 : H) :
  run w0 10 [.agg (modV m)] h0 = some (.ret (.tup [.f (.lst 0 []), .agg (faultV (some x))]), h0) := by
 obtain ⟨a, b, c⟩ := x
 rw [pEncode_run, pEncode_eq, ruleCheck_spec m hs hN ha, hc, pA_some]
 simp only [faultV, cI, List.getElem?_cons_zero, List.getElem?_cons_succ, Option.bind_some, V.int?, V.f?, F.int?, if_true, List.length_cons, List.length_nil]
 rw [if_pos (by rfl), withH_true]
noncomputable abbrev Y1 (m : Abs.Mod) (i : Nat) (p : List UInt8) : R := mdL m llay11_1 p.length i (bF p)
noncomputable abbrev Y2 (m : Abs.Mod) (i : Nat) (p : List UInt8) : R := mdL m llay11_2 p.length i (bF p)
theorem Y1_loop (m : Abs.Mod) (hl : m.strings.length ≤ 1048576) (hg : m.globals.length ≤ 1048576) : ∀ (rest : List ByteArray) (i : Nat) (p : List UInt8), m.strings.drop i = rest → (p ++ (rest.flatMap textB ++ (listB m.globals ++ nuB m.funcs.length))).length + 20 ≤ roomB →
  Y1 m i p = Y2 m 0 (p ++ (rest.flatMap textB ++ (listB m.globals ++ nuB m.funcs.length)))
 | [], i, p, hd, hr => by
  have := done_of_drop hd
  rw [List.flatMap_nil, List.nil_append, ← List.append_assoc] at hr ⊢
  unfold Y1 mdL
  rw [llay11_1_eq, if_neg (by simp; omega), (llist_adds m.globals hg).go (h := [.fz (bF p)]) (k := 0) (L := 1) (L' := 2) rfl rfl rfl (by rw [List.length_append] at hr; omega),
   (lnum_adds (m.funcs.length : Nat)).go (h := [.dead, .fz (bF (p ++ listB m.globals))]) (k := 1) (L := 2) (L' := 3) rfl rfl rfl hr, keepB, takeB]
  rfl
 | s :: rest, i, p, hd, hr => by
  have hlt := lt_of_drop hd
  rw [List.flatMap_cons, List.append_assoc, ← List.append_assoc] at hr ⊢
  have ih := Y1_loop m hl hg rest (i + 1) (p ++ textB s) (drop_next hd) hr
  rw [← ih]
  have hs := data_len s
  have hr2 : (p ++ textB s).length + 20 ≤ roomB := by rw [List.length_append] at hr; omega
  have hl2 : (p ++ nuB (s.size : Nat)).length + s.size = (p ++ textB s).length := by unfold textB; simp [hs, Nat.add_assoc]
  have hr3 := hr2
  unfold roomB at hr3
  unfold Y1 mdL
  rw [llay11_1_eq, if_pos (decide_eq_true (by omega)), elem_sF hd, atS_zero, (lnum_adds (s.size : Nat)).go (h := [.fz (bF p)]) (k := 0) (L := 1) (L' := 2) rfl rfl rfl (by omega), elem_sF hd, atS_zero, byteF_eq,
   if_pos ⟨by omega, by rw [bF_length, hs, Nat.mul_one], by omega⟩, if_pos ⟨rfl, by omega⟩, keepB, takeB, ← bF_append, hl2, List.append_assoc, show nuB (s.size : Nat) ++ s.data.toList = textB s from rfl, keepB, takeB,
   show ((i : Nat) : Int) + 1 = ((i + 1 : Nat) : Int) by omega, wrap_i64 (by omega) (by omega)]
theorem Y2_loop (m : Abs.Mod) (hl : m.funcs.length ≤ 1048576) (hg : m.entries.length ≤ 1048576) (hf : ∀ f ∈ m.funcs, okFnP f) : ∀ (rest : List MFun) (i : Nat) (p : List UInt8), m.funcs.drop i = rest → (p ++ (rest.flatMap funB ++ listB m.entries)).length + 20 ≤ roomB →
  Y2 m i p = some (.ret (.ref 0 0 (p ++ (rest.flatMap funB ++ listB m.entries)).length 1), [.fz (bF (p ++ (rest.flatMap funB ++ listB m.entries)))])
 | [], i, p, hd, hr => by
  have := done_of_drop hd
  rw [List.flatMap_nil, List.nil_append] at hr ⊢
  unfold Y2 mdL
  rw [llay11_2_eq, if_neg (by simp; omega), (llist_adds m.entries hg).go (h := [.fz (bF p)]) (k := 0) (L := 1) (L' := 2) rfl rfl rfl hr, keepB, takeB]
 | f :: rest, i, p, hd, hr => by
  have hlt := lt_of_drop hd
  have hm : f ∈ m.funcs := List.mem_of_mem_drop (by rw [hd]; simp : f ∈ m.funcs.drop i)
  obtain ⟨_, _, f3, f4, f5⟩ := hf f hm
  rw [List.flatMap_cons, List.append_assoc, ← List.append_assoc] at hr ⊢
  have ih := Y2_loop m hl hg hf rest (i + 1) (p ++ funB f) (drop_next hd) hr
  rw [← ih]
  have hr2 : (p ++ funB f).length + 20 ≤ roomB := by rw [List.length_append] at hr; omega
  unfold funB at hr2
  simp only [List.length_append] at hr2
  unfold Y2 mdL
  rw [llay11_2_eq, if_pos (decide_eq_true (by omega)), elem_next MFun.F_len hd]
  simp only [MFun.F, List.cons_append, List.nil_append, atI_zero, atI_succ, atL_zero, atL_succ]
  have hfo : (.cells [N .i64 f.name, N .i64 f.params, .f (.lst f.locals.length (kF .i64 f.locals)), .f (.lst f.sites.length (kF .i64 f.sites)), .f (.lst f.body.length (stmtsF f.body))] : Ob) = .cells (funV f) := rfl
  rw [hfo, (lnum_adds f.name).go (h := [.fz (bF p), .cells (funV f)]) (k := 0) (L := 2) (L' := 3) rfl rfl rfl (by simp only [List.length_append]; omega),
   (lnum_adds f.params).go (h := [.dead, .cells (funV f), .fz (bF (p ++ nuB f.name))]) (k := 2) (L := 3) (L' := 4) rfl rfl rfl (by simp only [List.length_append]; omega),
   (llist_adds f.locals f3.1).go (h := [.dead, .cells (funV f), .dead, .fz (bF (p ++ nuB f.name ++ nuB f.params))]) (k := 3) (L := 4) (L' := 5) rfl rfl rfl (by simp only [List.length_append]; omega),
   (llist_adds f.sites f4.1).go (h := [.dead, .cells (funV f), .dead, .dead, .fz (bF (p ++ nuB f.name ++ nuB f.params ++ listB f.locals))]) (k := 4) (L := 5) (L' := 6) rfl rfl rfl (by simp only [List.length_append]; omega),
   (lbody_adds 16 f.body f5).go (h := [.dead, .cells (funV f), .dead, .dead, .dead, .fz (bF (p ++ nuB f.name ++ nuB f.params ++ listB f.locals ++ listB f.sites))]) (k := 5) (L := 6) (L' := 7) rfl rfl rfl (by simp only [List.length_append]; omega), keepB, takeB,
   show ((i : Nat) : Int) + 1 = ((i + 1 : Nat) : Int) by omega, wrap_i64 (by omega) (by omega)]
  have : p ++ nuB f.name ++ nuB f.params ++ listB f.locals ++ listB f.sites ++ bodyB f.body = p ++ funB f := by unfold funB; simp only [List.append_assoc]
  rw [this]
theorem llay_core (m : Abs.Mod) (hk : okPk m) (hr : (packB m).length + 100 ≤ roomB) : mdL m llay11_0 = some (.ret (.ref 0 0 (markB ++ packB m).length 1), [.fz (bF (markB ++ packB m))]) := by
 have hm : ([F.s (.int .u8 87), F.s (.int .u8 86), F.s (.int .u8 77), F.s (.int .u8 49)] : List F) = bF markB := rfl
 unfold packB at hr
 simp only [List.length_append] at hr
 have h4 : markB.length = 4 := rfl
 have e1 := (lnum_adds (m.strings.length : Nat)).go (h := [.cells (modV m), .fz (bF markB)]) (k := 1) (L := 2) (L' := 3) (p := markB) rfl rfl rfl (by rw [List.length_append]; omega)
 rw [h4] at e1
 have e2 := Y1_loop m hk.strings.1 hk.globals.1 m.strings 0 (markB ++ nuB m.strings.length) rfl (by simp only [List.length_append, h4]; omega)
 have e3 := Y2_loop m hk.funcs.1 hk.entries.1 hk.funcs.2 m.funcs 0 (markB ++ nuB m.strings.length ++ (m.strings.flatMap textB ++ (listB m.globals ++ nuB m.funcs.length))) rfl (by simp only [List.length_append, h4]; omega)
 have e4 := e2.trans e3
 have hp : markB ++ nuB m.strings.length ++ (m.strings.flatMap textB ++ (listB m.globals ++ nuB m.funcs.length)) ++ (m.funcs.flatMap funB ++ listB m.entries) = markB ++ packB m := by unfold packB; simp only [List.append_assoc]
 rw [hp] at e4
 unfold mdL
 rw [llay11_eq, hm, e1, keepB, takeB]
 exact e4
theorem llay_at {h : H} (m : Abs.Mod) (hk : okPk m) (hr : (packB m).length + 100 ≤ roomB) : run w0 13 [.agg (modV m)] h = some (.ret (.ref h.length 0 (markB ++ packB m).length 1), h ++ [.fz (bF (markB ++ packB m))]) := by
 rw [call_vals own_llay11 (of_decide_eq_true (by kernel_rfl)) rfl]
 have e : coreOf w0 13 Tryd.f13 [.own 1] none [.agg (modV m)] [] = mdL m llay11_0 := rfl
 rw [e, llay_core m hk hr, graft_ref]
end Go.Proofs.YtemnahkpffafoaaDoor
