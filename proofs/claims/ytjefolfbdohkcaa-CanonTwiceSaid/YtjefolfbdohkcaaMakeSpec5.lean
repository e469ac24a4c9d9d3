/-
  Modules by numbers: the statements, one by one. (Printed by mkmake.py: alike for one function to four.)
-/
import Derived.Test.YtjefolfbdohkcaaMakeSpec3
import Derived.Test.YtjefolfbdohkcaaMakeOk2
set_option autoImplicit false
set_option linter.unusedVariables false
set_option linter.unusedSimpArgs false
namespace Go.Proofs.Ytjefolfbdohkcaa
open Go Go.Abs
theorem both_self (r : R) : both r r = r := by
  unfold both
  cases r with
  | none => rfl
  | some x => simp
theorem act_cells {l rest : List MAct} {x : MAct} {i : Nat} (h : l.drop i = x :: rest) (K : Int → Int → Int → Int → R) : (elem (.lst l.length (actsF l)) (i : Int) 4 fun c => atI .u8 c 0 fun a => atI .u8 c 1 fun b => atI .u8 c 2 fun d => atI .u8 c 3 fun e => K a b d e) = K x.k x.a x.b x.c := by
  rw [elem_next MAct.F_len h]
  simp only [MAct.F, List.cons_append, atI_zero, atI_succ]
theorem bLe (b : List MStmt) : 0 + b.length * 7 ≤ (stmtsF b).length := by rw [flat_len MStmt.F_len b]; omega
theorem bAll (b : List MStmt) : ((stmtsF b).drop 0).take (b.length * 7) = stmtsF b := by
  rw [List.drop_zero, List.take_of_length_le (by rw [flat_len MStmt.F_len b]; exact Nat.le_refl _)]
theorem bSnoc (b : List MStmt) (s : MStmt) : stmtsF b ++ ([F.s (.int .u8 s.kind), F.s (.int .u8 s.a.k), F.s (.int .i64 s.a.id), F.s (.int .u8 s.b.k), F.s (.int .i64 s.b.id), F.lst s.args.length (refsF s.args), F.lst s.body.length (stmtsF s.body)]) = stmtsF (b ++ [s]) := by
  rw [← MStmt.F_eq]; simp
theorem bPush (b : List MStmt) (s : MStmt) : (((stmtsF b).drop 0).take (b.length * 7)) ++ ([F.s (.int .u8 s.kind), F.s (.int .u8 s.a.k), F.s (.int .i64 s.a.id), F.s (.int .u8 s.b.k), F.s (.int .i64 s.b.id), F.lst s.args.length (refsF s.args), F.lst s.body.length (stmtsF s.body)]) = stmtsF (b ++ [s]) := by
  rw [bAll, bSnoc]
theorem bLe1 (b : List MStmt) (s : MStmt) : 0 + (b.length + 1) * 7 ≤ (stmtsF (b ++ [s])).length := by rw [flat_len MStmt.F_len (b ++ [s])]; simp
theorem bAll1 (b : List MStmt) (s : MStmt) : ((stmtsF (b ++ [s])).drop 0).take ((b.length + 1) * 7) = stmtsF (b ++ [s]) := by
  rw [List.drop_zero, List.take_of_length_le (by rw [flat_len MStmt.F_len (b ++ [s])]; simp)]
theorem set_at (l r : List F) (k : Nat) (a : F) : (l ++ r).set (l.length + k) a = l ++ r.set k a := by
  rw [List.set_append_right _ _ (by omega)]; simp
theorem set7 (l : List F) (p : Nat) (hp : l.length = p) (z0 z1 z2 z3 z4 z5 z6 a0 a1 a2 a3 a4 a5 a6 : F) :
    (((((((l ++ ([z0, z1, z2, z3, z4, z5, z6])).set (0 + p) a0).set ((0 + p) + 1) a1).set (((0 + p) + 1) + 1) a2).set ((((0 + p) + 1) + 1) + 1) a3).set (((((0 + p) + 1) + 1) + 1) + 1) a4).set ((((((0 + p) + 1) + 1) + 1) + 1) + 1) a5).set (((((((0 + p) + 1) + 1) + 1) + 1) + 1) + 1) a6 = l ++ [a0, a1, a2, a3, a4, a5, a6] := by
  subst hp
  rw [Nat.zero_add]
  rw [show l.length + 1 + 1 + 1 + 1 + 1 + 1 = l.length + 6 from rfl, show l.length + 1 + 1 + 1 + 1 + 1 = l.length + 5 from rfl, show l.length + 1 + 1 + 1 + 1 = l.length + 4 from rfl, show l.length + 1 + 1 + 1 = l.length + 3 from rfl, show l.length + 1 + 1 = l.length + 2 from rfl]
  have h0 := set_at l [z0, z1, z2, z3, z4, z5, z6] 0 a0
  rw [Nat.add_zero] at h0
  rw [h0]
  simp only [set_at, List.set_cons_zero, List.set_cons_succ]
theorem bSet (b : List MStmt) (s : MStmt) (z0 z1 z2 z3 z4 z5 z6 : F) :
    ((((((((((stmtsF b).drop 0).take (b.length * 7)) ++ ([z0, z1, z2, z3, z4, z5, z6])).set (0 + ((Int.toNat (b.length : Int)) * 7)) (F.s (.int .u8 s.kind))).set ((0 + ((Int.toNat (b.length : Int)) * 7)) + 1) (F.s (.int .u8 s.a.k))).set (((0 + ((Int.toNat (b.length : Int)) * 7)) + 1) + 1) (F.s (.int .i64 s.a.id))).set ((((0 + ((Int.toNat (b.length : Int)) * 7)) + 1) + 1) + 1) (F.s (.int .u8 s.b.k))).set (((((0 + ((Int.toNat (b.length : Int)) * 7)) + 1) + 1) + 1) + 1) (F.s (.int .i64 s.b.id))).set ((((((0 + ((Int.toNat (b.length : Int)) * 7)) + 1) + 1) + 1) + 1) + 1) (F.lst s.args.length (refsF s.args))).set (((((((0 + ((Int.toNat (b.length : Int)) * 7)) + 1) + 1) + 1) + 1) + 1) + 1) (F.lst s.body.length (stmtsF s.body)) = stmtsF (b ++ [s]) := by
  rw [bAll, set7 _ _ (by rw [flat_len MStmt.F_len b, Int.toNat_natCast]), bSnoc]
theorem bRoom (b : List MStmt) (z0 z1 z2 z3 z4 z5 z6 : F) : (0 + ((Int.toNat (b.length : Int)) * 7)) + 7 ≤ (((stmtsF b).drop 0).take (b.length * 7) ++ ([z0, z1, z2, z3, z4, z5, z6])).length := by
  rw [bAll, List.length_append, flat_len MStmt.F_len b, Int.toNat_natCast]; simp
/-- what a function's row must be -/
def okR (f : MFun) : Prop := 0 < f.locals.length ∧ f.locals.length ≤ 1000 ∧ 0 < f.sites.length ∧ f.sites.length ≤ 1000 ∧ 0 ≤ f.params ∧ f.params ≤ 1000
theorem end_le {a b : Nat} (h : a ≤ b) : ¬ (decide (((b : Nat) : Int) < ((a : Nat) : Int)) = true) := by simp; omega
section
variable {m : Mod} {acts : List MAct} {g f e : Int} {S G E : Nat} {cS cG cE : List F}
theorem stc1 (hg : m.globals.length ≤ 1000) {f0 : MFun} (hps : m.funcs.map (·.params) = [f0.params]) (h0 : okR f0) (q : MFun) (hq : okR q) : StC m.globals.length q.locals.length q.sites.length [f0.params] ([F.s (.int .i64 f0.name), F.s (.int .i64 f0.params), F.lst f0.locals.length (kF .i64 f0.locals), F.lst f0.sites.length (kF .i64 f0.sites), F.lst 0 ([])]) := by
  obtain ⟨q1, q2, q3, q4, q5, q6⟩ := hq
  refine ⟨hg, q2, q1, q4, q3, by simp, by simp, fun j hj K => ?_, fun j hj => ?_⟩
  · have : j = 0 := by simp at hj; omega
    rcases this with rfl
    · simp
  · have : j = 0 := by simp at hj; omega
    rcases this with rfl
    · exact ⟨h0.2.2.2.2.1, h0.2.2.2.2.2⟩
theorem step1_0_a (hg : m.globals.length ≤ 1000) {f0 : MFun} (hps : m.funcs.map (·.params) = [f0.params]) (h0 : okR f0) {x : MAct} (hx : x.ok) {rest : List MAct} {i : Nat} (hd : acts.drop i = x :: rest) (hi : i < 1000) (hb : f0.body.length ≤ 1000) :
    mMake_12 1 i 0 g f e acts.length (actsF acts) S cS m.globals.length cG E cE f0.name f0.params f0.locals.length (kF .i64 f0.locals) f0.sites.length (kF .i64 f0.sites) f0.body.length (stmtsF f0.body) = mMake_8 1 ((i + 1 : Nat) : Int) g f e acts.length (actsF acts) S cS m.globals.length cG E cE f0.name f0.params f0.locals.length (kF .i64 f0.locals) f0.sites.length (kF .i64 f0.sites) (f0.body ++ [putM m f0 x]).length (stmtsF (f0.body ++ [putM m f0 x])) := by
  have hc := stc1 hg hps h0 f0 h0
  have hs := mstatement_core (m1 := S) (c2 := cS) (c4 := cG) (m7 := E) (c8 := cE) (n9 := f0.name) (n10 := f0.params) (c12 := kF .i64 f0.locals) (c14 := kF .i64 f0.sites) hc x hx
  rw [show ([f0.params] : List Int).length = 1 from rfl] at hs
  have hput : stmtM m.globals.length f0.locals.length f0.sites.length [f0.params] x = putM m f0 x := by unfold putM; rw [hps]
  rw [hput] at hs
  rw [mMake_12_eq_0, act_cells hd, mstatement_vvv_c4c4c4c5z, hs, stmt_go _ _ 5 rfl, if_pos ⟨rfl, by omega⟩, if_pos (bLe f0.body), bPush, if_pos (bLe1 _ _), bAll1, show ((i : Nat) : Int) + 1 = ((i + 1 : Nat) : Int) by omega, wN (by omega), List.length_append, List.length_singleton]
theorem step1_0_b (hg : m.globals.length ≤ 1000) {f0 : MFun} (hps : m.funcs.map (·.params) = [f0.params]) (h0 : okR f0) {x : MAct} (hx : x.ok) {rest : List MAct} {i : Nat} (hd : acts.drop i = x :: rest) (hi : i < 1000) (hb : f0.body.length ≤ 1000) :
    mMake_13 1 i 0 g f e acts.length (actsF acts) S cS m.globals.length cG E cE f0.name f0.params f0.locals.length (kF .i64 f0.locals) f0.sites.length (kF .i64 f0.sites) f0.body.length (stmtsF f0.body) = mMake_8 1 ((i + 1 : Nat) : Int) g f e acts.length (actsF acts) S cS m.globals.length cG E cE f0.name f0.params f0.locals.length (kF .i64 f0.locals) f0.sites.length (kF .i64 f0.sites) (f0.body ++ [putM m f0 x]).length (stmtsF (f0.body ++ [putM m f0 x])) := by
  have hc := stc1 hg hps h0 f0 h0
  have hs := mstatement_core (m1 := S) (c2 := cS) (c4 := cG) (m7 := E) (c8 := cE) (n9 := f0.name) (n10 := f0.params) (c12 := kF .i64 f0.locals) (c14 := kF .i64 f0.sites) hc x hx
  rw [show ([f0.params] : List Int).length = 1 from rfl] at hs
  have hput : stmtM m.globals.length f0.locals.length f0.sites.length [f0.params] x = putM m f0 x := by unfold putM; rw [hps]
  rw [hput] at hs
  rw [mMake_13_eq_0, act_cells hd, mstatement_vvv_c4c4c4c5z, hs, stmt_go _ _ 5 rfl, if_pos ⟨rfl, by omega⟩, if_pos (bLe f0.body), if_pos ⟨rfl, by omega, by omega⟩, if_pos (bRoom _ _ _ _ _ _ _ _), bSet, if_pos (bLe1 _ _), bAll1, show ((i : Nat) : Int) + 1 = ((i + 1 : Nat) : Int) by omega, wN (by omega), List.length_append, List.length_singleton]
theorem last1 (hg : m.globals.length ≤ 1000) (hm : m.funcs.length = 1) (hacts : acts.length ≤ 60) (hok : ∀ x ∈ acts, x.ok) : ∀ (rest : List MAct) (i : Nat) (f0 : MFun), acts.drop i = rest → i ≤ acts.length → m.funcs.map (·.params) = [f0.params] → okR f0 → f0.body.length + rest.length ≤ 1000 →
    mMake_8 1 i g f e acts.length (actsF acts) S cS m.globals.length cG E cE f0.name f0.params f0.locals.length (kF .i64 f0.locals) f0.sites.length (kF .i64 f0.sites) f0.body.length (stmtsF f0.body) = mMake_24 S cS m.globals.length cG 1 (funsF (bodyM m acts.length i rest [f0])) E cE
  | [], i, f0, hd, hi, hps, h0, b0 => by
    have := done_of_drop hd
    rw [mMake_8_eq, if_neg (end_le this), if_pos (bLe f0.body), bAll f0.body, mMake_14_eq]
    rfl
  | x :: rest, i, f0, hd, hi, hps, h0, b0 => by
    have hlt := lt_of_drop hd
    have hx := hok x (List.mem_of_mem_drop (by rw [hd]; simp : x ∈ acts.drop i))
    have hj : i * 1 / acts.length < 1 := by rw [Nat.div_lt_iff_lt_mul (by omega)]; omega
    have hw : ∀ a : Nat, a = acts.length → IntKind.wrap .i64 (Int.tdiv (IntKind.wrap .i64 (((i : Nat) : Int) * 1)) ((a : Nat) : Int)) = ((i * 1 / acts.length : Nat) : Int) := fun a ha => by
      rw [show ((i : Nat) : Int) * 1 = ((i * 1 : Nat) : Int) by omega, wN (by omega), tdivN, ha, wN (by omega)]
    simp only [List.length_cons] at b0
    have hbody : ∀ j, j = i * 1 / acts.length → bodyM m acts.length i (x :: rest) [f0] = bodyM m acts.length (i + 1) rest ([f0].modify j fun f => { f with body := f.body ++ [putM m f x] }) := fun j hj => by rw [bodyM, hm, hj]
    have key : ∀ (j : Nat), j = i * 1 / acts.length → both (mMake_12 1 i ((j : Nat) : Int) g f e acts.length (actsF acts) S cS m.globals.length cG E cE f0.name f0.params f0.locals.length (kF .i64 f0.locals) f0.sites.length (kF .i64 f0.sites) f0.body.length (stmtsF f0.body)) (mMake_13 1 i ((j : Nat) : Int) g f e acts.length (actsF acts) S cS m.globals.length cG E cE f0.name f0.params f0.locals.length (kF .i64 f0.locals) f0.sites.length (kF .i64 f0.sites) f0.body.length (stmtsF f0.body)) = mMake_24 S cS m.globals.length cG 1 (funsF (bodyM m acts.length i (x :: rest) [f0])) E cE := by
      intro j hj'
      rw [hbody j hj']
      have hcase : j = 0 := by omega
      rcases hcase with rfl
      · refine (congr (congrArg both (step1_0_a (g := g) (f := f) (e := e) (S := S) (cS := cS) (cG := cG) (E := E) (cE := cE) hg hps h0 hx hd (by omega) (by omega))) (step1_0_b (g := g) (f := f) (e := e) (S := S) (cS := cS) (cG := cG) (E := E) (cE := cE) hg hps h0 hx hd (by omega) (by omega))).trans ?_
        rw [both_self]
        exact last1 hg hm hacts hok rest (i + 1) { f0 with body := f0.body ++ [putM m f0 x] } (drop_next hd) (by omega) hps h0 (by simp; omega)
    rw [mMake_8_eq, if_pos (decide_eq_true (by omega)), if_pos (decide_eq_true (by omega))]
    by_cases h60 : acts.length < 60
    · rw [if_pos (decide_eq_true (by omega)), if_neg (by omega), if_pos (bLe f0.body), if_pos (bLe f0.body), bAll f0.body, hw _ rfl]
      exact key _ rfl
    · rw [if_neg (by simp; omega), if_pos (bLe f0.body), if_pos (bLe f0.body), bAll f0.body, show (60 : Int) = ((60 : Nat) : Int) from rfl, hw 60 (by omega)]
      exact key _ rfl
theorem stc2 (hg : m.globals.length ≤ 1000) {f0 f1 : MFun} (hps : m.funcs.map (·.params) = [f0.params, f1.params]) (h0 : okR f0) (h1 : okR f1) (q : MFun) (hq : okR q) : StC m.globals.length q.locals.length q.sites.length [f0.params, f1.params] ([F.s (.int .i64 f0.name), F.s (.int .i64 f0.params), F.lst f0.locals.length (kF .i64 f0.locals), F.lst f0.sites.length (kF .i64 f0.sites), F.lst 0 ([]), F.s (.int .i64 f1.name), F.s (.int .i64 f1.params), F.lst f1.locals.length (kF .i64 f1.locals), F.lst f1.sites.length (kF .i64 f1.sites), F.lst 0 ([])]) := by
  obtain ⟨q1, q2, q3, q4, q5, q6⟩ := hq
  refine ⟨hg, q2, q1, q4, q3, by simp, by simp, fun j hj K => ?_, fun j hj => ?_⟩
  · have : j = 0 ∨ j = 1 := by simp at hj; omega
    rcases this with rfl | rfl
    · simp
    · simp
  · have : j = 0 ∨ j = 1 := by simp at hj; omega
    rcases this with rfl | rfl
    · exact ⟨h0.2.2.2.2.1, h0.2.2.2.2.2⟩
    · exact ⟨h1.2.2.2.2.1, h1.2.2.2.2.2⟩
theorem step2_0_a (hg : m.globals.length ≤ 1000) {f0 f1 : MFun} (hps : m.funcs.map (·.params) = [f0.params, f1.params]) (h0 : okR f0) (h1 : okR f1) {x : MAct} (hx : x.ok) {rest : List MAct} {i : Nat} (hd : acts.drop i = x :: rest) (hi : i < 1000) (hb : f0.body.length ≤ 1000) :
    mMake_15 2 i 0 g f e acts.length (actsF acts) S cS m.globals.length cG E cE f0.name f0.params f0.locals.length (kF .i64 f0.locals) f0.sites.length (kF .i64 f0.sites) f0.body.length f1.name f1.params f1.locals.length (kF .i64 f1.locals) f1.sites.length (kF .i64 f1.sites) f1.body.length (stmtsF f0.body) (stmtsF f1.body) = mMake_9 2 ((i + 1 : Nat) : Int) g f e acts.length (actsF acts) S cS m.globals.length cG E cE f0.name f0.params f0.locals.length (kF .i64 f0.locals) f0.sites.length (kF .i64 f0.sites) (f0.body ++ [putM m f0 x]).length f1.name f1.params f1.locals.length (kF .i64 f1.locals) f1.sites.length (kF .i64 f1.sites) f1.body.length (stmtsF (f0.body ++ [putM m f0 x])) (stmtsF f1.body) := by
  have hc := stc2 hg hps h0 h1 f0 h0
  have hs := mstatement_core (m1 := S) (c2 := cS) (c4 := cG) (m7 := E) (c8 := cE) (n9 := f0.name) (n10 := f0.params) (c12 := kF .i64 f0.locals) (c14 := kF .i64 f0.sites) hc x hx
  rw [show ([f0.params, f1.params] : List Int).length = 2 from rfl] at hs
  have hput : stmtM m.globals.length f0.locals.length f0.sites.length [f0.params, f1.params] x = putM m f0 x := by unfold putM; rw [hps]
  rw [hput] at hs
  rw [mMake_15_eq_0, act_cells hd, mstatement_vvv_c4c4c4c10zz, hs, stmt_go _ _ 6 rfl, if_pos ⟨rfl, by omega⟩, if_pos (bLe f0.body), bPush, if_pos (bLe1 _ _), if_pos (bLe f1.body), bAll f1.body, bAll1, show ((i : Nat) : Int) + 1 = ((i + 1 : Nat) : Int) by omega, wN (by omega), List.length_append, List.length_singleton]
theorem step2_0_b (hg : m.globals.length ≤ 1000) {f0 f1 : MFun} (hps : m.funcs.map (·.params) = [f0.params, f1.params]) (h0 : okR f0) (h1 : okR f1) {x : MAct} (hx : x.ok) {rest : List MAct} {i : Nat} (hd : acts.drop i = x :: rest) (hi : i < 1000) (hb : f0.body.length ≤ 1000) :
    mMake_16 2 i 0 g f e acts.length (actsF acts) S cS m.globals.length cG E cE f0.name f0.params f0.locals.length (kF .i64 f0.locals) f0.sites.length (kF .i64 f0.sites) f0.body.length f1.name f1.params f1.locals.length (kF .i64 f1.locals) f1.sites.length (kF .i64 f1.sites) f1.body.length (stmtsF f0.body) (stmtsF f1.body) = mMake_9 2 ((i + 1 : Nat) : Int) g f e acts.length (actsF acts) S cS m.globals.length cG E cE f0.name f0.params f0.locals.length (kF .i64 f0.locals) f0.sites.length (kF .i64 f0.sites) (f0.body ++ [putM m f0 x]).length f1.name f1.params f1.locals.length (kF .i64 f1.locals) f1.sites.length (kF .i64 f1.sites) f1.body.length (stmtsF (f0.body ++ [putM m f0 x])) (stmtsF f1.body) := by
  have hc := stc2 hg hps h0 h1 f0 h0
  have hs := mstatement_core (m1 := S) (c2 := cS) (c4 := cG) (m7 := E) (c8 := cE) (n9 := f0.name) (n10 := f0.params) (c12 := kF .i64 f0.locals) (c14 := kF .i64 f0.sites) hc x hx
  rw [show ([f0.params, f1.params] : List Int).length = 2 from rfl] at hs
  have hput : stmtM m.globals.length f0.locals.length f0.sites.length [f0.params, f1.params] x = putM m f0 x := by unfold putM; rw [hps]
  rw [hput] at hs
  rw [mMake_16_eq_0, act_cells hd, mstatement_vvv_c4c4c4c10zz, hs, stmt_go _ _ 6 rfl, if_pos ⟨rfl, by omega⟩, if_pos (bLe f0.body), if_pos ⟨rfl, by omega, by omega⟩, if_pos (bRoom _ _ _ _ _ _ _ _), bSet, if_pos (bLe1 _ _), if_pos (bLe f1.body), bAll f1.body, bAll1, show ((i : Nat) : Int) + 1 = ((i + 1 : Nat) : Int) by omega, wN (by omega), List.length_append, List.length_singleton]
theorem step2_1_a (hg : m.globals.length ≤ 1000) {f0 f1 : MFun} (hps : m.funcs.map (·.params) = [f0.params, f1.params]) (h0 : okR f0) (h1 : okR f1) {x : MAct} (hx : x.ok) {rest : List MAct} {i : Nat} (hd : acts.drop i = x :: rest) (hi : i < 1000) (hb : f1.body.length ≤ 1000) :
    mMake_15 2 i 1 g f e acts.length (actsF acts) S cS m.globals.length cG E cE f0.name f0.params f0.locals.length (kF .i64 f0.locals) f0.sites.length (kF .i64 f0.sites) f0.body.length f1.name f1.params f1.locals.length (kF .i64 f1.locals) f1.sites.length (kF .i64 f1.sites) f1.body.length (stmtsF f0.body) (stmtsF f1.body) = mMake_9 2 ((i + 1 : Nat) : Int) g f e acts.length (actsF acts) S cS m.globals.length cG E cE f0.name f0.params f0.locals.length (kF .i64 f0.locals) f0.sites.length (kF .i64 f0.sites) f0.body.length f1.name f1.params f1.locals.length (kF .i64 f1.locals) f1.sites.length (kF .i64 f1.sites) (f1.body ++ [putM m f1 x]).length (stmtsF f0.body) (stmtsF (f1.body ++ [putM m f1 x])) := by
  have hc := stc2 hg hps h0 h1 f1 h1
  have hs := mstatement_core (m1 := S) (c2 := cS) (c4 := cG) (m7 := E) (c8 := cE) (n9 := f1.name) (n10 := f1.params) (c12 := kF .i64 f1.locals) (c14 := kF .i64 f1.sites) hc x hx
  rw [show ([f0.params, f1.params] : List Int).length = 2 from rfl] at hs
  have hput : stmtM m.globals.length f1.locals.length f1.sites.length [f0.params, f1.params] x = putM m f1 x := by unfold putM; rw [hps]
  rw [hput] at hs
  rw [mMake_15_eq_1, act_cells hd, mstatement_vvv_c4c4c4c10zz_2, hs, stmt_go _ _ 6 rfl, if_pos ⟨rfl, by omega⟩, if_pos (bLe f1.body), if_pos (bLe f0.body), bPush, if_pos (bLe1 _ _), bAll f0.body, bAll1, show ((i : Nat) : Int) + 1 = ((i + 1 : Nat) : Int) by omega, wN (by omega), List.length_append, List.length_singleton]
theorem step2_1_b (hg : m.globals.length ≤ 1000) {f0 f1 : MFun} (hps : m.funcs.map (·.params) = [f0.params, f1.params]) (h0 : okR f0) (h1 : okR f1) {x : MAct} (hx : x.ok) {rest : List MAct} {i : Nat} (hd : acts.drop i = x :: rest) (hi : i < 1000) (hb : f1.body.length ≤ 1000) :
    mMake_16 2 i 1 g f e acts.length (actsF acts) S cS m.globals.length cG E cE f0.name f0.params f0.locals.length (kF .i64 f0.locals) f0.sites.length (kF .i64 f0.sites) f0.body.length f1.name f1.params f1.locals.length (kF .i64 f1.locals) f1.sites.length (kF .i64 f1.sites) f1.body.length (stmtsF f0.body) (stmtsF f1.body) = mMake_9 2 ((i + 1 : Nat) : Int) g f e acts.length (actsF acts) S cS m.globals.length cG E cE f0.name f0.params f0.locals.length (kF .i64 f0.locals) f0.sites.length (kF .i64 f0.sites) f0.body.length f1.name f1.params f1.locals.length (kF .i64 f1.locals) f1.sites.length (kF .i64 f1.sites) (f1.body ++ [putM m f1 x]).length (stmtsF f0.body) (stmtsF (f1.body ++ [putM m f1 x])) := by
  have hc := stc2 hg hps h0 h1 f1 h1
  have hs := mstatement_core (m1 := S) (c2 := cS) (c4 := cG) (m7 := E) (c8 := cE) (n9 := f1.name) (n10 := f1.params) (c12 := kF .i64 f1.locals) (c14 := kF .i64 f1.sites) hc x hx
  rw [show ([f0.params, f1.params] : List Int).length = 2 from rfl] at hs
  have hput : stmtM m.globals.length f1.locals.length f1.sites.length [f0.params, f1.params] x = putM m f1 x := by unfold putM; rw [hps]
  rw [hput] at hs
  rw [mMake_16_eq_1, act_cells hd, mstatement_vvv_c4c4c4c10zz_2, hs, stmt_go _ _ 6 rfl, if_pos ⟨rfl, by omega⟩, if_pos (bLe f1.body), if_pos ⟨rfl, by omega, by omega⟩, if_pos (bRoom _ _ _ _ _ _ _ _), if_pos (bLe f0.body), bSet, if_pos (bLe1 _ _), bAll f0.body, bAll1, show ((i : Nat) : Int) + 1 = ((i + 1 : Nat) : Int) by omega, wN (by omega), List.length_append, List.length_singleton]
theorem last2 (hg : m.globals.length ≤ 1000) (hm : m.funcs.length = 2) (hacts : acts.length ≤ 60) (hok : ∀ x ∈ acts, x.ok) : ∀ (rest : List MAct) (i : Nat) (f0 f1 : MFun), acts.drop i = rest → i ≤ acts.length → m.funcs.map (·.params) = [f0.params, f1.params] → okR f0 → okR f1 → f0.body.length + rest.length ≤ 1000 → f1.body.length + rest.length ≤ 1000 →
    mMake_9 2 i g f e acts.length (actsF acts) S cS m.globals.length cG E cE f0.name f0.params f0.locals.length (kF .i64 f0.locals) f0.sites.length (kF .i64 f0.sites) f0.body.length f1.name f1.params f1.locals.length (kF .i64 f1.locals) f1.sites.length (kF .i64 f1.sites) f1.body.length (stmtsF f0.body) (stmtsF f1.body) = mMake_24 S cS m.globals.length cG 2 (funsF (bodyM m acts.length i rest [f0, f1])) E cE
  | [], i, f0, f1, hd, hi, hps, h0, h1, b0, b1 => by
    have := done_of_drop hd
    rw [mMake_9_eq, if_neg (end_le this), if_pos (bLe f0.body), if_pos (bLe f1.body), bAll f0.body, bAll f1.body, mMake_17_eq]
    rfl
  | x :: rest, i, f0, f1, hd, hi, hps, h0, h1, b0, b1 => by
    have hlt := lt_of_drop hd
    have hx := hok x (List.mem_of_mem_drop (by rw [hd]; simp : x ∈ acts.drop i))
    have hj : i * 2 / acts.length < 2 := by rw [Nat.div_lt_iff_lt_mul (by omega)]; omega
    have hw : ∀ a : Nat, a = acts.length → IntKind.wrap .i64 (Int.tdiv (IntKind.wrap .i64 (((i : Nat) : Int) * 2)) ((a : Nat) : Int)) = ((i * 2 / acts.length : Nat) : Int) := fun a ha => by
      rw [show ((i : Nat) : Int) * 2 = ((i * 2 : Nat) : Int) by omega, wN (by omega), tdivN, ha, wN (by omega)]
    simp only [List.length_cons] at b0 b1
    have hbody : ∀ j, j = i * 2 / acts.length → bodyM m acts.length i (x :: rest) [f0, f1] = bodyM m acts.length (i + 1) rest ([f0, f1].modify j fun f => { f with body := f.body ++ [putM m f x] }) := fun j hj => by rw [bodyM, hm, hj]
    have key : ∀ (j : Nat), j = i * 2 / acts.length → both (mMake_15 2 i ((j : Nat) : Int) g f e acts.length (actsF acts) S cS m.globals.length cG E cE f0.name f0.params f0.locals.length (kF .i64 f0.locals) f0.sites.length (kF .i64 f0.sites) f0.body.length f1.name f1.params f1.locals.length (kF .i64 f1.locals) f1.sites.length (kF .i64 f1.sites) f1.body.length (stmtsF f0.body) (stmtsF f1.body)) (mMake_16 2 i ((j : Nat) : Int) g f e acts.length (actsF acts) S cS m.globals.length cG E cE f0.name f0.params f0.locals.length (kF .i64 f0.locals) f0.sites.length (kF .i64 f0.sites) f0.body.length f1.name f1.params f1.locals.length (kF .i64 f1.locals) f1.sites.length (kF .i64 f1.sites) f1.body.length (stmtsF f0.body) (stmtsF f1.body)) = mMake_24 S cS m.globals.length cG 2 (funsF (bodyM m acts.length i (x :: rest) [f0, f1])) E cE := by
      intro j hj'
      rw [hbody j hj']
      have hcase : j = 0 ∨ j = 1 := by omega
      rcases hcase with rfl | rfl
      · refine (congr (congrArg both (step2_0_a (g := g) (f := f) (e := e) (S := S) (cS := cS) (cG := cG) (E := E) (cE := cE) hg hps h0 h1 hx hd (by omega) (by omega))) (step2_0_b (g := g) (f := f) (e := e) (S := S) (cS := cS) (cG := cG) (E := E) (cE := cE) hg hps h0 h1 hx hd (by omega) (by omega))).trans ?_
        rw [both_self]
        exact last2 hg hm hacts hok rest (i + 1) { f0 with body := f0.body ++ [putM m f0 x] } f1 (drop_next hd) (by omega) hps h0 h1 (by simp; omega) (by omega)
      · refine (congr (congrArg both (step2_1_a (g := g) (f := f) (e := e) (S := S) (cS := cS) (cG := cG) (E := E) (cE := cE) hg hps h0 h1 hx hd (by omega) (by omega))) (step2_1_b (g := g) (f := f) (e := e) (S := S) (cS := cS) (cG := cG) (E := E) (cE := cE) hg hps h0 h1 hx hd (by omega) (by omega))).trans ?_
        rw [both_self]
        exact last2 hg hm hacts hok rest (i + 1) f0 { f1 with body := f1.body ++ [putM m f1 x] } (drop_next hd) (by omega) hps h0 h1 (by omega) (by simp; omega)
    rw [mMake_9_eq, if_pos (decide_eq_true (by omega)), if_pos (decide_eq_true (by omega))]
    by_cases h60 : acts.length < 60
    · rw [if_pos (decide_eq_true (by omega)), if_neg (by omega), if_pos (bLe f0.body), if_pos (bLe f1.body), if_pos (bLe f0.body), if_pos (bLe f1.body), bAll f0.body, bAll f1.body, hw _ rfl]
      exact key _ rfl
    · rw [if_neg (by simp; omega), if_pos (bLe f0.body), if_pos (bLe f1.body), if_pos (bLe f0.body), if_pos (bLe f1.body), bAll f0.body, bAll f1.body, show (60 : Int) = ((60 : Nat) : Int) from rfl, hw 60 (by omega)]
      exact key _ rfl
theorem stc3 (hg : m.globals.length ≤ 1000) {f0 f1 f2 : MFun} (hps : m.funcs.map (·.params) = [f0.params, f1.params, f2.params]) (h0 : okR f0) (h1 : okR f1) (h2 : okR f2) (q : MFun) (hq : okR q) : StC m.globals.length q.locals.length q.sites.length [f0.params, f1.params, f2.params] ([F.s (.int .i64 f0.name), F.s (.int .i64 f0.params), F.lst f0.locals.length (kF .i64 f0.locals), F.lst f0.sites.length (kF .i64 f0.sites), F.lst 0 ([]), F.s (.int .i64 f1.name), F.s (.int .i64 f1.params), F.lst f1.locals.length (kF .i64 f1.locals), F.lst f1.sites.length (kF .i64 f1.sites), F.lst 0 ([]), F.s (.int .i64 f2.name), F.s (.int .i64 f2.params), F.lst f2.locals.length (kF .i64 f2.locals), F.lst f2.sites.length (kF .i64 f2.sites), F.lst 0 ([])]) := by
  obtain ⟨q1, q2, q3, q4, q5, q6⟩ := hq
  refine ⟨hg, q2, q1, q4, q3, by simp, by simp, fun j hj K => ?_, fun j hj => ?_⟩
  · have : j = 0 ∨ j = 1 ∨ j = 2 := by simp at hj; omega
    rcases this with rfl | rfl | rfl
    · simp
    · simp
    · simp
  · have : j = 0 ∨ j = 1 ∨ j = 2 := by simp at hj; omega
    rcases this with rfl | rfl | rfl
    · exact ⟨h0.2.2.2.2.1, h0.2.2.2.2.2⟩
    · exact ⟨h1.2.2.2.2.1, h1.2.2.2.2.2⟩
    · exact ⟨h2.2.2.2.2.1, h2.2.2.2.2.2⟩
theorem step3_0_a (hg : m.globals.length ≤ 1000) {f0 f1 f2 : MFun} (hps : m.funcs.map (·.params) = [f0.params, f1.params, f2.params]) (h0 : okR f0) (h1 : okR f1) (h2 : okR f2) {x : MAct} (hx : x.ok) {rest : List MAct} {i : Nat} (hd : acts.drop i = x :: rest) (hi : i < 1000) (hb : f0.body.length ≤ 1000) :
    mMake_18 3 i 0 g f e acts.length (actsF acts) S cS m.globals.length cG E cE f0.name f0.params f0.locals.length (kF .i64 f0.locals) f0.sites.length (kF .i64 f0.sites) f0.body.length f1.name f1.params f1.locals.length (kF .i64 f1.locals) f1.sites.length (kF .i64 f1.sites) f1.body.length f2.name f2.params f2.locals.length (kF .i64 f2.locals) f2.sites.length (kF .i64 f2.sites) f2.body.length (stmtsF f0.body) (stmtsF f1.body) (stmtsF f2.body) = mMake_10 3 ((i + 1 : Nat) : Int) g f e acts.length (actsF acts) S cS m.globals.length cG E cE f0.name f0.params f0.locals.length (kF .i64 f0.locals) f0.sites.length (kF .i64 f0.sites) (f0.body ++ [putM m f0 x]).length f1.name f1.params f1.locals.length (kF .i64 f1.locals) f1.sites.length (kF .i64 f1.sites) f1.body.length f2.name f2.params f2.locals.length (kF .i64 f2.locals) f2.sites.length (kF .i64 f2.sites) f2.body.length (stmtsF (f0.body ++ [putM m f0 x])) (stmtsF f1.body) (stmtsF f2.body) := by
  have hc := stc3 hg hps h0 h1 h2 f0 h0
  have hs := mstatement_core (m1 := S) (c2 := cS) (c4 := cG) (m7 := E) (c8 := cE) (n9 := f0.name) (n10 := f0.params) (c12 := kF .i64 f0.locals) (c14 := kF .i64 f0.sites) hc x hx
  rw [show ([f0.params, f1.params, f2.params] : List Int).length = 3 from rfl] at hs
  have hput : stmtM m.globals.length f0.locals.length f0.sites.length [f0.params, f1.params, f2.params] x = putM m f0 x := by unfold putM; rw [hps]
  rw [hput] at hs
  rw [mMake_18_eq_0, act_cells hd, mstatement_vvv_c4c4c4c15zzz, hs, stmt_go _ _ 7 rfl, if_pos ⟨rfl, by omega⟩, if_pos (bLe f0.body), bPush, if_pos (bLe1 _ _), if_pos (bLe f1.body), if_pos (bLe f2.body), bAll f1.body, bAll f2.body, bAll1, show ((i : Nat) : Int) + 1 = ((i + 1 : Nat) : Int) by omega, wN (by omega), List.length_append, List.length_singleton]
theorem step3_0_b (hg : m.globals.length ≤ 1000) {f0 f1 f2 : MFun} (hps : m.funcs.map (·.params) = [f0.params, f1.params, f2.params]) (h0 : okR f0) (h1 : okR f1) (h2 : okR f2) {x : MAct} (hx : x.ok) {rest : List MAct} {i : Nat} (hd : acts.drop i = x :: rest) (hi : i < 1000) (hb : f0.body.length ≤ 1000) :
    mMake_19 3 i 0 g f e acts.length (actsF acts) S cS m.globals.length cG E cE f0.name f0.params f0.locals.length (kF .i64 f0.locals) f0.sites.length (kF .i64 f0.sites) f0.body.length f1.name f1.params f1.locals.length (kF .i64 f1.locals) f1.sites.length (kF .i64 f1.sites) f1.body.length f2.name f2.params f2.locals.length (kF .i64 f2.locals) f2.sites.length (kF .i64 f2.sites) f2.body.length (stmtsF f0.body) (stmtsF f1.body) (stmtsF f2.body) = mMake_10 3 ((i + 1 : Nat) : Int) g f e acts.length (actsF acts) S cS m.globals.length cG E cE f0.name f0.params f0.locals.length (kF .i64 f0.locals) f0.sites.length (kF .i64 f0.sites) (f0.body ++ [putM m f0 x]).length f1.name f1.params f1.locals.length (kF .i64 f1.locals) f1.sites.length (kF .i64 f1.sites) f1.body.length f2.name f2.params f2.locals.length (kF .i64 f2.locals) f2.sites.length (kF .i64 f2.sites) f2.body.length (stmtsF (f0.body ++ [putM m f0 x])) (stmtsF f1.body) (stmtsF f2.body) := by
  have hc := stc3 hg hps h0 h1 h2 f0 h0
  have hs := mstatement_core (m1 := S) (c2 := cS) (c4 := cG) (m7 := E) (c8 := cE) (n9 := f0.name) (n10 := f0.params) (c12 := kF .i64 f0.locals) (c14 := kF .i64 f0.sites) hc x hx
  rw [show ([f0.params, f1.params, f2.params] : List Int).length = 3 from rfl] at hs
  have hput : stmtM m.globals.length f0.locals.length f0.sites.length [f0.params, f1.params, f2.params] x = putM m f0 x := by unfold putM; rw [hps]
  rw [hput] at hs
  rw [mMake_19_eq_0, act_cells hd, mstatement_vvv_c4c4c4c15zzz, hs, stmt_go _ _ 7 rfl, if_pos ⟨rfl, by omega⟩, if_pos (bLe f0.body), if_pos ⟨rfl, by omega, by omega⟩, if_pos (bRoom _ _ _ _ _ _ _ _), bSet, if_pos (bLe1 _ _), if_pos (bLe f1.body), if_pos (bLe f2.body), bAll f1.body, bAll f2.body, bAll1, show ((i : Nat) : Int) + 1 = ((i + 1 : Nat) : Int) by omega, wN (by omega), List.length_append, List.length_singleton]
theorem step3_1_a (hg : m.globals.length ≤ 1000) {f0 f1 f2 : MFun} (hps : m.funcs.map (·.params) = [f0.params, f1.params, f2.params]) (h0 : okR f0) (h1 : okR f1) (h2 : okR f2) {x : MAct} (hx : x.ok) {rest : List MAct} {i : Nat} (hd : acts.drop i = x :: rest) (hi : i < 1000) (hb : f1.body.length ≤ 1000) :
    mMake_18 3 i 1 g f e acts.length (actsF acts) S cS m.globals.length cG E cE f0.name f0.params f0.locals.length (kF .i64 f0.locals) f0.sites.length (kF .i64 f0.sites) f0.body.length f1.name f1.params f1.locals.length (kF .i64 f1.locals) f1.sites.length (kF .i64 f1.sites) f1.body.length f2.name f2.params f2.locals.length (kF .i64 f2.locals) f2.sites.length (kF .i64 f2.sites) f2.body.length (stmtsF f0.body) (stmtsF f1.body) (stmtsF f2.body) = mMake_10 3 ((i + 1 : Nat) : Int) g f e acts.length (actsF acts) S cS m.globals.length cG E cE f0.name f0.params f0.locals.length (kF .i64 f0.locals) f0.sites.length (kF .i64 f0.sites) f0.body.length f1.name f1.params f1.locals.length (kF .i64 f1.locals) f1.sites.length (kF .i64 f1.sites) (f1.body ++ [putM m f1 x]).length f2.name f2.params f2.locals.length (kF .i64 f2.locals) f2.sites.length (kF .i64 f2.sites) f2.body.length (stmtsF f0.body) (stmtsF (f1.body ++ [putM m f1 x])) (stmtsF f2.body) := by
  have hc := stc3 hg hps h0 h1 h2 f1 h1
  have hs := mstatement_core (m1 := S) (c2 := cS) (c4 := cG) (m7 := E) (c8 := cE) (n9 := f1.name) (n10 := f1.params) (c12 := kF .i64 f1.locals) (c14 := kF .i64 f1.sites) hc x hx
  rw [show ([f0.params, f1.params, f2.params] : List Int).length = 3 from rfl] at hs
  have hput : stmtM m.globals.length f1.locals.length f1.sites.length [f0.params, f1.params, f2.params] x = putM m f1 x := by unfold putM; rw [hps]
  rw [hput] at hs
  rw [mMake_18_eq_1, act_cells hd, mstatement_vvv_c4c4c4c15zzz_2, hs, stmt_go _ _ 7 rfl, if_pos ⟨rfl, by omega⟩, if_pos (bLe f1.body), if_pos (bLe f0.body), bPush, if_pos (bLe1 _ _), if_pos (bLe f2.body), bAll f0.body, bAll f2.body, bAll1, show ((i : Nat) : Int) + 1 = ((i + 1 : Nat) : Int) by omega, wN (by omega), List.length_append, List.length_singleton]
theorem step3_1_b (hg : m.globals.length ≤ 1000) {f0 f1 f2 : MFun} (hps : m.funcs.map (·.params) = [f0.params, f1.params, f2.params]) (h0 : okR f0) (h1 : okR f1) (h2 : okR f2) {x : MAct} (hx : x.ok) {rest : List MAct} {i : Nat} (hd : acts.drop i = x :: rest) (hi : i < 1000) (hb : f1.body.length ≤ 1000) :
    mMake_19 3 i 1 g f e acts.length (actsF acts) S cS m.globals.length cG E cE f0.name f0.params f0.locals.length (kF .i64 f0.locals) f0.sites.length (kF .i64 f0.sites) f0.body.length f1.name f1.params f1.locals.length (kF .i64 f1.locals) f1.sites.length (kF .i64 f1.sites) f1.body.length f2.name f2.params f2.locals.length (kF .i64 f2.locals) f2.sites.length (kF .i64 f2.sites) f2.body.length (stmtsF f0.body) (stmtsF f1.body) (stmtsF f2.body) = mMake_10 3 ((i + 1 : Nat) : Int) g f e acts.length (actsF acts) S cS m.globals.length cG E cE f0.name f0.params f0.locals.length (kF .i64 f0.locals) f0.sites.length (kF .i64 f0.sites) f0.body.length f1.name f1.params f1.locals.length (kF .i64 f1.locals) f1.sites.length (kF .i64 f1.sites) (f1.body ++ [putM m f1 x]).length f2.name f2.params f2.locals.length (kF .i64 f2.locals) f2.sites.length (kF .i64 f2.sites) f2.body.length (stmtsF f0.body) (stmtsF (f1.body ++ [putM m f1 x])) (stmtsF f2.body) := by
  have hc := stc3 hg hps h0 h1 h2 f1 h1
  have hs := mstatement_core (m1 := S) (c2 := cS) (c4 := cG) (m7 := E) (c8 := cE) (n9 := f1.name) (n10 := f1.params) (c12 := kF .i64 f1.locals) (c14 := kF .i64 f1.sites) hc x hx
  rw [show ([f0.params, f1.params, f2.params] : List Int).length = 3 from rfl] at hs
  have hput : stmtM m.globals.length f1.locals.length f1.sites.length [f0.params, f1.params, f2.params] x = putM m f1 x := by unfold putM; rw [hps]
  rw [hput] at hs
  rw [mMake_19_eq_1, act_cells hd, mstatement_vvv_c4c4c4c15zzz_2, hs, stmt_go _ _ 7 rfl, if_pos ⟨rfl, by omega⟩, if_pos (bLe f1.body), if_pos ⟨rfl, by omega, by omega⟩, if_pos (bRoom _ _ _ _ _ _ _ _), if_pos (bLe f0.body), bSet, if_pos (bLe1 _ _), if_pos (bLe f2.body), bAll f0.body, bAll f2.body, bAll1, show ((i : Nat) : Int) + 1 = ((i + 1 : Nat) : Int) by omega, wN (by omega), List.length_append, List.length_singleton]
theorem step3_2_a (hg : m.globals.length ≤ 1000) {f0 f1 f2 : MFun} (hps : m.funcs.map (·.params) = [f0.params, f1.params, f2.params]) (h0 : okR f0) (h1 : okR f1) (h2 : okR f2) {x : MAct} (hx : x.ok) {rest : List MAct} {i : Nat} (hd : acts.drop i = x :: rest) (hi : i < 1000) (hb : f2.body.length ≤ 1000) :
    mMake_18 3 i 2 g f e acts.length (actsF acts) S cS m.globals.length cG E cE f0.name f0.params f0.locals.length (kF .i64 f0.locals) f0.sites.length (kF .i64 f0.sites) f0.body.length f1.name f1.params f1.locals.length (kF .i64 f1.locals) f1.sites.length (kF .i64 f1.sites) f1.body.length f2.name f2.params f2.locals.length (kF .i64 f2.locals) f2.sites.length (kF .i64 f2.sites) f2.body.length (stmtsF f0.body) (stmtsF f1.body) (stmtsF f2.body) = mMake_10 3 ((i + 1 : Nat) : Int) g f e acts.length (actsF acts) S cS m.globals.length cG E cE f0.name f0.params f0.locals.length (kF .i64 f0.locals) f0.sites.length (kF .i64 f0.sites) f0.body.length f1.name f1.params f1.locals.length (kF .i64 f1.locals) f1.sites.length (kF .i64 f1.sites) f1.body.length f2.name f2.params f2.locals.length (kF .i64 f2.locals) f2.sites.length (kF .i64 f2.sites) (f2.body ++ [putM m f2 x]).length (stmtsF f0.body) (stmtsF f1.body) (stmtsF (f2.body ++ [putM m f2 x])) := by
  have hc := stc3 hg hps h0 h1 h2 f2 h2
  have hs := mstatement_core (m1 := S) (c2 := cS) (c4 := cG) (m7 := E) (c8 := cE) (n9 := f2.name) (n10 := f2.params) (c12 := kF .i64 f2.locals) (c14 := kF .i64 f2.sites) hc x hx
  rw [show ([f0.params, f1.params, f2.params] : List Int).length = 3 from rfl] at hs
  have hput : stmtM m.globals.length f2.locals.length f2.sites.length [f0.params, f1.params, f2.params] x = putM m f2 x := by unfold putM; rw [hps]
  rw [hput] at hs
  rw [mMake_18_eq_2, act_cells hd, mstatement_vvv_c4c4c4c15zzz_3, hs, stmt_go _ _ 7 rfl, if_pos ⟨rfl, by omega⟩, if_pos (bLe f2.body), if_pos (bLe f0.body), if_pos (bLe f1.body), bPush, if_pos (bLe1 _ _), bAll f0.body, bAll f1.body, bAll1, show ((i : Nat) : Int) + 1 = ((i + 1 : Nat) : Int) by omega, wN (by omega), List.length_append, List.length_singleton]
theorem step3_2_b (hg : m.globals.length ≤ 1000) {f0 f1 f2 : MFun} (hps : m.funcs.map (·.params) = [f0.params, f1.params, f2.params]) (h0 : okR f0) (h1 : okR f1) (h2 : okR f2) {x : MAct} (hx : x.ok) {rest : List MAct} {i : Nat} (hd : acts.drop i = x :: rest) (hi : i < 1000) (hb : f2.body.length ≤ 1000) :
    mMake_19 3 i 2 g f e acts.length (actsF acts) S cS m.globals.length cG E cE f0.name f0.params f0.locals.length (kF .i64 f0.locals) f0.sites.length (kF .i64 f0.sites) f0.body.length f1.name f1.params f1.locals.length (kF .i64 f1.locals) f1.sites.length (kF .i64 f1.sites) f1.body.length f2.name f2.params f2.locals.length (kF .i64 f2.locals) f2.sites.length (kF .i64 f2.sites) f2.body.length (stmtsF f0.body) (stmtsF f1.body) (stmtsF f2.body) = mMake_10 3 ((i + 1 : Nat) : Int) g f e acts.length (actsF acts) S cS m.globals.length cG E cE f0.name f0.params f0.locals.length (kF .i64 f0.locals) f0.sites.length (kF .i64 f0.sites) f0.body.length f1.name f1.params f1.locals.length (kF .i64 f1.locals) f1.sites.length (kF .i64 f1.sites) f1.body.length f2.name f2.params f2.locals.length (kF .i64 f2.locals) f2.sites.length (kF .i64 f2.sites) (f2.body ++ [putM m f2 x]).length (stmtsF f0.body) (stmtsF f1.body) (stmtsF (f2.body ++ [putM m f2 x])) := by
  have hc := stc3 hg hps h0 h1 h2 f2 h2
  have hs := mstatement_core (m1 := S) (c2 := cS) (c4 := cG) (m7 := E) (c8 := cE) (n9 := f2.name) (n10 := f2.params) (c12 := kF .i64 f2.locals) (c14 := kF .i64 f2.sites) hc x hx
  rw [show ([f0.params, f1.params, f2.params] : List Int).length = 3 from rfl] at hs
  have hput : stmtM m.globals.length f2.locals.length f2.sites.length [f0.params, f1.params, f2.params] x = putM m f2 x := by unfold putM; rw [hps]
  rw [hput] at hs
  rw [mMake_19_eq_2, act_cells hd, mstatement_vvv_c4c4c4c15zzz_3, hs, stmt_go _ _ 7 rfl, if_pos ⟨rfl, by omega⟩, if_pos (bLe f2.body), if_pos ⟨rfl, by omega, by omega⟩, if_pos (bRoom _ _ _ _ _ _ _ _), if_pos (bLe f0.body), if_pos (bLe f1.body), bSet, if_pos (bLe1 _ _), bAll f0.body, bAll f1.body, bAll1, show ((i : Nat) : Int) + 1 = ((i + 1 : Nat) : Int) by omega, wN (by omega), List.length_append, List.length_singleton]
theorem last3 (hg : m.globals.length ≤ 1000) (hm : m.funcs.length = 3) (hacts : acts.length ≤ 60) (hok : ∀ x ∈ acts, x.ok) : ∀ (rest : List MAct) (i : Nat) (f0 f1 f2 : MFun), acts.drop i = rest → i ≤ acts.length → m.funcs.map (·.params) = [f0.params, f1.params, f2.params] → okR f0 → okR f1 → okR f2 → f0.body.length + rest.length ≤ 1000 → f1.body.length + rest.length ≤ 1000 → f2.body.length + rest.length ≤ 1000 →
    mMake_10 3 i g f e acts.length (actsF acts) S cS m.globals.length cG E cE f0.name f0.params f0.locals.length (kF .i64 f0.locals) f0.sites.length (kF .i64 f0.sites) f0.body.length f1.name f1.params f1.locals.length (kF .i64 f1.locals) f1.sites.length (kF .i64 f1.sites) f1.body.length f2.name f2.params f2.locals.length (kF .i64 f2.locals) f2.sites.length (kF .i64 f2.sites) f2.body.length (stmtsF f0.body) (stmtsF f1.body) (stmtsF f2.body) = mMake_24 S cS m.globals.length cG 3 (funsF (bodyM m acts.length i rest [f0, f1, f2])) E cE
  | [], i, f0, f1, f2, hd, hi, hps, h0, h1, h2, b0, b1, b2 => by
    have := done_of_drop hd
    rw [mMake_10_eq, if_neg (end_le this), if_pos (bLe f0.body), if_pos (bLe f1.body), if_pos (bLe f2.body), bAll f0.body, bAll f1.body, bAll f2.body, mMake_20_eq]
    rfl
  | x :: rest, i, f0, f1, f2, hd, hi, hps, h0, h1, h2, b0, b1, b2 => by
    have hlt := lt_of_drop hd
    have hx := hok x (List.mem_of_mem_drop (by rw [hd]; simp : x ∈ acts.drop i))
    have hj : i * 3 / acts.length < 3 := by rw [Nat.div_lt_iff_lt_mul (by omega)]; omega
    have hw : ∀ a : Nat, a = acts.length → IntKind.wrap .i64 (Int.tdiv (IntKind.wrap .i64 (((i : Nat) : Int) * 3)) ((a : Nat) : Int)) = ((i * 3 / acts.length : Nat) : Int) := fun a ha => by
      rw [show ((i : Nat) : Int) * 3 = ((i * 3 : Nat) : Int) by omega, wN (by omega), tdivN, ha, wN (by omega)]
    simp only [List.length_cons] at b0 b1 b2
    have hbody : ∀ j, j = i * 3 / acts.length → bodyM m acts.length i (x :: rest) [f0, f1, f2] = bodyM m acts.length (i + 1) rest ([f0, f1, f2].modify j fun f => { f with body := f.body ++ [putM m f x] }) := fun j hj => by rw [bodyM, hm, hj]
    have key : ∀ (j : Nat), j = i * 3 / acts.length → both (mMake_18 3 i ((j : Nat) : Int) g f e acts.length (actsF acts) S cS m.globals.length cG E cE f0.name f0.params f0.locals.length (kF .i64 f0.locals) f0.sites.length (kF .i64 f0.sites) f0.body.length f1.name f1.params f1.locals.length (kF .i64 f1.locals) f1.sites.length (kF .i64 f1.sites) f1.body.length f2.name f2.params f2.locals.length (kF .i64 f2.locals) f2.sites.length (kF .i64 f2.sites) f2.body.length (stmtsF f0.body) (stmtsF f1.body) (stmtsF f2.body)) (mMake_19 3 i ((j : Nat) : Int) g f e acts.length (actsF acts) S cS m.globals.length cG E cE f0.name f0.params f0.locals.length (kF .i64 f0.locals) f0.sites.length (kF .i64 f0.sites) f0.body.length f1.name f1.params f1.locals.length (kF .i64 f1.locals) f1.sites.length (kF .i64 f1.sites) f1.body.length f2.name f2.params f2.locals.length (kF .i64 f2.locals) f2.sites.length (kF .i64 f2.sites) f2.body.length (stmtsF f0.body) (stmtsF f1.body) (stmtsF f2.body)) = mMake_24 S cS m.globals.length cG 3 (funsF (bodyM m acts.length i (x :: rest) [f0, f1, f2])) E cE := by
      intro j hj'
      rw [hbody j hj']
      have hcase : j = 0 ∨ j = 1 ∨ j = 2 := by omega
      rcases hcase with rfl | rfl | rfl
      · refine (congr (congrArg both (step3_0_a (g := g) (f := f) (e := e) (S := S) (cS := cS) (cG := cG) (E := E) (cE := cE) hg hps h0 h1 h2 hx hd (by omega) (by omega))) (step3_0_b (g := g) (f := f) (e := e) (S := S) (cS := cS) (cG := cG) (E := E) (cE := cE) hg hps h0 h1 h2 hx hd (by omega) (by omega))).trans ?_
        rw [both_self]
        exact last3 hg hm hacts hok rest (i + 1) { f0 with body := f0.body ++ [putM m f0 x] } f1 f2 (drop_next hd) (by omega) hps h0 h1 h2 (by simp; omega) (by omega) (by omega)
      · refine (congr (congrArg both (step3_1_a (g := g) (f := f) (e := e) (S := S) (cS := cS) (cG := cG) (E := E) (cE := cE) hg hps h0 h1 h2 hx hd (by omega) (by omega))) (step3_1_b (g := g) (f := f) (e := e) (S := S) (cS := cS) (cG := cG) (E := E) (cE := cE) hg hps h0 h1 h2 hx hd (by omega) (by omega))).trans ?_
        rw [both_self]
        exact last3 hg hm hacts hok rest (i + 1) f0 { f1 with body := f1.body ++ [putM m f1 x] } f2 (drop_next hd) (by omega) hps h0 h1 h2 (by omega) (by simp; omega) (by omega)
      · refine (congr (congrArg both (step3_2_a (g := g) (f := f) (e := e) (S := S) (cS := cS) (cG := cG) (E := E) (cE := cE) hg hps h0 h1 h2 hx hd (by omega) (by omega))) (step3_2_b (g := g) (f := f) (e := e) (S := S) (cS := cS) (cG := cG) (E := E) (cE := cE) hg hps h0 h1 h2 hx hd (by omega) (by omega))).trans ?_
        rw [both_self]
        exact last3 hg hm hacts hok rest (i + 1) f0 f1 { f2 with body := f2.body ++ [putM m f2 x] } (drop_next hd) (by omega) hps h0 h1 h2 (by omega) (by omega) (by simp; omega)
    rw [mMake_10_eq, if_pos (decide_eq_true (by omega)), if_pos (decide_eq_true (by omega))]
    by_cases h60 : acts.length < 60
    · rw [if_pos (decide_eq_true (by omega)), if_neg (by omega), if_pos (bLe f0.body), if_pos (bLe f1.body), if_pos (bLe f2.body), if_pos (bLe f0.body), if_pos (bLe f1.body), if_pos (bLe f2.body), bAll f0.body, bAll f1.body, bAll f2.body, hw _ rfl]
      exact key _ rfl
    · rw [if_neg (by simp; omega), if_pos (bLe f0.body), if_pos (bLe f1.body), if_pos (bLe f2.body), if_pos (bLe f0.body), if_pos (bLe f1.body), if_pos (bLe f2.body), bAll f0.body, bAll f1.body, bAll f2.body, show (60 : Int) = ((60 : Nat) : Int) from rfl, hw 60 (by omega)]
      exact key _ rfl
theorem stc4 (hg : m.globals.length ≤ 1000) {f0 f1 f2 f3 : MFun} (hps : m.funcs.map (·.params) = [f0.params, f1.params, f2.params, f3.params]) (h0 : okR f0) (h1 : okR f1) (h2 : okR f2) (h3 : okR f3) (q : MFun) (hq : okR q) : StC m.globals.length q.locals.length q.sites.length [f0.params, f1.params, f2.params, f3.params] ([F.s (.int .i64 f0.name), F.s (.int .i64 f0.params), F.lst f0.locals.length (kF .i64 f0.locals), F.lst f0.sites.length (kF .i64 f0.sites), F.lst 0 ([]), F.s (.int .i64 f1.name), F.s (.int .i64 f1.params), F.lst f1.locals.length (kF .i64 f1.locals), F.lst f1.sites.length (kF .i64 f1.sites), F.lst 0 ([]), F.s (.int .i64 f2.name), F.s (.int .i64 f2.params), F.lst f2.locals.length (kF .i64 f2.locals), F.lst f2.sites.length (kF .i64 f2.sites), F.lst 0 ([]), F.s (.int .i64 f3.name), F.s (.int .i64 f3.params), F.lst f3.locals.length (kF .i64 f3.locals), F.lst f3.sites.length (kF .i64 f3.sites), F.lst 0 ([])]) := by
  obtain ⟨q1, q2, q3, q4, q5, q6⟩ := hq
  refine ⟨hg, q2, q1, q4, q3, by simp, by simp, fun j hj K => ?_, fun j hj => ?_⟩
  · have : j = 0 ∨ j = 1 ∨ j = 2 ∨ j = 3 := by simp at hj; omega
    rcases this with rfl | rfl | rfl | rfl
    · simp
    · simp
    · simp
    · simp
  · have : j = 0 ∨ j = 1 ∨ j = 2 ∨ j = 3 := by simp at hj; omega
    rcases this with rfl | rfl | rfl | rfl
    · exact ⟨h0.2.2.2.2.1, h0.2.2.2.2.2⟩
    · exact ⟨h1.2.2.2.2.1, h1.2.2.2.2.2⟩
    · exact ⟨h2.2.2.2.2.1, h2.2.2.2.2.2⟩
    · exact ⟨h3.2.2.2.2.1, h3.2.2.2.2.2⟩
theorem step4_0_a (hg : m.globals.length ≤ 1000) {f0 f1 f2 f3 : MFun} (hps : m.funcs.map (·.params) = [f0.params, f1.params, f2.params, f3.params]) (h0 : okR f0) (h1 : okR f1) (h2 : okR f2) (h3 : okR f3) {x : MAct} (hx : x.ok) {rest : List MAct} {i : Nat} (hd : acts.drop i = x :: rest) (hi : i < 1000) (hb : f0.body.length ≤ 1000) :
    mMake_21 4 i 0 g f e acts.length (actsF acts) S cS m.globals.length cG E cE f0.name f0.params f0.locals.length (kF .i64 f0.locals) f0.sites.length (kF .i64 f0.sites) f0.body.length f1.name f1.params f1.locals.length (kF .i64 f1.locals) f1.sites.length (kF .i64 f1.sites) f1.body.length f2.name f2.params f2.locals.length (kF .i64 f2.locals) f2.sites.length (kF .i64 f2.sites) f2.body.length f3.name f3.params f3.locals.length (kF .i64 f3.locals) f3.sites.length (kF .i64 f3.sites) f3.body.length (stmtsF f0.body) (stmtsF f1.body) (stmtsF f2.body) (stmtsF f3.body) = mMake_11 4 ((i + 1 : Nat) : Int) g f e acts.length (actsF acts) S cS m.globals.length cG E cE f0.name f0.params f0.locals.length (kF .i64 f0.locals) f0.sites.length (kF .i64 f0.sites) (f0.body ++ [putM m f0 x]).length f1.name f1.params f1.locals.length (kF .i64 f1.locals) f1.sites.length (kF .i64 f1.sites) f1.body.length f2.name f2.params f2.locals.length (kF .i64 f2.locals) f2.sites.length (kF .i64 f2.sites) f2.body.length f3.name f3.params f3.locals.length (kF .i64 f3.locals) f3.sites.length (kF .i64 f3.sites) f3.body.length (stmtsF (f0.body ++ [putM m f0 x])) (stmtsF f1.body) (stmtsF f2.body) (stmtsF f3.body) := by
  have hc := stc4 hg hps h0 h1 h2 h3 f0 h0
  have hs := mstatement_core (m1 := S) (c2 := cS) (c4 := cG) (m7 := E) (c8 := cE) (n9 := f0.name) (n10 := f0.params) (c12 := kF .i64 f0.locals) (c14 := kF .i64 f0.sites) hc x hx
  rw [show ([f0.params, f1.params, f2.params, f3.params] : List Int).length = 4 from rfl] at hs
  have hput : stmtM m.globals.length f0.locals.length f0.sites.length [f0.params, f1.params, f2.params, f3.params] x = putM m f0 x := by unfold putM; rw [hps]
  rw [hput] at hs
  rw [mMake_21_eq_0, act_cells hd, mstatement_vvv_c4c4c4c20zzzz, hs, stmt_go _ _ 8 rfl, if_pos ⟨rfl, by omega⟩, if_pos (bLe f0.body), bPush, if_pos (bLe1 _ _), if_pos (bLe f1.body), if_pos (bLe f2.body), if_pos (bLe f3.body), bAll f1.body, bAll f2.body, bAll f3.body, bAll1, show ((i : Nat) : Int) + 1 = ((i + 1 : Nat) : Int) by omega, wN (by omega), List.length_append, List.length_singleton]
theorem step4_0_b (hg : m.globals.length ≤ 1000) {f0 f1 f2 f3 : MFun} (hps : m.funcs.map (·.params) = [f0.params, f1.params, f2.params, f3.params]) (h0 : okR f0) (h1 : okR f1) (h2 : okR f2) (h3 : okR f3) {x : MAct} (hx : x.ok) {rest : List MAct} {i : Nat} (hd : acts.drop i = x :: rest) (hi : i < 1000) (hb : f0.body.length ≤ 1000) :
    mMake_22 4 i 0 g f e acts.length (actsF acts) S cS m.globals.length cG E cE f0.name f0.params f0.locals.length (kF .i64 f0.locals) f0.sites.length (kF .i64 f0.sites) f0.body.length f1.name f1.params f1.locals.length (kF .i64 f1.locals) f1.sites.length (kF .i64 f1.sites) f1.body.length f2.name f2.params f2.locals.length (kF .i64 f2.locals) f2.sites.length (kF .i64 f2.sites) f2.body.length f3.name f3.params f3.locals.length (kF .i64 f3.locals) f3.sites.length (kF .i64 f3.sites) f3.body.length (stmtsF f0.body) (stmtsF f1.body) (stmtsF f2.body) (stmtsF f3.body) = mMake_11 4 ((i + 1 : Nat) : Int) g f e acts.length (actsF acts) S cS m.globals.length cG E cE f0.name f0.params f0.locals.length (kF .i64 f0.locals) f0.sites.length (kF .i64 f0.sites) (f0.body ++ [putM m f0 x]).length f1.name f1.params f1.locals.length (kF .i64 f1.locals) f1.sites.length (kF .i64 f1.sites) f1.body.length f2.name f2.params f2.locals.length (kF .i64 f2.locals) f2.sites.length (kF .i64 f2.sites) f2.body.length f3.name f3.params f3.locals.length (kF .i64 f3.locals) f3.sites.length (kF .i64 f3.sites) f3.body.length (stmtsF (f0.body ++ [putM m f0 x])) (stmtsF f1.body) (stmtsF f2.body) (stmtsF f3.body) := by
  have hc := stc4 hg hps h0 h1 h2 h3 f0 h0
  have hs := mstatement_core (m1 := S) (c2 := cS) (c4 := cG) (m7 := E) (c8 := cE) (n9 := f0.name) (n10 := f0.params) (c12 := kF .i64 f0.locals) (c14 := kF .i64 f0.sites) hc x hx
  rw [show ([f0.params, f1.params, f2.params, f3.params] : List Int).length = 4 from rfl] at hs
  have hput : stmtM m.globals.length f0.locals.length f0.sites.length [f0.params, f1.params, f2.params, f3.params] x = putM m f0 x := by unfold putM; rw [hps]
  rw [hput] at hs
  rw [mMake_22_eq_0, act_cells hd, mstatement_vvv_c4c4c4c20zzzz, hs, stmt_go _ _ 8 rfl, if_pos ⟨rfl, by omega⟩, if_pos (bLe f0.body), if_pos ⟨rfl, by omega, by omega⟩, if_pos (bRoom _ _ _ _ _ _ _ _), bSet, if_pos (bLe1 _ _), if_pos (bLe f1.body), if_pos (bLe f2.body), if_pos (bLe f3.body), bAll f1.body, bAll f2.body, bAll f3.body, bAll1, show ((i : Nat) : Int) + 1 = ((i + 1 : Nat) : Int) by omega, wN (by omega), List.length_append, List.length_singleton]
theorem step4_1_a (hg : m.globals.length ≤ 1000) {f0 f1 f2 f3 : MFun} (hps : m.funcs.map (·.params) = [f0.params, f1.params, f2.params, f3.params]) (h0 : okR f0) (h1 : okR f1) (h2 : okR f2) (h3 : okR f3) {x : MAct} (hx : x.ok) {rest : List MAct} {i : Nat} (hd : acts.drop i = x :: rest) (hi : i < 1000) (hb : f1.body.length ≤ 1000) :
    mMake_21 4 i 1 g f e acts.length (actsF acts) S cS m.globals.length cG E cE f0.name f0.params f0.locals.length (kF .i64 f0.locals) f0.sites.length (kF .i64 f0.sites) f0.body.length f1.name f1.params f1.locals.length (kF .i64 f1.locals) f1.sites.length (kF .i64 f1.sites) f1.body.length f2.name f2.params f2.locals.length (kF .i64 f2.locals) f2.sites.length (kF .i64 f2.sites) f2.body.length f3.name f3.params f3.locals.length (kF .i64 f3.locals) f3.sites.length (kF .i64 f3.sites) f3.body.length (stmtsF f0.body) (stmtsF f1.body) (stmtsF f2.body) (stmtsF f3.body) = mMake_11 4 ((i + 1 : Nat) : Int) g f e acts.length (actsF acts) S cS m.globals.length cG E cE f0.name f0.params f0.locals.length (kF .i64 f0.locals) f0.sites.length (kF .i64 f0.sites) f0.body.length f1.name f1.params f1.locals.length (kF .i64 f1.locals) f1.sites.length (kF .i64 f1.sites) (f1.body ++ [putM m f1 x]).length f2.name f2.params f2.locals.length (kF .i64 f2.locals) f2.sites.length (kF .i64 f2.sites) f2.body.length f3.name f3.params f3.locals.length (kF .i64 f3.locals) f3.sites.length (kF .i64 f3.sites) f3.body.length (stmtsF f0.body) (stmtsF (f1.body ++ [putM m f1 x])) (stmtsF f2.body) (stmtsF f3.body) := by
  have hc := stc4 hg hps h0 h1 h2 h3 f1 h1
  have hs := mstatement_core (m1 := S) (c2 := cS) (c4 := cG) (m7 := E) (c8 := cE) (n9 := f1.name) (n10 := f1.params) (c12 := kF .i64 f1.locals) (c14 := kF .i64 f1.sites) hc x hx
  rw [show ([f0.params, f1.params, f2.params, f3.params] : List Int).length = 4 from rfl] at hs
  have hput : stmtM m.globals.length f1.locals.length f1.sites.length [f0.params, f1.params, f2.params, f3.params] x = putM m f1 x := by unfold putM; rw [hps]
  rw [hput] at hs
  rw [mMake_21_eq_1, act_cells hd, mstatement_vvv_c4c4c4c20zzzz_2, hs, stmt_go _ _ 8 rfl, if_pos ⟨rfl, by omega⟩, if_pos (bLe f1.body), if_pos (bLe f0.body), bPush, if_pos (bLe1 _ _), if_pos (bLe f2.body), if_pos (bLe f3.body), bAll f0.body, bAll f2.body, bAll f3.body, bAll1, show ((i : Nat) : Int) + 1 = ((i + 1 : Nat) : Int) by omega, wN (by omega), List.length_append, List.length_singleton]
theorem step4_1_b (hg : m.globals.length ≤ 1000) {f0 f1 f2 f3 : MFun} (hps : m.funcs.map (·.params) = [f0.params, f1.params, f2.params, f3.params]) (h0 : okR f0) (h1 : okR f1) (h2 : okR f2) (h3 : okR f3) {x : MAct} (hx : x.ok) {rest : List MAct} {i : Nat} (hd : acts.drop i = x :: rest) (hi : i < 1000) (hb : f1.body.length ≤ 1000) :
    mMake_22 4 i 1 g f e acts.length (actsF acts) S cS m.globals.length cG E cE f0.name f0.params f0.locals.length (kF .i64 f0.locals) f0.sites.length (kF .i64 f0.sites) f0.body.length f1.name f1.params f1.locals.length (kF .i64 f1.locals) f1.sites.length (kF .i64 f1.sites) f1.body.length f2.name f2.params f2.locals.length (kF .i64 f2.locals) f2.sites.length (kF .i64 f2.sites) f2.body.length f3.name f3.params f3.locals.length (kF .i64 f3.locals) f3.sites.length (kF .i64 f3.sites) f3.body.length (stmtsF f0.body) (stmtsF f1.body) (stmtsF f2.body) (stmtsF f3.body) = mMake_11 4 ((i + 1 : Nat) : Int) g f e acts.length (actsF acts) S cS m.globals.length cG E cE f0.name f0.params f0.locals.length (kF .i64 f0.locals) f0.sites.length (kF .i64 f0.sites) f0.body.length f1.name f1.params f1.locals.length (kF .i64 f1.locals) f1.sites.length (kF .i64 f1.sites) (f1.body ++ [putM m f1 x]).length f2.name f2.params f2.locals.length (kF .i64 f2.locals) f2.sites.length (kF .i64 f2.sites) f2.body.length f3.name f3.params f3.locals.length (kF .i64 f3.locals) f3.sites.length (kF .i64 f3.sites) f3.body.length (stmtsF f0.body) (stmtsF (f1.body ++ [putM m f1 x])) (stmtsF f2.body) (stmtsF f3.body) := by
  have hc := stc4 hg hps h0 h1 h2 h3 f1 h1
  have hs := mstatement_core (m1 := S) (c2 := cS) (c4 := cG) (m7 := E) (c8 := cE) (n9 := f1.name) (n10 := f1.params) (c12 := kF .i64 f1.locals) (c14 := kF .i64 f1.sites) hc x hx
  rw [show ([f0.params, f1.params, f2.params, f3.params] : List Int).length = 4 from rfl] at hs
  have hput : stmtM m.globals.length f1.locals.length f1.sites.length [f0.params, f1.params, f2.params, f3.params] x = putM m f1 x := by unfold putM; rw [hps]
  rw [hput] at hs
  rw [mMake_22_eq_1, act_cells hd, mstatement_vvv_c4c4c4c20zzzz_2, hs, stmt_go _ _ 8 rfl, if_pos ⟨rfl, by omega⟩, if_pos (bLe f1.body), if_pos ⟨rfl, by omega, by omega⟩, if_pos (bRoom _ _ _ _ _ _ _ _), if_pos (bLe f0.body), bSet, if_pos (bLe1 _ _), if_pos (bLe f2.body), if_pos (bLe f3.body), bAll f0.body, bAll f2.body, bAll f3.body, bAll1, show ((i : Nat) : Int) + 1 = ((i + 1 : Nat) : Int) by omega, wN (by omega), List.length_append, List.length_singleton]
theorem step4_2_a (hg : m.globals.length ≤ 1000) {f0 f1 f2 f3 : MFun} (hps : m.funcs.map (·.params) = [f0.params, f1.params, f2.params, f3.params]) (h0 : okR f0) (h1 : okR f1) (h2 : okR f2) (h3 : okR f3) {x : MAct} (hx : x.ok) {rest : List MAct} {i : Nat} (hd : acts.drop i = x :: rest) (hi : i < 1000) (hb : f2.body.length ≤ 1000) :
    mMake_21 4 i 2 g f e acts.length (actsF acts) S cS m.globals.length cG E cE f0.name f0.params f0.locals.length (kF .i64 f0.locals) f0.sites.length (kF .i64 f0.sites) f0.body.length f1.name f1.params f1.locals.length (kF .i64 f1.locals) f1.sites.length (kF .i64 f1.sites) f1.body.length f2.name f2.params f2.locals.length (kF .i64 f2.locals) f2.sites.length (kF .i64 f2.sites) f2.body.length f3.name f3.params f3.locals.length (kF .i64 f3.locals) f3.sites.length (kF .i64 f3.sites) f3.body.length (stmtsF f0.body) (stmtsF f1.body) (stmtsF f2.body) (stmtsF f3.body) = mMake_11 4 ((i + 1 : Nat) : Int) g f e acts.length (actsF acts) S cS m.globals.length cG E cE f0.name f0.params f0.locals.length (kF .i64 f0.locals) f0.sites.length (kF .i64 f0.sites) f0.body.length f1.name f1.params f1.locals.length (kF .i64 f1.locals) f1.sites.length (kF .i64 f1.sites) f1.body.length f2.name f2.params f2.locals.length (kF .i64 f2.locals) f2.sites.length (kF .i64 f2.sites) (f2.body ++ [putM m f2 x]).length f3.name f3.params f3.locals.length (kF .i64 f3.locals) f3.sites.length (kF .i64 f3.sites) f3.body.length (stmtsF f0.body) (stmtsF f1.body) (stmtsF (f2.body ++ [putM m f2 x])) (stmtsF f3.body) := by
  have hc := stc4 hg hps h0 h1 h2 h3 f2 h2
  have hs := mstatement_core (m1 := S) (c2 := cS) (c4 := cG) (m7 := E) (c8 := cE) (n9 := f2.name) (n10 := f2.params) (c12 := kF .i64 f2.locals) (c14 := kF .i64 f2.sites) hc x hx
  rw [show ([f0.params, f1.params, f2.params, f3.params] : List Int).length = 4 from rfl] at hs
  have hput : stmtM m.globals.length f2.locals.length f2.sites.length [f0.params, f1.params, f2.params, f3.params] x = putM m f2 x := by unfold putM; rw [hps]
  rw [hput] at hs
  rw [mMake_21_eq_2, act_cells hd, mstatement_vvv_c4c4c4c20zzzz_3, hs, stmt_go _ _ 8 rfl, if_pos ⟨rfl, by omega⟩, if_pos (bLe f2.body), if_pos (bLe f0.body), if_pos (bLe f1.body), bPush, if_pos (bLe1 _ _), if_pos (bLe f3.body), bAll f0.body, bAll f1.body, bAll f3.body, bAll1, show ((i : Nat) : Int) + 1 = ((i + 1 : Nat) : Int) by omega, wN (by omega), List.length_append, List.length_singleton]
theorem step4_2_b (hg : m.globals.length ≤ 1000) {f0 f1 f2 f3 : MFun} (hps : m.funcs.map (·.params) = [f0.params, f1.params, f2.params, f3.params]) (h0 : okR f0) (h1 : okR f1) (h2 : okR f2) (h3 : okR f3) {x : MAct} (hx : x.ok) {rest : List MAct} {i : Nat} (hd : acts.drop i = x :: rest) (hi : i < 1000) (hb : f2.body.length ≤ 1000) :
    mMake_22 4 i 2 g f e acts.length (actsF acts) S cS m.globals.length cG E cE f0.name f0.params f0.locals.length (kF .i64 f0.locals) f0.sites.length (kF .i64 f0.sites) f0.body.length f1.name f1.params f1.locals.length (kF .i64 f1.locals) f1.sites.length (kF .i64 f1.sites) f1.body.length f2.name f2.params f2.locals.length (kF .i64 f2.locals) f2.sites.length (kF .i64 f2.sites) f2.body.length f3.name f3.params f3.locals.length (kF .i64 f3.locals) f3.sites.length (kF .i64 f3.sites) f3.body.length (stmtsF f0.body) (stmtsF f1.body) (stmtsF f2.body) (stmtsF f3.body) = mMake_11 4 ((i + 1 : Nat) : Int) g f e acts.length (actsF acts) S cS m.globals.length cG E cE f0.name f0.params f0.locals.length (kF .i64 f0.locals) f0.sites.length (kF .i64 f0.sites) f0.body.length f1.name f1.params f1.locals.length (kF .i64 f1.locals) f1.sites.length (kF .i64 f1.sites) f1.body.length f2.name f2.params f2.locals.length (kF .i64 f2.locals) f2.sites.length (kF .i64 f2.sites) (f2.body ++ [putM m f2 x]).length f3.name f3.params f3.locals.length (kF .i64 f3.locals) f3.sites.length (kF .i64 f3.sites) f3.body.length (stmtsF f0.body) (stmtsF f1.body) (stmtsF (f2.body ++ [putM m f2 x])) (stmtsF f3.body) := by
  have hc := stc4 hg hps h0 h1 h2 h3 f2 h2
  have hs := mstatement_core (m1 := S) (c2 := cS) (c4 := cG) (m7 := E) (c8 := cE) (n9 := f2.name) (n10 := f2.params) (c12 := kF .i64 f2.locals) (c14 := kF .i64 f2.sites) hc x hx
  rw [show ([f0.params, f1.params, f2.params, f3.params] : List Int).length = 4 from rfl] at hs
  have hput : stmtM m.globals.length f2.locals.length f2.sites.length [f0.params, f1.params, f2.params, f3.params] x = putM m f2 x := by unfold putM; rw [hps]
  rw [hput] at hs
  rw [mMake_22_eq_2, act_cells hd, mstatement_vvv_c4c4c4c20zzzz_3, hs, stmt_go _ _ 8 rfl, if_pos ⟨rfl, by omega⟩, if_pos (bLe f2.body), if_pos ⟨rfl, by omega, by omega⟩, if_pos (bRoom _ _ _ _ _ _ _ _), if_pos (bLe f0.body), if_pos (bLe f1.body), bSet, if_pos (bLe1 _ _), if_pos (bLe f3.body), bAll f0.body, bAll f1.body, bAll f3.body, bAll1, show ((i : Nat) : Int) + 1 = ((i + 1 : Nat) : Int) by omega, wN (by omega), List.length_append, List.length_singleton]
theorem step4_3_a (hg : m.globals.length ≤ 1000) {f0 f1 f2 f3 : MFun} (hps : m.funcs.map (·.params) = [f0.params, f1.params, f2.params, f3.params]) (h0 : okR f0) (h1 : okR f1) (h2 : okR f2) (h3 : okR f3) {x : MAct} (hx : x.ok) {rest : List MAct} {i : Nat} (hd : acts.drop i = x :: rest) (hi : i < 1000) (hb : f3.body.length ≤ 1000) :
    mMake_21 4 i 3 g f e acts.length (actsF acts) S cS m.globals.length cG E cE f0.name f0.params f0.locals.length (kF .i64 f0.locals) f0.sites.length (kF .i64 f0.sites) f0.body.length f1.name f1.params f1.locals.length (kF .i64 f1.locals) f1.sites.length (kF .i64 f1.sites) f1.body.length f2.name f2.params f2.locals.length (kF .i64 f2.locals) f2.sites.length (kF .i64 f2.sites) f2.body.length f3.name f3.params f3.locals.length (kF .i64 f3.locals) f3.sites.length (kF .i64 f3.sites) f3.body.length (stmtsF f0.body) (stmtsF f1.body) (stmtsF f2.body) (stmtsF f3.body) = mMake_11 4 ((i + 1 : Nat) : Int) g f e acts.length (actsF acts) S cS m.globals.length cG E cE f0.name f0.params f0.locals.length (kF .i64 f0.locals) f0.sites.length (kF .i64 f0.sites) f0.body.length f1.name f1.params f1.locals.length (kF .i64 f1.locals) f1.sites.length (kF .i64 f1.sites) f1.body.length f2.name f2.params f2.locals.length (kF .i64 f2.locals) f2.sites.length (kF .i64 f2.sites) f2.body.length f3.name f3.params f3.locals.length (kF .i64 f3.locals) f3.sites.length (kF .i64 f3.sites) (f3.body ++ [putM m f3 x]).length (stmtsF f0.body) (stmtsF f1.body) (stmtsF f2.body) (stmtsF (f3.body ++ [putM m f3 x])) := by
  have hc := stc4 hg hps h0 h1 h2 h3 f3 h3
  have hs := mstatement_core (m1 := S) (c2 := cS) (c4 := cG) (m7 := E) (c8 := cE) (n9 := f3.name) (n10 := f3.params) (c12 := kF .i64 f3.locals) (c14 := kF .i64 f3.sites) hc x hx
  rw [show ([f0.params, f1.params, f2.params, f3.params] : List Int).length = 4 from rfl] at hs
  have hput : stmtM m.globals.length f3.locals.length f3.sites.length [f0.params, f1.params, f2.params, f3.params] x = putM m f3 x := by unfold putM; rw [hps]
  rw [hput] at hs
  rw [mMake_21_eq_3, act_cells hd, mstatement_vvv_c4c4c4c20zzzz_4, hs, stmt_go _ _ 8 rfl, if_pos ⟨rfl, by omega⟩, if_pos (bLe f3.body), if_pos (bLe f0.body), if_pos (bLe f1.body), if_pos (bLe f2.body), bPush, if_pos (bLe1 _ _), bAll f0.body, bAll f1.body, bAll f2.body, bAll1, show ((i : Nat) : Int) + 1 = ((i + 1 : Nat) : Int) by omega, wN (by omega), List.length_append, List.length_singleton]
theorem step4_3_b (hg : m.globals.length ≤ 1000) {f0 f1 f2 f3 : MFun} (hps : m.funcs.map (·.params) = [f0.params, f1.params, f2.params, f3.params]) (h0 : okR f0) (h1 : okR f1) (h2 : okR f2) (h3 : okR f3) {x : MAct} (hx : x.ok) {rest : List MAct} {i : Nat} (hd : acts.drop i = x :: rest) (hi : i < 1000) (hb : f3.body.length ≤ 1000) :
    mMake_22 4 i 3 g f e acts.length (actsF acts) S cS m.globals.length cG E cE f0.name f0.params f0.locals.length (kF .i64 f0.locals) f0.sites.length (kF .i64 f0.sites) f0.body.length f1.name f1.params f1.locals.length (kF .i64 f1.locals) f1.sites.length (kF .i64 f1.sites) f1.body.length f2.name f2.params f2.locals.length (kF .i64 f2.locals) f2.sites.length (kF .i64 f2.sites) f2.body.length f3.name f3.params f3.locals.length (kF .i64 f3.locals) f3.sites.length (kF .i64 f3.sites) f3.body.length (stmtsF f0.body) (stmtsF f1.body) (stmtsF f2.body) (stmtsF f3.body) = mMake_11 4 ((i + 1 : Nat) : Int) g f e acts.length (actsF acts) S cS m.globals.length cG E cE f0.name f0.params f0.locals.length (kF .i64 f0.locals) f0.sites.length (kF .i64 f0.sites) f0.body.length f1.name f1.params f1.locals.length (kF .i64 f1.locals) f1.sites.length (kF .i64 f1.sites) f1.body.length f2.name f2.params f2.locals.length (kF .i64 f2.locals) f2.sites.length (kF .i64 f2.sites) f2.body.length f3.name f3.params f3.locals.length (kF .i64 f3.locals) f3.sites.length (kF .i64 f3.sites) (f3.body ++ [putM m f3 x]).length (stmtsF f0.body) (stmtsF f1.body) (stmtsF f2.body) (stmtsF (f3.body ++ [putM m f3 x])) := by
  have hc := stc4 hg hps h0 h1 h2 h3 f3 h3
  have hs := mstatement_core (m1 := S) (c2 := cS) (c4 := cG) (m7 := E) (c8 := cE) (n9 := f3.name) (n10 := f3.params) (c12 := kF .i64 f3.locals) (c14 := kF .i64 f3.sites) hc x hx
  rw [show ([f0.params, f1.params, f2.params, f3.params] : List Int).length = 4 from rfl] at hs
  have hput : stmtM m.globals.length f3.locals.length f3.sites.length [f0.params, f1.params, f2.params, f3.params] x = putM m f3 x := by unfold putM; rw [hps]
  rw [hput] at hs
  rw [mMake_22_eq_3, act_cells hd, mstatement_vvv_c4c4c4c20zzzz_4, hs, stmt_go _ _ 8 rfl, if_pos ⟨rfl, by omega⟩, if_pos (bLe f3.body), if_pos ⟨rfl, by omega, by omega⟩, if_pos (bRoom _ _ _ _ _ _ _ _), if_pos (bLe f0.body), if_pos (bLe f1.body), if_pos (bLe f2.body), bSet, if_pos (bLe1 _ _), bAll f0.body, bAll f1.body, bAll f2.body, bAll1, show ((i : Nat) : Int) + 1 = ((i + 1 : Nat) : Int) by omega, wN (by omega), List.length_append, List.length_singleton]
theorem last4 (hg : m.globals.length ≤ 1000) (hm : m.funcs.length = 4) (hacts : acts.length ≤ 60) (hok : ∀ x ∈ acts, x.ok) : ∀ (rest : List MAct) (i : Nat) (f0 f1 f2 f3 : MFun), acts.drop i = rest → i ≤ acts.length → m.funcs.map (·.params) = [f0.params, f1.params, f2.params, f3.params] → okR f0 → okR f1 → okR f2 → okR f3 → f0.body.length + rest.length ≤ 1000 → f1.body.length + rest.length ≤ 1000 → f2.body.length + rest.length ≤ 1000 → f3.body.length + rest.length ≤ 1000 →
    mMake_11 4 i g f e acts.length (actsF acts) S cS m.globals.length cG E cE f0.name f0.params f0.locals.length (kF .i64 f0.locals) f0.sites.length (kF .i64 f0.sites) f0.body.length f1.name f1.params f1.locals.length (kF .i64 f1.locals) f1.sites.length (kF .i64 f1.sites) f1.body.length f2.name f2.params f2.locals.length (kF .i64 f2.locals) f2.sites.length (kF .i64 f2.sites) f2.body.length f3.name f3.params f3.locals.length (kF .i64 f3.locals) f3.sites.length (kF .i64 f3.sites) f3.body.length (stmtsF f0.body) (stmtsF f1.body) (stmtsF f2.body) (stmtsF f3.body) = mMake_24 S cS m.globals.length cG 4 (funsF (bodyM m acts.length i rest [f0, f1, f2, f3])) E cE
  | [], i, f0, f1, f2, f3, hd, hi, hps, h0, h1, h2, h3, b0, b1, b2, b3 => by
    have := done_of_drop hd
    rw [mMake_11_eq, if_neg (end_le this), if_pos (bLe f0.body), if_pos (bLe f1.body), if_pos (bLe f2.body), if_pos (bLe f3.body), bAll f0.body, bAll f1.body, bAll f2.body, bAll f3.body, mMake_23_eq]
    rfl
  | x :: rest, i, f0, f1, f2, f3, hd, hi, hps, h0, h1, h2, h3, b0, b1, b2, b3 => by
    have hlt := lt_of_drop hd
    have hx := hok x (List.mem_of_mem_drop (by rw [hd]; simp : x ∈ acts.drop i))
    have hj : i * 4 / acts.length < 4 := by rw [Nat.div_lt_iff_lt_mul (by omega)]; omega
    have hw : ∀ a : Nat, a = acts.length → IntKind.wrap .i64 (Int.tdiv (IntKind.wrap .i64 (((i : Nat) : Int) * 4)) ((a : Nat) : Int)) = ((i * 4 / acts.length : Nat) : Int) := fun a ha => by
      rw [show ((i : Nat) : Int) * 4 = ((i * 4 : Nat) : Int) by omega, wN (by omega), tdivN, ha, wN (by omega)]
    simp only [List.length_cons] at b0 b1 b2 b3
    have hbody : ∀ j, j = i * 4 / acts.length → bodyM m acts.length i (x :: rest) [f0, f1, f2, f3] = bodyM m acts.length (i + 1) rest ([f0, f1, f2, f3].modify j fun f => { f with body := f.body ++ [putM m f x] }) := fun j hj => by rw [bodyM, hm, hj]
    have key : ∀ (j : Nat), j = i * 4 / acts.length → both (mMake_21 4 i ((j : Nat) : Int) g f e acts.length (actsF acts) S cS m.globals.length cG E cE f0.name f0.params f0.locals.length (kF .i64 f0.locals) f0.sites.length (kF .i64 f0.sites) f0.body.length f1.name f1.params f1.locals.length (kF .i64 f1.locals) f1.sites.length (kF .i64 f1.sites) f1.body.length f2.name f2.params f2.locals.length (kF .i64 f2.locals) f2.sites.length (kF .i64 f2.sites) f2.body.length f3.name f3.params f3.locals.length (kF .i64 f3.locals) f3.sites.length (kF .i64 f3.sites) f3.body.length (stmtsF f0.body) (stmtsF f1.body) (stmtsF f2.body) (stmtsF f3.body)) (mMake_22 4 i ((j : Nat) : Int) g f e acts.length (actsF acts) S cS m.globals.length cG E cE f0.name f0.params f0.locals.length (kF .i64 f0.locals) f0.sites.length (kF .i64 f0.sites) f0.body.length f1.name f1.params f1.locals.length (kF .i64 f1.locals) f1.sites.length (kF .i64 f1.sites) f1.body.length f2.name f2.params f2.locals.length (kF .i64 f2.locals) f2.sites.length (kF .i64 f2.sites) f2.body.length f3.name f3.params f3.locals.length (kF .i64 f3.locals) f3.sites.length (kF .i64 f3.sites) f3.body.length (stmtsF f0.body) (stmtsF f1.body) (stmtsF f2.body) (stmtsF f3.body)) = mMake_24 S cS m.globals.length cG 4 (funsF (bodyM m acts.length i (x :: rest) [f0, f1, f2, f3])) E cE := by
      intro j hj'
      rw [hbody j hj']
      have hcase : j = 0 ∨ j = 1 ∨ j = 2 ∨ j = 3 := by omega
      rcases hcase with rfl | rfl | rfl | rfl
      · refine (congr (congrArg both (step4_0_a (g := g) (f := f) (e := e) (S := S) (cS := cS) (cG := cG) (E := E) (cE := cE) hg hps h0 h1 h2 h3 hx hd (by omega) (by omega))) (step4_0_b (g := g) (f := f) (e := e) (S := S) (cS := cS) (cG := cG) (E := E) (cE := cE) hg hps h0 h1 h2 h3 hx hd (by omega) (by omega))).trans ?_
        rw [both_self]
        exact last4 hg hm hacts hok rest (i + 1) { f0 with body := f0.body ++ [putM m f0 x] } f1 f2 f3 (drop_next hd) (by omega) hps h0 h1 h2 h3 (by simp; omega) (by omega) (by omega) (by omega)
      · refine (congr (congrArg both (step4_1_a (g := g) (f := f) (e := e) (S := S) (cS := cS) (cG := cG) (E := E) (cE := cE) hg hps h0 h1 h2 h3 hx hd (by omega) (by omega))) (step4_1_b (g := g) (f := f) (e := e) (S := S) (cS := cS) (cG := cG) (E := E) (cE := cE) hg hps h0 h1 h2 h3 hx hd (by omega) (by omega))).trans ?_
        rw [both_self]
        exact last4 hg hm hacts hok rest (i + 1) f0 { f1 with body := f1.body ++ [putM m f1 x] } f2 f3 (drop_next hd) (by omega) hps h0 h1 h2 h3 (by omega) (by simp; omega) (by omega) (by omega)
      · refine (congr (congrArg both (step4_2_a (g := g) (f := f) (e := e) (S := S) (cS := cS) (cG := cG) (E := E) (cE := cE) hg hps h0 h1 h2 h3 hx hd (by omega) (by omega))) (step4_2_b (g := g) (f := f) (e := e) (S := S) (cS := cS) (cG := cG) (E := E) (cE := cE) hg hps h0 h1 h2 h3 hx hd (by omega) (by omega))).trans ?_
        rw [both_self]
        exact last4 hg hm hacts hok rest (i + 1) f0 f1 { f2 with body := f2.body ++ [putM m f2 x] } f3 (drop_next hd) (by omega) hps h0 h1 h2 h3 (by omega) (by omega) (by simp; omega) (by omega)
      · refine (congr (congrArg both (step4_3_a (g := g) (f := f) (e := e) (S := S) (cS := cS) (cG := cG) (E := E) (cE := cE) hg hps h0 h1 h2 h3 hx hd (by omega) (by omega))) (step4_3_b (g := g) (f := f) (e := e) (S := S) (cS := cS) (cG := cG) (E := E) (cE := cE) hg hps h0 h1 h2 h3 hx hd (by omega) (by omega))).trans ?_
        rw [both_self]
        exact last4 hg hm hacts hok rest (i + 1) f0 f1 f2 { f3 with body := f3.body ++ [putM m f3 x] } (drop_next hd) (by omega) hps h0 h1 h2 h3 (by omega) (by omega) (by omega) (by simp; omega)
    rw [mMake_11_eq, if_pos (decide_eq_true (by omega)), if_pos (decide_eq_true (by omega))]
    by_cases h60 : acts.length < 60
    · rw [if_pos (decide_eq_true (by omega)), if_neg (by omega), if_pos (bLe f0.body), if_pos (bLe f1.body), if_pos (bLe f2.body), if_pos (bLe f3.body), if_pos (bLe f0.body), if_pos (bLe f1.body), if_pos (bLe f2.body), if_pos (bLe f3.body), bAll f0.body, bAll f1.body, bAll f2.body, bAll f3.body, hw _ rfl]
      exact key _ rfl
    · rw [if_neg (by simp; omega), if_pos (bLe f0.body), if_pos (bLe f1.body), if_pos (bLe f2.body), if_pos (bLe f3.body), if_pos (bLe f0.body), if_pos (bLe f1.body), if_pos (bLe f2.body), if_pos (bLe f3.body), bAll f0.body, bAll f1.body, bAll f2.body, bAll f3.body, show (60 : Int) = ((60 : Nat) : Int) from rfl, hw 60 (by omega)]
      exact key _ rfl
end
end Go.Proofs.Ytjefolfbdohkcaa
/-
  What Make answers: the module that the numbers make.
-/
namespace Go.Proofs.Ytjefolfbdohkcaa
open Go Go.Abs
theorem raw_okCn (g f e : Nat) (acts : List MAct) : okCn (rawM g f e acts) := by
  have hg := frame_good g f e
  have h2 : (rawM g f e acts).funcs.map strip = (frameM g f e).funcs := (bodyM_strip _ _ _ _ _).trans (funF0_strip f _ _ _)
  have hu : usedR (rawM g f e acts) = usedR (frameM g f e) := usedR_strip rfl (h2.trans (funF0_strip f _ _ _).symm)
  have hl : (rawM g f e acts).funcs.length = (frameM g f e).funcs.length := by have := congrArg List.length h2; simpa using this
  refine ⟨?_, ?_, ?_, fun q hq => ?_, fun n hn => ?_⟩
  · have := hg.strings; show (frameM g f e).strings.length ≤ big; unfold big; omega
  · have := hg.globals; show (frameM g f e).globals.length ≤ big; unfold big; omega
  · have := hg.funcs; unfold big; omega
  · have hm : strip q ∈ (frameM g f e).funcs := by rw [← h2]; exact List.mem_map_of_mem hq
    obtain ⟨r1, r2, r3, r4, _⟩ := hg.rows _ hm
    have e1 : (strip q).locals = q.locals := rfl
    have e2 : (strip q).sites = q.sites := rfl
    rw [e1] at r2; rw [e2] at r4
    unfold big; omega
  · rw [hu] at hn; exact hg.used n hn
theorem okR_of {m : Mod} (h : FineM m) {q : MFun} (hq : q ∈ m.funcs) : okR q := by
  obtain ⟨r1, r2, r3, r4, r5, r6, r7⟩ := h.rows q hq
  exact ⟨by omega, by omega, by omega, by omega, by omega, by omega⟩
theorem canon_go (m : Mod) (hm : okCn m) (h0 : H) (K : Nat → List F → Nat → List F → Nat → List F → Nat → List F → R) :
    (pA (run w0 15 [.agg (modV m)] h0) fun l => cL l 0 fun a b => cL l 1 fun c d => cL l 2 fun p q => cL l 3 fun r s => if l.length = 4 then K a b c d p q r s else none) =
      K (canonM m).strings.length (sF (canonM m).strings) (canonM m).globals.length (kF .i64 (canonM m).globals) (canonM m).funcs.length (funsF (canonM m).funcs) (canonM m).entries.length (kF .i64 (canonM m).entries) := by
  rw [mCanon_spec hm, pA_some]
  simp [cL, V.lst?, V.f?, F.lst?]
theorem mMake_core (g f e : Nat) (hg : g < 256) (hf : f < 256) (he : e < 256) (acts : List MAct) (hn : acts.length ≤ 60) (hx : ∀ x ∈ acts, x.ok) : mMake_0 g f e acts.length (actsF acts) = some (.ret (.agg (modV (makeM g f e acts))), []) := by
  have hgd := frame_good g f e
  have hok : ∀ q ∈ (frameM g f e).funcs, okR q := fun q hq => okR_of hgd hq
  have hbd : ∀ q ∈ (frameM g f e).funcs, q.body = [] := funF0_body f _ _ _
  have hlen : (frameM g f e).funcs.length = funN f := funF0_len f _ _ _
  -- behind the statements
  have fin : mMake_24 (frameM g f e).strings.length (sF (frameM g f e).strings) (frameM g f e).globals.length (kF .i64 (frameM g f e).globals) (frameM g f e).funcs.length (funsF (bodyM (frameM g f e) acts.length 0 acts (frameM g f e).funcs)) (frameM g f e).entries.length (kF .i64 (frameM g f e).entries) = some (.ret (.agg (modV (makeM g f e acts))), []) := by
    rw [mMake_24_eq, ← bodyM_len (frameM g f e) acts.length acts 0 (frameM g f e).funcs]
    exact canon_go (rawM g f e acts) (raw_okCn g f e acts) _ _
  rw [mk_frame g f e hg hf he]
  refine Eq.trans ?_ fin
  have hG : (frameM g f e).globals.length ≤ 1000 := by have := hgd.globals; omega
  generalize hm : frameM g f e = m at *
  cases hfs : m.funcs with
  | nil => have := hgd.funcs1; rw [hfs] at this; simp at this
  | cons f0 fs =>
    have o0 := hok f0 (by rw [hfs]; simp)
    have b0 := hbd f0 (by rw [hfs]; simp)
    cases fs with
    | nil =>
      have hN : funN f = 1 := by rw [← hlen, hfs]; rfl
      have h6 := mMake_6_eq_1 ((funN f : Nat) : Int) g f e acts.length (actsF acts) m.strings.length (sF m.strings) m.globals.length (kF .i64 m.globals) m.entries.length (kF .i64 m.entries) f0.name f0.params f0.locals.length (kF .i64 f0.locals) f0.sites.length (kF .i64 f0.sites)
      have hl := last1 (m := m) (acts := acts) (g := g) (f := f) (e := e) (S := m.strings.length) (cS := sF m.strings) (cG := kF .i64 m.globals) (E := m.entries.length) (cE := kF .i64 m.entries) hG (by rw [hfs]; rfl) hn hx acts 0 f0 rfl (by omega) (by rw [hfs]; rfl) o0 (by rw [b0]; simp; omega)
      rw [b0] at hl
      rw [hN] at h6 ⊢
      exact h6.trans hl
    | cons f1 fs =>
      have o1 := hok f1 (by rw [hfs]; simp)
      have b1 := hbd f1 (by rw [hfs]; simp)
      cases fs with
      | nil =>
        have hN : funN f = 2 := by rw [← hlen, hfs]; rfl
        have h6 := mMake_6_eq_2 ((funN f : Nat) : Int) g f e acts.length (actsF acts) m.strings.length (sF m.strings) m.globals.length (kF .i64 m.globals) m.entries.length (kF .i64 m.entries) f0.name f0.params f0.locals.length (kF .i64 f0.locals) f0.sites.length (kF .i64 f0.sites) f1.name f1.params f1.locals.length (kF .i64 f1.locals) f1.sites.length (kF .i64 f1.sites)
        have hl := last2 (m := m) (acts := acts) (g := g) (f := f) (e := e) (S := m.strings.length) (cS := sF m.strings) (cG := kF .i64 m.globals) (E := m.entries.length) (cE := kF .i64 m.entries) hG (by rw [hfs]; rfl) hn hx acts 0 f0 f1 rfl (by omega) (by rw [hfs]; rfl) o0 o1 (by rw [b0]; simp; omega) (by rw [b1]; simp; omega)
        rw [b0, b1] at hl
        rw [hN] at h6 ⊢
        exact h6.trans hl
      | cons f2 fs =>
        have o2 := hok f2 (by rw [hfs]; simp)
        have b2 := hbd f2 (by rw [hfs]; simp)
        cases fs with
        | nil =>
          have hN : funN f = 3 := by rw [← hlen, hfs]; rfl
          have h6 := mMake_6_eq_3 ((funN f : Nat) : Int) g f e acts.length (actsF acts) m.strings.length (sF m.strings) m.globals.length (kF .i64 m.globals) m.entries.length (kF .i64 m.entries) f0.name f0.params f0.locals.length (kF .i64 f0.locals) f0.sites.length (kF .i64 f0.sites) f1.name f1.params f1.locals.length (kF .i64 f1.locals) f1.sites.length (kF .i64 f1.sites) f2.name f2.params f2.locals.length (kF .i64 f2.locals) f2.sites.length (kF .i64 f2.sites)
          have hl := last3 (m := m) (acts := acts) (g := g) (f := f) (e := e) (S := m.strings.length) (cS := sF m.strings) (cG := kF .i64 m.globals) (E := m.entries.length) (cE := kF .i64 m.entries) hG (by rw [hfs]; rfl) hn hx acts 0 f0 f1 f2 rfl (by omega) (by rw [hfs]; rfl) o0 o1 o2 (by rw [b0]; simp; omega) (by rw [b1]; simp; omega) (by rw [b2]; simp; omega)
          rw [b0, b1, b2] at hl
          rw [hN] at h6 ⊢
          exact h6.trans hl
        | cons f3 fs =>
          have o3 := hok f3 (by rw [hfs]; simp)
          have b3 := hbd f3 (by rw [hfs]; simp)
          cases fs with
          | nil =>
            have hN : funN f = 4 := by rw [← hlen, hfs]; rfl
            have h6 := mMake_6_eq_4 ((funN f : Nat) : Int) g f e acts.length (actsF acts) m.strings.length (sF m.strings) m.globals.length (kF .i64 m.globals) m.entries.length (kF .i64 m.entries) f0.name f0.params f0.locals.length (kF .i64 f0.locals) f0.sites.length (kF .i64 f0.sites) f1.name f1.params f1.locals.length (kF .i64 f1.locals) f1.sites.length (kF .i64 f1.sites) f2.name f2.params f2.locals.length (kF .i64 f2.locals) f2.sites.length (kF .i64 f2.sites) f3.name f3.params f3.locals.length (kF .i64 f3.locals) f3.sites.length (kF .i64 f3.sites)
            have hl := last4 (m := m) (acts := acts) (g := g) (f := f) (e := e) (S := m.strings.length) (cS := sF m.strings) (cG := kF .i64 m.globals) (E := m.entries.length) (cE := kF .i64 m.entries) hG (by rw [hfs]; rfl) hn hx acts 0 f0 f1 f2 f3 rfl (by omega) (by rw [hfs]; rfl) o0 o1 o2 o3 (by rw [b0]; simp; omega) (by rw [b1]; simp; omega) (by rw [b2]; simp; omega) (by rw [b3]; simp; omega)
            rw [b0, b1, b2, b3] at hl
            rw [hN] at h6 ⊢
            exact h6.trans hl
          | cons f4 fs => have := hgd.funcs; rw [hfs] at this; simp at this
theorem mMake_spec (g f e : Nat) (hg : g < 256) (hf : f < 256) (he : e < 256) (acts : List MAct) (hn : acts.length ≤ 60) (hx : ∀ x ∈ acts, x.ok) (h0 : H) :
    run w0 9 [.agg [N .u8 g, N .u8 f, N .u8 e, .f (.lst acts.length (actsF acts))]] h0 = some (.ret (.agg (modV (makeM g f e acts))), h0) := by
  rw [mMake_run, mMake_core g f e hg hf he acts hn hx, withH_true]
end Go.Proofs.Ytjefolfbdohkcaa
