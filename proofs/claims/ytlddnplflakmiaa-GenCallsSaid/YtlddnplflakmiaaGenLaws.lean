/-
  The laws of constraints: calls.
-/
import Derived.Test.YtlddnplflakmiaaGenSpec7
import Derived.Test.YtlddnplflakmiaaSameSpec
import Derived.Test.YtlddnplflakmiaaAbsRow3
set_option autoImplicit false
set_option linter.unusedVariables false
set_option linter.unusedSimpArgs false
namespace Go.Proofs.Ytlddnplflakmiaa
open Go Go.Abs

/-! ### the module of calls -/
def strC : List ByteArray := [⟨#[102]⟩, ⟨#[108, 48]⟩, ⟨#[108, 49]⟩, ⟨#[108, 50]⟩, ⟨#[108, 51]⟩, ⟨#[108, 52]⟩, ⟨#[108, 53]⟩, ⟨#[108, 54]⟩]
def argC : Nat → Nat → List MRef
  | _, 0 => []
  | i, n + 1 => ⟨1, 6 - (i : Int)⟩ :: argC (i + 1) n
def stC (p : Nat) (some direct : Bool) : MStmt := .mk 5 (if some then ⟨1, 5⟩ else ⟨0, 0⟩) (if direct then ⟨3, 0⟩ else ⟨1, 6⟩) (argC 0 p) []
def funC (p : Nat) (some direct : Bool) : MFun := ⟨0, p, [1, 2, 3, 4, 5, 6, 7], [], [stC p some direct]⟩
def modC (p : Nat) (some direct : Bool) : Abs.Mod := ⟨strC, [], [funC p some direct], []⟩
theorem flatsC (p : Nat) (a b : Bool) : flats 0 0 (funC p a b).body = [⟨0, 0, stC p a b⟩] := by
  show flats 0 0 [stC p a b] = _
  rw [flats_cons, if_neg (by simp [stC, MStmt.kind]), flats_nil]
theorem argC_len : ∀ (n i : Nat), (argC i n).length = n
  | 0, _ => rfl
  | n + 1, i => by simp [argC, argC_len n]
theorem six {q : Nat → Prop} (h0 : q 0) (h1 : q 1) (h2 : q 2) (h3 : q 3) (h4 : q 4) (h5 : q 5) (h6 : q 6) : ∀ p, p ≤ 6 → q p := by
  intro p hp
  match p, hp with
  | 0, _ => exact h0
  | 1, _ => exact h1
  | 2, _ => exact h2
  | 3, _ => exact h3
  | 4, _ => exact h4
  | 5, _ => exact h5
  | 6, _ => exact h6
theorem wholeC (p : Nat) (hp : p ≤ 6) (a b : Bool) : wholeR (modC p a b) = 0 := by
  refine six (q := fun p => wholeR (modC p a b) = 0) ?_ ?_ ?_ ?_ ?_ ?_ ?_ p hp <;> cases a <;> cases b <;> decide +kernel
theorem funC_ok (p : Nat) (hp : p ≤ 6) (a b : Bool) : funR (modC p a b) (funC p a b) = 0 := by
  unfold funR
  rw [flatsC]
  refine six (q := fun p => (if 40 < (funC p a b).locals.length ∨ 40 < (funC p a b).sites.length ∨ 400 < ([⟨0, 0, stC p a b⟩] : List MItem).length then (2 : Int)
    else if (funC p a b).params < 0 ∨ ((funC p a b).locals.length : Int) < (funC p a b).params ∨ 6 < (funC p a b).params then 4
    else if 0 < namesR (modC p a b).strings (funC p a b).locals [] then namesR (modC p a b).strings (funC p a b).locals []
    else namesR (modC p a b).strings (funC p a b).sites []) = 0) ?_ ?_ ?_ ?_ ?_ ?_ ?_ p hp <;> cases a <;> cases b <;> decide +kernel
theorem stC_ok (p : Nat) (hp : p ≤ 6) (a b : Bool) : stmtR (modC p a b) (funC p a b) 0 (stC p a b) = 0 := by
  refine six (q := fun p => stmtR (modC p a b) (funC p a b) 0 (stC p a b) = 0) ?_ ?_ ?_ ?_ ?_ ?_ ?_ p hp <;> cases a <;> cases b <;> decide +kernel
theorem sortedC (p : Nat) (hp : p ≤ 6) (a b : Bool) : sortedR (modC p a b) = true := by
  refine six (q := fun p => sortedR (modC p a b) = true) ?_ ?_ ?_ ?_ ?_ ?_ ?_ p hp <;> cases a <;> cases b <;> decide +kernel
theorem checkC (p : Nat) (hp : p ≤ 6) (a b : Bool) : checkR (modC p a b) = none := by
  have hs : stmtsR (modC p a b) (funC p a b) (flats 0 0 (funC p a b).body) = none := by
    rw [flatsC]
    simp only [stmtsR, stC_ok p hp a b]
    rfl
  have ht : treeR (modC p a b) = none := by
    unfold treeR
    rw [wholeC p hp a b, if_neg (by decide)]
    show funsR (modC p a b) 0 [funC p a b] = none
    simp only [funsR, funC_ok p hp a b, hs]
    rfl
  unfold checkR
  rw [ht, sortedC p hp a b]; rfl
theorem kindsC (p : Nat) (hp : p ≤ 6) (a b : Bool) : kindsR (stC p a b) = true := by
  refine six (q := fun p => kindsR (stC p a b) = true) ?_ ?_ ?_ ?_ ?_ ?_ ?_ p hp <;> cases a <;> cases b <;> decide +kernel
theorem okC (p : Nat) (hp : p ≤ 6) (a b : Bool) : okG (modC p a b) := by
  refine ⟨⟨by simp [modC], by simp [modC], fun f hf => ?_⟩, fun f hf => ?_, fun f hf x hx => ?_⟩
  all_goals
    have hf' : f = funC p a b := by simpa [modC] using hf
    subst hf'
  · exact ⟨by simp [funC], by simp [funC], by simp [funC], by simp [funC]; omega⟩
  · rw [flatsC]
    exact ⟨by simp, fun x hx => by simp at hx; subst hx; show (argC 0 p).length ≤ 100; rw [argC_len]; omega⟩
  · rw [flatsC] at hx
    simp at hx; subst hx
    refine ⟨kindsC p hp a b, by show (argC 0 p).length ≤ 100; rw [argC_len]; omega, fun _ h3 => ?_⟩
    cases b with
    | false => simp [stC, MStmt.b] at h3
    | true => exact ⟨funC p a true, rfl, by show (argC 0 p).length ≤ 7; rw [argC_len]; omega⟩
theorem argsC (p : Nat) (hp : p ≤ 6) (a b : Bool) : argsOk (modC p a b) := by
  intro f hf
  have hf' : f = funC p a b := by simpa [modC] using hf
  subst hf'
  rw [flatsC]
  exact ⟨by simp [big], fun x hx => by simp at hx; subst hx; show (argC 0 p).length < _; rw [argC_len]; omega⟩
theorem consC (p : Nat) (hp : p ≤ 6) (a b : Bool) : ((sysT (modC p a b)).cons.length : Int) = (if b = true then (p : Int) + (if a = true then 1 else 0) else 1) := by
  have h : (sysT (modC p a b)).cons = consT (modC p a b) 0 (stC p a b) := by
    show consFrom (modC p a b) 0 [funC p a b] = _
    simp only [consFrom, flatsC]
    simp
  rw [h]
  refine six (q := fun p => ((consT (modC p a b) 0 (stC p a b)).length : Int) = (if b = true then (p : Int) + (if a = true then 1 else 0) else 1)) ?_ ?_ ?_ ?_ ?_ ?_ ?_ p hp <;> cases a <;> cases b <;> decide +kernel
/-! ### constraints are few -/
theorem consT_args (m : Abs.Mod) (f : Nat) (s : MStmt) (hs : s.args.length ≤ 100) : ∀ c ∈ consT m f s, c.args.length ≤ 100 := by
  have hp : ∀ (l : List Int) (b : Int) (k : Nat), ∀ c ∈ parT m b k l, c.args.length ≤ 100 := by
    intro l b
    induction l with
    | nil => intro k c hc; simp [parT] at hc
    | cons n l ih =>
      intro k c hc
      rw [parT, List.mem_cons] at hc
      rcases hc with rfl | hc
      · simp
      · exact ih _ c hc
  intro c hc
  unfold consT at hc
  repeat' split at hc
  all_goals first
    | (simp at hc; subst hc; simp; try omega)
    | (rcases List.mem_append.1 hc with hc | hc
       · exact hp _ _ _ c hc
       · first
         | (simp at hc; subst hc; simp)
         | (simp at hc))
    | simp at hc
theorem consFrom_len (m : Abs.Mod) : ∀ (fs : List MFun) (f : Nat), (∀ g ∈ fs, (flats 0 0 g.body).length ≤ 1000 ∧ ∀ x ∈ flats 0 0 g.body, x.s.args.length ≤ 100) → (consFrom m f fs).length ≤ fs.length * 102000
  | [], _, _ => by simp [consFrom]
  | g :: r, f, h => by
    have ih := consFrom_len m r (f + 1) fun g hg => h g (by simp [hg])
    obtain ⟨b1, b2⟩ := h g (by simp)
    have hlen : ((flats 0 0 g.body).flatMap fun x => consT m f x.s).length ≤ (flats 0 0 g.body).length * 101 := by
      generalize flats 0 0 g.body = l at b2
      clear b1
      induction l with
      | nil => simp
      | cons x l ih =>
        have h1 := consT_len m f x.s
        have h2 := b2 x (by simp)
        have h3 := ih fun y hy => b2 y (by simp [hy])
        simp only [List.flatMap_cons, List.length_append, List.length_cons]
        omega
    simp only [consFrom, List.length_append, List.length_cons]
    omega
theorem consFrom_args (m : Abs.Mod) : ∀ (fs : List MFun) (f : Nat), (∀ g ∈ fs, ∀ x ∈ flats 0 0 g.body, x.s.args.length ≤ 100) → ∀ c ∈ consFrom m f fs, c.args.length ≤ 100
  | [], _, _, c, hc => by simp [consFrom] at hc
  | g :: r, f, h, c, hc => by
    rw [consFrom, List.mem_append] at hc
    rcases hc with hc | hc
    · obtain ⟨x, hx, hc⟩ := List.mem_flatMap.1 hc
      exact consT_args m f x.s (h g (by simp) x hx) c hc
    · exact consFrom_args m r (f + 1) (fun g hg => h g (by simp [hg])) c hc
theorem sysT_small (m : Abs.Mod) (hg : okG m) : smallS (sysT m) := by
  obtain ⟨hm, hb, hs⟩ := hg
  have h1 := cells_le m hm
  have h2 := consFrom_len m m.funcs 0 hb
  have h3 := hm.2.1
  refine ⟨?_, ?_, fun c hc => ?_, fun c hc => ?_⟩
  · show ((cellsR m).map (cellT m)).length < _; rw [List.length_map]; omega
  · show (consFrom m 0 m.funcs).length < _; omega
  · obtain ⟨t, _, rfl⟩ := List.mem_map.1 hc
    have : (cellT m t).args.length ≤ 100 := by
      unfold cellT
      split
      · show (argsT m t.2.1 0 _).length ≤ 100
        rw [argsT_len]
        split
        · rename_i g hgf
          obtain ⟨n, _, h5, _⟩ := getF_some m hgf
          obtain ⟨q1, _, q3, q4⟩ := hm.2.2 g (List.mem_of_getElem? h5)
          omega
        · omega
      · simp
    omega
  · have := consFrom_args m m.funcs 0 (fun g hg => (hb g hg).2) c hc
    omega

/-! ### awake -/
def modA : Abs.Mod := ⟨[⟨#[103]⟩], [0], [], []⟩
theorem gSystem_core (m : Abs.Mod) (hg : okG m) (hs : m.strings.length ≤ big) (ha : argsOk m) (hc : checkR m = none) : withH true [] (mL m gSystem_0) = some (.ret (.tup [.agg (sysV (sysT m)), .agg (faultV none)]), []) := (gSystem_run ..).symm.trans (gSystem_spec m hg hs ha hc [])
theorem gawake_core : gawake_0 = some (.ret (B true), []) := by
  have hf : ∀ f ∈ modA.funcs, False := fun f hf => by simp [modA] at hf
  have hc : checkR modA = none := by decide +kernel
  have hA := gSystem_core modA ⟨⟨by simp [modA], by simp [modA], fun f h => (hf f h).elim⟩, fun f h => (hf f h).elim, fun f h => (hf f h).elim⟩ (by simp [modA, big]) (fun f h => (hf f h).elim) hc
  rw [gawake_eq, gSystem_v_]
  have hA' : withH true [] (gSystem_0 1 ([F.s (.string ⟨#[103]⟩)]) 1 ([F.s (.int .i64 0)]) 0 ([]) 0 ([])) = _ := hA
  rw [hA', pT_some]
  have e1 : (sysT modA).vars = 1 := by decide +kernel
  have e2 : (sysT modA).cells.length = 1 := by decide +kernel
  simp only [cA, cI, cL, faultV, V.agg?, V.int?, V.lst?, V.f?, F.int?, F.lst?, List.getElem?_cons_zero, List.getElem?_cons_succ, Option.bind_some, if_true, List.length_cons, List.length_nil, e1, e2]
  rfl
theorem gawake_spec (h0 : H) : run w0 8 [] h0 = some (.ret (B true), h0) := by rw [gawake_run, gawake_core, withH_true]
theorem withH_any {X : R} {v : V} (h0 : H) (h : withH true [] X = some (.ret v, [])) : withH true h0 X = some (.ret v, h0) := by
  unfold withH at h ⊢
  split at h
  · simp only [Bool.true_or, if_true] at h ⊢
    cases h; rfl
  · cases h
theorem qSystem_core (m : Abs.Mod) (hg : okG m) : withH true [] (mL m qSystem_0) = some (.ret (.agg (sysV (sysT m))), []) := (qSystem_run ..).symm.trans (qSystem_spec m hg.1 hg.2.1 [])
theorem refs_push (done : List MRef) (x : MRef) : refsF done ++ [F.s (.int .u8 x.k), F.s (.int .i64 x.id)] = refsF (done ++ [x]) := by simp [refsF, MRef.F]
theorem calls_loop (a b : Bool) (p : Nat) (hp : p ≤ 6) (cc : List F) (k1 k2 k3 k4 : Int) : ∀ (n i : Nat) (done : List MRef), i + n = p → done.length = i →
    GenCalls_1 a b p i 8 cc 5 k1 k2 k3 k4 done.length (refsF done) = GenCalls_2 a b p 8 cc 5 k1 k2 k3 k4 (done ++ argC i n).length (refsF (done ++ argC i n))
  | 0, i, done, hi, hl => by
    have hr : (refsF done).length = done.length * 2 := flat_len MRef.F_len done
    rw [GenCalls_1_eq, if_neg (by simp; omega)]
    simp only [Nat.zero_add, List.drop_zero]
    rw [if_pos (by omega), List.take_of_length_le (by omega)]
    simp [argC]
  | n + 1, i, done, hi, hl => by
    have hr : (refsF done).length = done.length * 2 := flat_len MRef.F_len done
    have hr2 : (refsF (done ++ [(⟨1, 6 - (i : Int)⟩ : MRef)])).length = (done.length + 1) * 2 := by rw [flat_len MRef.F_len]; simp
    have ih := calls_loop a b p hp cc k1 k2 k3 k4 n (i + 1) (done ++ [(⟨1, 6 - (i : Int)⟩ : MRef)]) (by omega) (by simp; omega)
    have hpush := refs_push done ⟨1, 6 - (i : Int)⟩
    dsimp only at hpush
    rw [GenCalls_1_eq, if_pos (by simp; omega), wrap_i64 (n := 6 - (i : Int)) (by omega) (by omega), wrap_i64 (n := (i : Int) + 1) (by omega) (by omega), show ((i : Int) + 1) = ((i + 1 : Nat) : Int) by omega]
    simp only [Nat.zero_add, List.drop_zero]
    rw [if_pos ⟨trivial, by omega⟩, if_pos (by omega), List.take_of_length_le (l := refsF done) (by omega), hpush, if_pos (by omega), List.take_of_length_le (by omega)]
    rw [List.length_append, List.length_singleton] at ih
    refine Eq.trans ih ?_
    simp [argC]
theorem stC_F (p : Nat) (a b : Bool) : stmtsF [stC p a b] = [F.s (.int .u8 5), F.s (.int .u8 (stC p a b).a.k), F.s (.int .i64 (stC p a b).a.id), F.s (.int .u8 (stC p a b).b.k), F.s (.int .i64 (stC p a b).b.id), F.lst (argC 0 p).length (refsF (argC 0 p)), F.lst 0 ([])] := by
  have hk : (stC p a b).kind = 5 := rfl
  have ha : (stC p a b).args = argC 0 p := rfl
  have hb : (stC p a b).body = [] := rfl
  rw [show stmtsF [stC p a b] = (stC p a b).F by simp [stmtsF], MStmt.F_eq, hk, ha, hb]
  simp [stmtsF]
theorem funC_F (p : Nat) (a b : Bool) : funsF [funC p a b] = [F.s (.int .i64 0), F.s (.int .i64 p), F.lst 7 ([F.s (.int .i64 1), F.s (.int .i64 2), F.s (.int .i64 3), F.s (.int .i64 4), F.s (.int .i64 5), F.s (.int .i64 6), F.s (.int .i64 7)]), F.lst 0 ([]), F.lst 1 ([F.s (.int .u8 5), F.s (.int .u8 (stC p a b).a.k), F.s (.int .i64 (stC p a b).a.id), F.s (.int .u8 (stC p a b).b.k), F.s (.int .i64 (stC p a b).b.id), F.lst (argC 0 p).length (refsF (argC 0 p)), F.lst 0 ([])])] := by
  rw [show funsF [funC p a b] = (funC p a b).F by simp [funsF]]
  have h := stC_F p a b
  unfold MFun.F
  rw [show (funC p a b).body = [stC p a b] from rfl, h, show (funC p a b).name = 0 from rfl, show (funC p a b).params = (p : Int) from rfl, show (funC p a b).locals = [1, 2, 3, 4, 5, 6, 7] from rfl, show (funC p a b).sites = [] from rfl]
  simp [kF]
theorem mL_C {α : Type} (p : Nat) (a b : Bool) (k : Nat → List F → Nat → List F → Nat → List F → Nat → List F → α) : mL (modC p a b) k = k 8 (sF strC) 0 [] 1 ([F.s (.int .i64 0), F.s (.int .i64 p), F.lst 7 ([F.s (.int .i64 1), F.s (.int .i64 2), F.s (.int .i64 3), F.s (.int .i64 4), F.s (.int .i64 5), F.s (.int .i64 6), F.s (.int .i64 7)]), F.lst 0 ([]), F.lst 1 ([F.s (.int .u8 5), F.s (.int .u8 (stC p a b).a.k), F.s (.int .i64 (stC p a b).a.id), F.s (.int .u8 (stC p a b).b.k), F.s (.int .i64 (stC p a b).b.id), F.lst (argC 0 p).length (refsF (argC 0 p)), F.lst 0 ([])])]) 0 [] := by
  have h : mL (modC p a b) k = k strC.length (sF strC) ([] : List Int).length (kF .i64 []) [funC p a b].length (funsF [funC p a b]) ([] : List Int).length (kF .i64 []) := rfl
  rw [h, funC_F, show strC.length = 8 from rfl]
  simp [kF]
/-- the two calls' answers, wherever -/
theorem gS_C (p : Nat) (hp : p ≤ 6) (a b : Bool) (h0 : H) (X : R) (hX : X = mL (modC p a b) gSystem_0) : withH true h0 X = some (.ret (.tup [.agg (sysV (sysT (modC p a b))), .agg (faultV none)]), h0) := by
  rw [hX]
  have hg := okC p hp a b
  have ha := argsC p hp a b
  have hc := checkC p hp a b
  have hs : (modC p a b).strings.length ≤ big := by show strC.length ≤ big; decide +kernel
  generalize modC p a b = m at hg ha hc hs
  have h := gSystem_core m hg hs ha hc
  exact withH_any h0 h
theorem qS_C (p : Nat) (hp : p ≤ 6) (a b : Bool) (h0 : H) (X : R) (hX : X = mL (modC p a b) qSystem_0) : withH true h0 X = some (.ret (.agg (sysV (sysT (modC p a b)))), h0) := by
  rw [hX]
  have hg := okC p hp a b
  generalize modC p a b = m at hg
  exact withH_any h0 (qSystem_core m hg)
theorem same_C (p : Nat) (hp : p ≤ 6) (a b : Bool) (h0 : H) : run w0 11 [.agg (sysV (sysT (modC p a b))), .agg (sysV (sysT (modC p a b)))] h0 = some (.ret (B true), h0) := by
  have hg := okC p hp a b
  generalize modC p a b = m at hg
  rw [sSame_spec _ _ (sysT_small _ hg) h0]; simp
theorem sf_go (v : Int) (m1 : Nat) (c1 : List F) (m2 : Nat) (c2 : List F) (K : Int → Nat → List F → Nat → List F → Int → Int → Int → Int → Int → Int → Int → R) :
    (cA [V.agg [N .i64 v, .f (.lst m1 c1), .f (.lst m2 c2)], .agg [I 0, I 0, I 0, I 0, I 0, I (-1), I (-1)]] 0 fun l1014 => cI .i64 l1014 0 fun n1015 => cL l1014 1 fun m1016 c1016 => cL l1014 2 fun m1017 c1017 => if l1014.length = 3 then cA [V.agg [N .i64 v, .f (.lst m1 c1), .f (.lst m2 c2)], .agg [I 0, I 0, I 0, I 0, I 0, I (-1), I (-1)]] 1 fun l1018 => cI .i64 l1018 0 fun n1019 => cI .i64 l1018 1 fun n1020 => cI .i64 l1018 2 fun n1021 => cI .i64 l1018 3 fun n1022 => cI .i64 l1018 4 fun n1023 => cI .i64 l1018 5 fun n1024 => cI .i64 l1018 6 fun n1025 => if l1018.length = 7 then if ([V.agg [N .i64 v, .f (.lst m1 c1), .f (.lst m2 c2)], .agg [I 0, I 0, I 0, I 0, I 0, I (-1), I (-1)]] : List V).length = 2 then K n1015 m1016 c1016 m1017 c1017 n1019 n1020 n1021 n1022 n1023 n1024 n1025 else none else none else none) = K v m1 c1 m2 c2 0 0 0 0 0 (-1) (-1) := rfl
theorem calls_fin (a b : Bool) (p : Nat) (hp : p ≤ 6) (k1 k2 k3 k4 : Int) (n : Nat) (c ss : List F) (v : Int) (m1 : Nat) (c1 : List F) (m2 : Nat) (c2 : List F)
    (e1 : ∀ h0 : H, withH true h0 (gSystem_0 8 ss 0 ([]) 1 ([F.s (.int .i64 0), F.s (.int .i64 p), F.lst 7 ([F.s (.int .i64 1), F.s (.int .i64 2), F.s (.int .i64 3), F.s (.int .i64 4), F.s (.int .i64 5), F.s (.int .i64 6), F.s (.int .i64 7)]), F.lst 0 ([]), F.lst 1 ([F.s (.int .u8 5), F.s (.int .u8 k1), F.s (.int .i64 k2), F.s (.int .u8 k3), F.s (.int .i64 k4), F.lst n c, F.lst 0 ([])])]) 0 ([])) = some (.ret (.tup [.agg [N .i64 v, .f (.lst m1 c1), .f (.lst m2 c2)], .agg [I 0, I 0, I 0, I 0, I 0, I (-1), I (-1)]]), h0))
    (e2 : ∀ h0 : H, withH true h0 (qSystem_0 8 ss 0 ([]) 1 ([F.s (.int .i64 0), F.s (.int .i64 p), F.lst 7 ([F.s (.int .i64 1), F.s (.int .i64 2), F.s (.int .i64 3), F.s (.int .i64 4), F.s (.int .i64 5), F.s (.int .i64 6), F.s (.int .i64 7)]), F.lst 0 ([]), F.lst 1 ([F.s (.int .u8 5), F.s (.int .u8 k1), F.s (.int .i64 k2), F.s (.int .u8 k3), F.s (.int .i64 k4), F.lst n c, F.lst 0 ([])])]) 0 ([])) = some (.ret (.agg [N .i64 v, .f (.lst m1 c1), .f (.lst m2 c2)]), h0))
    (hs : ∀ h0 : H, run w0 11 [.agg [N .i64 v, .f (.lst m1 c1), .f (.lst m2 c2)], .agg [N .i64 v, .f (.lst m1 c1), .f (.lst m2 c2)]] h0 = some (.ret (B true), h0))
    (hn : (m2 : Int) = if b = true then (p : Int) + (if a = true then 1 else 0) else 1) : GenCalls_2 a b p 8 ss 5 k1 k2 k3 k4 n c = some (.ret (B true), []) := by
  rw [GenCalls_2_eq, gSystem_v_c4c7, e1, pT_some, sf_go]
  rw [wrap_i64 (by omega) (by omega)]
  cases b
  · rw [if_neg (by simp), if_pos (by rfl), if_pos (by simpa using hn), qSystem_v_c4c7c3c7, e2, pA_some]
    simp only [cI, cL, V.int?, V.lst?, V.f?, F.int?, F.lst?, if_true, List.length_cons, List.length_nil, Option.bind_some, List.getElem?_cons_zero, List.getElem?_cons_succ, hs, pB_some]
  · rw [if_pos rfl]
    cases a
    · rw [if_neg (by simp), if_pos (by rfl), if_pos (by simpa using hn), qSystem_v_c4c7c3c7, e2, pA_some]
      simp only [cI, cL, V.int?, V.lst?, V.f?, F.int?, F.lst?, if_true, List.length_cons, List.length_nil, Option.bind_some, List.getElem?_cons_zero, List.getElem?_cons_succ, hs, pB_some]
    · rw [if_pos rfl, if_pos (by rfl), if_pos (by simpa using hn), qSystem_v_c4c7c3c7, e2, pA_some]
      simp only [cI, cL, V.int?, V.lst?, V.f?, F.int?, F.lst?, if_true, List.length_cons, List.length_nil, Option.bind_some, List.getElem?_cons_zero, List.getElem?_cons_succ, hs, pB_some]
theorem calls_end (p : Nat) (hp : p ≤ 6) (a b : Bool) : GenCalls_2 a b p 8 (sF strC) 5 (stC p a b).a.k (stC p a b).a.id (stC p a b).b.k (stC p a b).b.id (argC 0 p).length (refsF (argC 0 p)) = some (.ret (B true), []) := by
  have hn := consC p hp a b
  have h1 := fun h0 => gS_C p hp a b h0 _ (mL_C p a b gSystem_0).symm
  have h2 := fun h0 => qS_C p hp a b h0 _ (mL_C p a b qSystem_0).symm
  have h3 := same_C p hp a b
  generalize sysT (modC p a b) = S at hn h1 h2 h3
  exact calls_fin a b p hp _ _ _ _ _ _ _ _ _ _ _ _ h1 h2 h3 hn
theorem GenCalls_law (u : Nat) (hu : u < 256) (a b : Bool) : GenCalls_0 u a b = some (.ret (B true), []) := by
  have hm : Int.tmod (u : Int) 7 = ((u % 7 : Nat) : Int) := rfl
  have hp : u % 7 ≤ 6 := by omega
  rw [GenCalls_eq, gawake_spec, pB_some, if_neg (by simp), hm, wrap_i64 (by omega) (by omega)]
  generalize u % 7 = p at hp
  have fin : ∀ k1 k2 k3 k4 : Int, (stC p a b).a.k = k1 → (stC p a b).a.id = k2 → (stC p a b).b.k = k3 → (stC p a b).b.id = k4 → GenCalls_1 a b p 0 8 (sF strC) 5 k1 k2 k3 k4 0 [] = some (.ret (B true), []) := by
    intro k1 k2 k3 k4 e1 e2 e3 e4
    have h := calls_loop a b p hp (sF strC) k1 k2 k3 k4 p 0 [] (by omega) rfl
    have h' : GenCalls_1 a b p 0 8 (sF strC) 5 k1 k2 k3 k4 0 [] = _ := h
    have he := calls_end p hp a b
    rw [e1, e2, e3, e4] at he
    rw [h', List.nil_append]
    exact he
  cases b
  · rw [if_neg (by simp)]
    cases a
    · rw [if_neg (by simp)]; exact fin 0 0 1 6 (by simp [stC, MStmt.a]) (by simp [stC, MStmt.a]) (by simp [stC, MStmt.b]) (by simp [stC, MStmt.b])
    · rw [if_pos rfl]; exact fin 1 5 1 6 (by simp [stC, MStmt.a]) (by simp [stC, MStmt.a]) (by simp [stC, MStmt.b]) (by simp [stC, MStmt.b])
  · rw [if_pos rfl]
    cases a
    · rw [if_neg (by simp)]; exact fin 0 0 3 0 (by simp [stC, MStmt.a]) (by simp [stC, MStmt.a]) (by simp [stC, MStmt.b]) (by simp [stC, MStmt.b])
    · rw [if_pos rfl]; exact fin 1 5 3 0 (by simp [stC, MStmt.a]) (by simp [stC, MStmt.a]) (by simp [stC, MStmt.b]) (by simp [stC, MStmt.b])
set_option maxRecDepth 100000 in
theorem GenCalls_all (l : List (List F)) (h : Args Try.prog Try.f6.params.toList l) : ∃ h', run w0 6 (argVs Try.prog Try.f6.params.toList l) [] = some (.ret (B true), h') := by
  obtain ⟨x1, l1, rfl, h1, h⟩ := h.cons_inv
  obtain ⟨x2, l2, rfl, h2, h⟩ := h.cons_inv
  obtain ⟨x3, l3, rfl, h3, h⟩ := h.cons_inv
  obtain rfl := h.nil_inv
  obtain ⟨n, rfl, hn⟩ := h1.of_int (k := .u8) (by kernel_rfl)
  obtain ⟨b2, rfl⟩ := h2.of_bool (by kernel_rfl)
  obtain ⟨b3, rfl⟩ := h3.of_bool (by kernel_rfl)
  obtain ⟨n, rfl, hn'⟩ := wf_u8 hn
  have h : run w0 6 [N .u8 n, B b2, B b3] [] = some (.ret (B true), []) := by rw [GenCalls_run, GenCalls_law n hn' b2 b3, withH_true]
  exact ⟨[], h⟩
end Go.Proofs.Ytlddnplflakmiaa
