/-
  The program's own constraints of a statement: they are the document's.
-/
import Derived.Test.YtlddnplflakmiaaGenSpec4
set_option autoImplicit false
set_option linter.unusedVariables false
set_option linter.unusedSimpArgs false
namespace Go.Proofs.Ytlddnplflakmiaa
open Go Go.Abs
section
variable (m : Mod) (hm : okM m)
def gVarP (m : Mod) (fn : Int) (r : MRef) : Int := if r.k = 1 ∨ r.k = 2 then posAt (ofR fn r) 0 (varsR m) else -1
abbrev mapL (m : Mod) {α : Type} (k : Nat → List F → Nat → List F → Nat → List F → Nat → List F → Nat → List F → Nat → List F → Int → Int → α) : α := k m.strings.length (sF m.strings) m.globals.length (kF .i64 m.globals) m.funcs.length (funsF m.funcs) m.entries.length (kF .i64 m.entries) (firstsR m).length (kF .i64 (firstsR m)) (firstsR m).length (kF .i64 (firstsR m)) (allR m) (allR m)
include hm in
theorem gmVar_one (fn : Int) (id : Int) (h0 : H) : (pB (run w0 39 [.agg (mapV m), I fn] h0) fun b23 => if b23 = true then if (decide (id ≥ 0)) = true then elem (.lst m.funcs.length (funsF m.funcs)) fn 5 fun c24 => atL (c24.drop 2) 0 fun m25 c25 => if (decide (id < ((m25 : Nat) : Int))) = true then elem (.lst (firstsR m).length (kF .i64 (firstsR m))) fn 1 fun c26 => atI .i64 c26 0 fun n27 => some (.ret (N .i64 (IntKind.wrap .i64 (n27 + id))), ([] : H)) else some (.ret (N .i64 (-1)), []) else some (.ret (N .i64 (-1)), []) else some (.ret (N .i64 (-1)), [])) = some (.ret (I (posAt (1, fn, id) 0 (varsR m))), []) := by
  rw [gmin_spec, pB_some, vars_pos m 1 fn id (by omega)]
  cases hg : getF m fn with
  | none => rw [if_neg (by simp)]
  | some g =>
    obtain ⟨n, rfl, h1, h2⟩ := getF_some m hg
    have := first_le m hm (Nat.le_of_lt h2)
    obtain ⟨k1, k2, _⟩ := hm.2.2 g (List.mem_of_getElem? h1)
    rw [if_pos (by simp)]
    dsimp only
    by_cases hj : 0 ≤ id
    · rw [if_pos (by simpa using hj), fun_l h1]
      by_cases hl : id < g.locals.length
      · have e : inV g 1 id = id := by unfold inV; rw [if_pos (by omega)]
        rw [if_pos (by simpa using hl), first_at m h2, wrap_i64 (by omega) (by omega), e, if_pos hj, Int.toNat_natCast]
      · have e : inV g 1 id = -1 := by unfold inV; rw [if_neg (by omega), if_neg (by omega), if_neg (by omega)]
        rw [if_neg (by simpa using hl), e, if_neg (by omega)]
    · have e : inV g 1 id = -1 := by unfold inV; rw [if_neg (by omega), if_neg (by omega), if_neg (by omega)]
      rw [if_neg (by simpa using hj), e, if_neg (by omega)]
include hm in
theorem gmVar_spec (fn : Int) (r : MRef) (h0 : H) : run w0 22 [.agg (mapV m), I fn, .agg (refV r)] h0 = some (.ret (I (gVarP m fn r)), h0) := by
  rw [gmVar_run, gmVar_eq]
  by_cases k2 : r.k = 2
  · have hof : ofR fn r = (2, 0, r.id) := if_pos k2
    have hv : gVarP m fn r = posAt (ofR fn r) 0 (varsR m) := if_pos (.inr k2)
    rw [hv, hof, vars_posG, if_pos (by simp [k2])]
    by_cases h1 : 0 ≤ r.id
    · rw [if_pos (by simpa using h1)]
      by_cases h2 : r.id < m.globals.length
      · rw [if_pos (by simpa using h2), withH_true, if_pos ⟨h1, h2⟩]
      · rw [if_neg (by simpa using h2), if_neg (by simp [k2]), withH_true, if_neg (fun h => h2 h.2)]
    · rw [if_neg (by simpa using h1), if_neg (by simp [k2]), withH_true, if_neg (fun h => h1 h.1)]
  · rw [if_neg (by simpa using k2)]
    by_cases k1 : r.k = 1
    · have hof : ofR fn r = (1, fn, r.id) := by unfold ofR; rw [if_neg k2, if_neg (by omega), k1]
      have hv : gVarP m fn r = posAt (ofR fn r) 0 (varsR m) := if_pos (.inl k1)
      rw [hv, hof, if_pos (by simp [k1])]
      refine (congrArg (withH true h0) (gmVar_one m hm fn r.id _)).trans ?_
      rw [withH_true]
    · have hv : gVarP m fn r = -1 := if_neg (by omega)
      rw [hv, if_neg (by simpa using k1), withH_true]
include hm in
theorem gmObject_spec (fn : Int) (r : MRef) (h0 : H) : run w0 23 [.agg (mapV m), I fn, .agg (refV r)] h0 = some (.ret (I (posAt (ofR fn r) 0 (cellsR m))), h0) := by
  rw [gmObject_run, gmObject_eq]
  by_cases k3 : r.k = 3
  · have hof : ofR fn r = (3, r.id, 0) := by unfold ofR; rw [if_neg (by omega), if_pos k3]
    rw [if_pos (by simp [k3]), hof, cells_pos m 3 _ _ (by omega), gmin_spec, pB_some]
    cases hg : getF m r.id with
    | none => rw [if_neg (by simp), withH_true]
    | some g =>
      obtain ⟨n, hn, h1, h2⟩ := getF_some m hg
      rw [if_pos (by simp), hn, first_at m h2, withH_true]
      simp [inC]
  · rw [if_neg (by simpa using k3)]
    by_cases k4 : r.k = 4
    · have hof : ofR fn r = (4, fn, r.id) := by unfold ofR; rw [if_neg (by omega), if_neg (by omega), k4]
      rw [if_pos (by simp [k4]), hof, gmContent_spec m hm, pI_some, cells_pos m 4 _ _ (by omega), vars_pos m 4 _ _ (by omega)]
      cases hg : getF m fn with
      | none => rw [if_neg (by simp), withH_true]
      | some g =>
        obtain ⟨n, rfl, h1, h2⟩ := getF_some m hg
        have := first_le m hm (Nat.le_of_lt h2)
        obtain ⟨q1, q2, _⟩ := hm.2.2 g (List.mem_of_getElem? h1)
        dsimp only
        by_cases hs : 0 ≤ r.id ∧ r.id < g.sites.length
        · have e1 : inV g 4 r.id = g.locals.length + 1 + r.id := by unfold inV; rw [if_neg (by omega), if_neg (by omega), if_pos ⟨rfl, hs⟩]
          have e2 : inC g 4 r.id = 1 + g.locals.length + r.id := by unfold inC; rw [if_neg (by omega), if_neg (by omega), if_pos ⟨rfl, hs⟩]
          simp only [e1, e2]
          rw [if_pos (show (0 : Int) ≤ g.locals.length + 1 + r.id by omega), if_pos (by simp; omega), first_at m h2, fun_l h1, wrap_i64 (n := (firstR m n : Int) + 1) (by omega) (by omega), wrap_i64 (n := (firstR m n : Int) + 1 + g.locals.length) (by omega) (by omega), wrap_i64 (by omega) (by omega), withH_true, if_pos (by omega), Int.toNat_natCast]
          congr 4; omega
        · have e1 : inV g 4 r.id = -1 := by unfold inV; rw [if_neg (by omega), if_neg (by omega), if_neg (fun h => hs h.2)]
          have e2 : inC g 4 r.id = -1 := by unfold inC; rw [if_neg (by omega), if_neg (by omega), if_neg (fun h => hs h.2)]
          simp only [e1, e2, show ¬ ((0 : Int) ≤ -1) by omega, if_false]
          rw [if_neg (by simp), withH_true]
    · rw [if_neg (by simpa using k4)]
      by_cases k2 : r.k = 2
      · have hof : ofR fn r = (2, 0, r.id) := if_pos k2
        have hv : gVarP m fn r = posAt (ofR fn r) 0 (varsR m) := if_pos (.inr k2)
        rw [if_pos (by simp [k2]), gmVar_spec m hm fn r, pI_some, withH_true, hv, hof, vars_posG, cells_posG]
      · rw [if_neg (by simpa using k2)]
        by_cases k1 : r.k = 1
        · have hof : ofR fn r = (1, fn, r.id) := by unfold ofR; rw [if_neg k2, if_neg k3, k1]
          have hv : gVarP m fn r = posAt (ofR fn r) 0 (varsR m) := if_pos (.inl k1)
          rw [if_pos (by simp [k1]), gmVar_spec m hm fn r, pI_some, hv, hof, cells_pos m 1 _ _ (by omega), vars_pos m 1 _ _ (by omega)]
          cases hg : getF m fn with
          | none => rw [if_neg (by simp), withH_true]
          | some g =>
            obtain ⟨n, rfl, h1, h2⟩ := getF_some m hg
            have := first_le m hm (Nat.le_of_lt h2)
            obtain ⟨q1, q2, _⟩ := hm.2.2 g (List.mem_of_getElem? h1)
            dsimp only
            by_cases hs : 0 ≤ r.id ∧ r.id < g.locals.length
            · have e1 : inV g 1 r.id = r.id := by unfold inV; rw [if_pos ⟨rfl, hs⟩]
              have e2 : inC g 1 r.id = 1 + r.id := by unfold inC; rw [if_neg (by omega), if_pos ⟨rfl, hs⟩]
              simp only [e1, e2]
              rw [if_pos hs.1, if_pos (by simp; omega), first_at m h2, wrap_i64 (n := (firstR m n : Int) + 1) (by omega) (by omega), wrap_i64 (by omega) (by omega), withH_true, if_pos (by omega), Int.toNat_natCast]
              congr 4; omega
            · have e1 : inV g 1 r.id = -1 := by unfold inV; rw [if_neg (fun h => hs h.2), if_neg (by omega), if_neg (by omega)]
              have e2 : inC g 1 r.id = -1 := by unfold inC; rw [if_neg (by omega), if_neg (fun h => hs h.2), if_neg (by omega)]
              simp only [e1, e2, show ¬ ((0 : Int) ≤ -1) by omega, if_false]
              rw [if_neg (by simp), withH_true]
        · have hof : ofR fn r = (r.k, fn, r.id) := by unfold ofR; rw [if_neg k2, if_neg k3]
          rw [if_neg (by simpa using k1), withH_true, hof, cells_pos m r.k _ _ k2]
          cases getF m fn with
          | none => rfl
          | some g =>
            have e2 : inC g r.k r.id = -1 := by unfold inC; rw [if_neg (by omega), if_neg (by omega), if_neg (by omega)]
            dsimp only
            rw [e2, if_neg (by omega)]
end
end Go.Proofs.Ytlddnplflakmiaa
