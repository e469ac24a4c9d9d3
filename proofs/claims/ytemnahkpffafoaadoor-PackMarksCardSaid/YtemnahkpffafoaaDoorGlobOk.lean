/-
  The table of sums, as it lies.
-/
import Derived.Test.YtemnahkpffafoaaDoorSumSpec
import Derived.Test.YtemnahkpffafoaaDoorAbsArgs
import Derived.Test.YtemnahkpffafoaaDoorRows
import Derived.ProofKit
import Derived.LaidMore
import Derived.OpenShut
import Derived.MakeChecks
set_option autoImplicit false
set_option linter.unusedVariables false
set_option linter.unusedSimpArgs false
namespace Go.Proofs.YtemnahkpffafoaaDoor
open Go Go.Abs
/-! ### the table -/
theorem gLines : Tryd.prog.globalNamed "weathervane/sum.lines" = some 0 := by kernel_rfl
theorem tLines : (Tryd.prog.globals[0]?).map (·.type) = some 116 := by kernel_rfl
theorem fcells_of {ro : Ro} {cs : Array Value} {g : Nat} (hc : ∀ i : Nat, ro g i = cs[i]?) : ∀ (L : List Int) (k : Nat), (∀ i, i < L.length → cs[k + i]? = (L[i]?).map (Value.int .u32)) → FCells ro (L.map fun n => F.s (.int .u32 n)) g k
  | [], _, _ => trivial
  | n :: L, k, h => ⟨⟨.int .u32 n, by rw [hc]; simpa using h 0 (by simp), rfl, rfl⟩, fcells_of hc L (k + 1) fun i hi => by
      have := h (i + 1) (by simpa using hi)
      rw [show k + 1 + i = k + (i + 1) by omega]; simpa using this⟩
theorem glob_ok {W : World} (h : laidMetH Tryd.prog [("weathervane/sum.lines", Rows.laid_weathervane_sum_lines)] W) : GOk (roOf W) := by
  rw [MakeChecks.laidMetH_plain _ _ _ (by kernel_rfl)] at h
  obtain ⟨ps, ⟨g0, t0, cs0, f0, p0, q0, hg0, ht0, hv0, hd0, _, _⟩, _, _⟩ := h
  obtain rfl := Option.some.inj (gLines.symm.trans hg0)
  obtain rfl := Option.some.inj (tLines.symm.trans ht0)
  have cE : Tryd.prog.cellsOf 78 = 1 := by kernel_rfl
  obtain ⟨xs, m, rfl, hx, hlen, hn, hel⟩ := DataW.trod_array (n := 16) (e := 78) (by kernel_rfl) hd0
  rw [cE] at hel
  have hx1 : xs.map (·.1) = tabT.map fun n : Nat => DataW.lit (.int .u32 (n : Int)) := by
    have := (Prod.mk.inj hx).1
    exact (DataW.agg.inj this).symm
  have key : ∀ i, i < 16 → cs0[i]? = (tabT[i]?).map fun n : Nat => Value.int .u32 (n : Int) := by
    intro i hi
    have h1 := hel i hi
    have hxi : xs[i]? = some xs[i] := List.getElem?_eq_getElem (by omega)
    rw [hxi] at h1
    obtain ⟨k, e1, e2, _⟩ := DataW.trod_int (k := .u32) (by kernel_rfl) h1
    have h2 : (xs.map (·.1))[i]? = some (.lit (.int .u32 k)) := by rw [List.getElem?_map, hxi, e2]; rfl
    rw [hx1, List.getElem?_map] at h2
    have h3 : cs0[i]? = some (.int .u32 k) := by
      have : (cs0.toList.drop i)[0]? = some (.int .u32 k) := by
        rw [Nat.mul_one] at e1
        have := congrArg (fun l => l[0]?) e1
        simpa using this
      simpa using this
    rw [h3]
    cases ht : tabT[i]? with
    | none => rw [ht] at h2; cases h2
    | some n => rw [ht] at h2; simp at h2; simp [h2]
  intro g cs e
  cases g with
  | succ g => cases e
  | zero =>
    have e' : linesT = cs := Option.some.inj e
    subst e'
    rw [linesT_eq]
    have := fcells_of (ro := roOf W) (cs := cs0) (g := 0) (fun i => World.var?_cell gLines hv0 i) (tabT.map fun n : Nat => (n : Int)) 0 (fun i hi => by
      rw [Nat.zero_add, key i (by simpa [tabT] using hi), List.getElem?_map]
      cases tabT[i]? <;> rfl)
    rw [List.map_map] at this
    exact this
end Go.Proofs.YtemnahkpffafoaaDoor
