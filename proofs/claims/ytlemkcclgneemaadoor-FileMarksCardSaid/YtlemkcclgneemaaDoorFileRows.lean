/-
  The laws of the file, of all arguments of their types; the table of sums, as it lies.
-/
import Derived.Test.YtlemkcclgneemaaDoorFileLaws
import Derived.Test.YtlemkcclgneemaaDoorAbsArgs
import Derived.Test.YtlemkcclgneemaaDoorRows
import Derived.ProofKit
import Derived.LaidMore
import Derived.OpenShut
import Derived.MakeChecks
set_option autoImplicit false
set_option linter.unusedVariables false
set_option linter.unusedSimpArgs false
namespace Go.Proofs.YtlemkcclgneemaaDoor
open Go Go.Abs

theorem maxLen_small : maxLen < 9223372036854775808 := by decide
theorem byte_of {p : List F} (h : Ty Tryd.prog 5 p) : ∃ n : Int, p = [.s (.int .u8 n)] ∧ byteI n := by
  obtain ⟨n, rfl, hn⟩ := h.of_int (k := .u8) (by kernel_rfl)
  obtain ⟨n, rfl, hn'⟩ := wf_u8 hn
  exact ⟨n, rfl, by unfold byteI; omega⟩
theorem act_of {p : List F} (h : Ty Tryd.prog 51 p) : ∃ q : Quad, p = q.F ∧ okQ q := by
  obtain ⟨parts, rfl, ha⟩ := h.struct_args (ts := [5, 5, 5, 5]) (by kernel_rfl)
  obtain ⟨x1, l1, rfl, h1, ha⟩ := ha.cons_inv
  obtain ⟨x2, l2, rfl, h2, ha⟩ := ha.cons_inv
  obtain ⟨x3, l3, rfl, h3, ha⟩ := ha.cons_inv
  obtain ⟨x4, l4, rfl, h4, ha⟩ := ha.cons_inv
  obtain rfl := ha.nil_inv
  obtain ⟨n1, rfl, k1⟩ := byte_of h1
  obtain ⟨n2, rfl, k2⟩ := byte_of h2
  obtain ⟨n3, rfl, k3⟩ := byte_of h3
  obtain ⟨n4, rfl, k4⟩ := byte_of h4
  exact ⟨(n1, n2, n3, n4), rfl, k1, k2, k3, k4⟩
theorem draft_of {p : List F} (h : Ty Tryd.prog 24 p) : ∃ (d1 d2 : Int) (acts : List Quad), p = [.s (.int .u8 d1), .s (.int .u8 d2), .lst acts.length (quadsF acts)] ∧ byteI d1 ∧ byteI d2 ∧ (∀ q ∈ acts, okQ q) ∧ acts.length < 9223372036854775808 := by
  obtain ⟨parts, rfl, ha⟩ := h.struct_args (ts := [5, 5, 22]) (by kernel_rfl)
  obtain ⟨x1, l1, rfl, h1, ha⟩ := ha.cons_inv
  obtain ⟨x2, l2, rfl, h2, ha⟩ := ha.cons_inv
  obtain ⟨x3, l3, rfl, h3, ha⟩ := ha.cons_inv
  obtain rfl := ha.nil_inv
  obtain ⟨n1, rfl, k1⟩ := byte_of h1
  obtain ⟨n2, rfl, k2⟩ := byte_of h2
  obtain ⟨acts, rfl, hl, ho⟩ := h3.slice_of (e := 51) (f := Quad.F) (ok := okQ) (by kernel_rfl) fun p hp => act_of hp
  have := maxLen_small
  exact ⟨n1, n2, acts, rfl, k1, k2, ho, by omega⟩
theorem int_of {p : List F} (h : Ty Tryd.prog 3 p) : ∃ n : Int, p = [.s (.int .i64 n)] := by
  obtain ⟨n, rfl, hn⟩ := h.of_int (k := .i64) (by kernel_rfl)
  exact ⟨n, rfl⟩
theorem ints_of {p : List F} (h : Ty Tryd.prog 47 p) : ∃ l : List Int, p = [.lst l.length (kF .i64 l)] ∧ l.length < 9223372036854775808 := by
  obtain ⟨l, rfl, hl, _⟩ := h.of_ints (e := 3) (k := .i64) (by kernel_rfl) (by kernel_rfl)
  have := maxLen_small
  exact ⟨l, rfl, by omega⟩
theorem cell_of {p : List F} (h : Ty Tryd.prog 49 p) : ∃ c : MCell, p = c.F ∧ c.args.length < 9223372036854775808 := by
  obtain ⟨parts, rfl, ha⟩ := h.struct_args (ts := [4, 3, 47]) (by kernel_rfl)
  obtain ⟨x1, l1, rfl, h1, ha⟩ := ha.cons_inv
  obtain ⟨x2, l2, rfl, h2, ha⟩ := ha.cons_inv
  obtain ⟨x3, l3, rfl, h3, ha⟩ := ha.cons_inv
  obtain rfl := ha.nil_inv
  obtain ⟨b, rfl⟩ := h1.of_bool (by kernel_rfl)
  obtain ⟨n, rfl⟩ := int_of h2
  obtain ⟨l, rfl, hl⟩ := ints_of h3
  exact ⟨⟨b, n, l⟩, rfl, hl⟩
theorem con_of {p : List F} (h : Ty Tryd.prog 53 p) : ∃ c : MCon, p = c.F ∧ c.args.length < 9223372036854775808 := by
  obtain ⟨parts, rfl, ha⟩ := h.struct_args (ts := [5, 3, 3, 47]) (by kernel_rfl)
  obtain ⟨x1, l1, rfl, h1, ha⟩ := ha.cons_inv
  obtain ⟨x2, l2, rfl, h2, ha⟩ := ha.cons_inv
  obtain ⟨x3, l3, rfl, h3, ha⟩ := ha.cons_inv
  obtain ⟨x4, l4, rfl, h4, ha⟩ := ha.cons_inv
  obtain rfl := ha.nil_inv
  obtain ⟨k, rfl, _⟩ := byte_of h1
  obtain ⟨a, rfl⟩ := int_of h2
  obtain ⟨b, rfl⟩ := int_of h3
  obtain ⟨l, rfl, hl⟩ := ints_of h4
  exact ⟨⟨k, a, b, l⟩, rfl, hl⟩
theorem system_of {p : List F} (h : Ty Tryd.prog 29 p) : ∃ s : MSys, p = [.s (.int .i64 s.vars), .lst s.cells.length (cellsF s.cells), .lst s.cons.length (consF s.cons)] ∧ smallS s := by
  obtain ⟨parts, rfl, ha⟩ := h.struct_args (ts := [3, 26, 27]) (by kernel_rfl)
  obtain ⟨x1, l1, rfl, h1, ha⟩ := ha.cons_inv
  obtain ⟨x2, l2, rfl, h2, ha⟩ := ha.cons_inv
  obtain ⟨x3, l3, rfl, h3, ha⟩ := ha.cons_inv
  obtain rfl := ha.nil_inv
  obtain ⟨n, rfl⟩ := int_of h1
  obtain ⟨cells, rfl, hl, ho⟩ := h2.slice_of (e := 49) (f := MCell.F) (by kernel_rfl) fun p hp => cell_of hp
  obtain ⟨cons, rfl, hl2, ho2⟩ := h3.slice_of (e := 53) (f := MCon.F) (by kernel_rfl) fun p hp => con_of hp
  have := maxLen_small
  exact ⟨⟨n, cells, cons⟩, rfl, by dsimp only; omega, by dsimp only; omega, ho, ho2⟩
theorem FileBytes_all (l : List (List F)) (h : Args Tryd.prog Tryd.f3.params.toList l) : ∃ h', run w0 3 (argVs Tryd.prog Tryd.f3.params.toList l) [] = some (.ret (B true), h') := by
  obtain ⟨x1, l1, rfl, h1, h⟩ := h.cons_inv
  obtain rfl := h.nil_inv
  obtain ⟨d1, d2, acts, rfl, k1, k2, ho, hl⟩ := draft_of h1
  exact ⟨_, (FileBytes_run d1 d2 acts.length (quadsF acts) []).trans ((congrArg (withH true []) (FileBytes_law d1 d2 k1 k2 acts ho hl)).trans (withH_true _ _ _))⟩
theorem FileRaw_all (l : List (List F)) (h : Args Tryd.prog Tryd.f4.params.toList l) : ∃ h', run w0 4 (argVs Tryd.prog Tryd.f4.params.toList l) [] = some (.ret (B true), h') := by
  obtain ⟨x1, l1, rfl, h1, h⟩ := h.cons_inv
  obtain rfl := h.nil_inv
  obtain ⟨s, rfl, hs⟩ := system_of h1
  exact ⟨_, (FileRaw_run s.vars s.cells.length (cellsF s.cells) s.cons.length (consF s.cons) []).trans ((congrArg (withH true []) (FileRaw_law s hs)).trans (withH_true _ _ _))⟩
theorem FileApart_all (l : List (List F)) (h : Args Tryd.prog Tryd.f6.params.toList l) : ∃ h', run w0 6 (argVs Tryd.prog Tryd.f6.params.toList l) [] = some (.ret (B true), h') := by
  obtain ⟨x1, l1, rfl, h1, h⟩ := h.cons_inv
  obtain ⟨x2, l2, rfl, h2, h⟩ := h.cons_inv
  obtain ⟨x3, l3, rfl, h3, h⟩ := h.cons_inv
  obtain rfl := h.nil_inv
  obtain ⟨d1, d2, acts, rfl, k1, k2, ho, hl⟩ := draft_of h1
  obtain ⟨e1, e2, acts', rfl, k3, k4, ho', hl'⟩ := draft_of h2
  obtain ⟨b, rfl⟩ := h3.of_bool (by kernel_rfl)
  exact ⟨_, (FileApart_run d1 d2 acts.length (quadsF acts) e1 e2 acts'.length (quadsF acts') b []).trans ((congrArg (withH true []) (FileApart_law d1 d2 k1 k2 acts ho hl e1 e2 k3 k4 acts' ho' hl' b)).trans (withH_true _ _ _))⟩
theorem FileReads_all (l : List (List F)) (h : Args Tryd.prog Tryd.f5.params.toList l) : ∃ h', run w0 5 (argVs Tryd.prog Tryd.f5.params.toList l) [] = some (.ret (B true), h') := by
  obtain ⟨x1, l1, rfl, h1, h⟩ := h.cons_inv
  obtain ⟨x2, l2, rfl, h2, h⟩ := h.cons_inv
  obtain ⟨x3, l3, rfl, h3, h⟩ := h.cons_inv
  obtain ⟨x4, l4, rfl, h4, h⟩ := h.cons_inv
  obtain ⟨x5, l5, rfl, h5, h⟩ := h.cons_inv
  obtain ⟨x6, l6, rfl, h6, h⟩ := h.cons_inv
  obtain rfl := h.nil_inv
  obtain ⟨raw, rfl, _⟩ : ∃ raw : List UInt8, x1 = [.lst raw.length (bF raw)] ∧ True := by
    obtain ⟨raw, hr, _⟩ := h1.slice_of (e := 5) (f := fun x : UInt8 => [F.s (.int .u8 (x.toNat : Nat))]) (ok := fun _ => True) (by kernel_rfl) fun p hp => by
      obtain ⟨n, rfl, hn⟩ := byte_of hp
      unfold byteI at hn
      exact ⟨UInt8.ofNat n.toNat, by simp; omega, trivial⟩
    refine ⟨raw, ?_, trivial⟩
    rw [hr]
    simp [bF, List.map_eq_flatMap]
  obtain ⟨d1, d2, acts, rfl, k1, k2, ho, hl⟩ := draft_of h2
  obtain ⟨n3, rfl, hn3⟩ := h3.of_int (k := .u16) (by kernel_rfl)
  obtain ⟨n3, rfl, hu3⟩ := wf_u16 hn3
  obtain ⟨n4, rfl, k4⟩ := byte_of h4
  obtain ⟨n5, rfl, hn5⟩ := h5.of_int (k := .u16) (by kernel_rfl)
  obtain ⟨n5, rfl, hu5⟩ := wf_u16 hn5
  obtain ⟨b, rfl⟩ := h6.of_bool (by kernel_rfl)
  exact ⟨_, (FileReads_run raw.length (bF raw) d1 d2 acts.length (quadsF acts) n3 n4 n5 b []).trans ((congrArg (withH true []) (FileReads_law raw d1 d2 k1 k2 acts ho hl n3 n4 n5 (by omega) k4 (by omega) b)).trans (withH_true _ _ _))⟩

/-! ### the table -/
theorem gLines : Tryd.prog.globalNamed "weathervane/sum.lines" = some 0 := by kernel_rfl
theorem tLines : (Tryd.prog.globals[0]?).map (·.type) = some 79 := by kernel_rfl
theorem fcells_of {ro : Ro} {cs : Array Value} {g : Nat} (hc : ∀ i : Nat, ro g i = cs[i]?) : ∀ (L : List Int) (k : Nat), (∀ i, i < L.length → cs[k + i]? = (L[i]?).map (Value.int .u32)) → FCells ro (L.map fun n => F.s (.int .u32 n)) g k
  | [], _, _ => trivial
  | n :: L, k, h => ⟨⟨.int .u32 n, by rw [hc]; simpa using h 0 (by simp), rfl, rfl⟩, fcells_of hc L (k + 1) fun i hi => by
      have := h (i + 1) (by simpa using hi)
      rw [show k + 1 + i = k + (i + 1) by omega]; simpa using this⟩
theorem glob_ok {W : World} (h : laidMetH Tryd.prog [("weathervane/sum.lines", Rows.laid_weathervane_sum_lines)] W) : GOk (roOf W) := by
  rw [MakeChecks.laidMetH_plain _ _ _ (by kernel_rfl)] at h
  obtain ⟨ps, ⟨g0, t0, cs0, f0, p0, q0, hg0, ht0, hv0, hd0, _, _⟩, _, _⟩ := h
  obtain rfl := Option.some.inj (gLines.symm.trans hg0)
  obtain rfl := Option.some.inj (tLines.symm.trans ht0)
  have c61 : Tryd.prog.cellsOf 61 = 1 := by kernel_rfl
  obtain ⟨xs, m, rfl, hx, hlen, hn, hel⟩ := DataW.trod_array (n := 16) (e := 61) (by kernel_rfl) hd0
  rw [c61] at hel
  have hx1 : xs.map (·.1) = tabT.map fun n : Nat => DataW.lit (.int .u32 (n : Int)) := by
    have := (Prod.mk.inj hx).1
    exact (DataW.agg.inj this).symm
  have key : ∀ i, i < 16 → cs0[i]? = (tabT[i]?).map fun n : Nat => Value.int .u32 (n : Int) := by
    intro i hi
    have h1 := hel i hi
    have hxi : xs[i]? = some xs[i] := List.getElem?_eq_getElem (by omega)
    rw [hxi] at h1
    obtain ⟨k, e1, e2, _⟩ := DataW.trod_int (k := .u32) (by kernel_rfl) h1
    have h2 : (xs.map (·.1))[i]? = some (.lit (.int .u32 k)) := by rw [List.getElem?_map, hxi, e2]; rfl
    rw [hx1, List.getElem?_map] at h2
    have h3 : cs0[i]? = some (.int .u32 k) := by
      have : (cs0.toList.drop i)[0]? = some (.int .u32 k) := by
        rw [Nat.mul_one] at e1
        have := congrArg (fun l => l[0]?) e1
        simpa using this
      simpa using this
    rw [h3]
    cases ht : tabT[i]? with
    | none => rw [ht] at h2; cases h2
    | some n => rw [ht] at h2; simp at h2; simp [h2]
  intro g cs e
  cases g with
  | succ g => cases e
  | zero =>
    have e' : linesT = cs := Option.some.inj e
    subst e'
    rw [linesT_eq]
    have := fcells_of (ro := roOf W) (cs := cs0) (g := 0) (fun i => World.var?_cell gLines hv0 i) (tabT.map fun n : Nat => (n : Int)) 0 (fun i hi => by
      rw [Nat.zero_add, key i (by simpa [tabT] using hi), List.getElem?_map]
      cases tabT[i]? <;> rfl)
    rw [List.map_map] at this
    exact this
end Go.Proofs.YtlemkcclgneemaaDoor
