import Derived.Test.YtemnahkpffafoaaDoorPackDec
import Derived.Test.YtemnahkpffafoaaDoorEqPackF
import Derived.Test.YtemnahkpffafoaaDoorSumSpec
import Derived.Test.YtemnahkpffafoaaDoorAbsArgs
import Derived.Test.YtemnahkpffafoaaDoorRows
import Derived.ProofKit
import Derived.LaidMore
import Derived.OpenShut
import Derived.MakeChecks
import Derived.Test.YtemnahkpffafoaaDoorMakeSpec5
import Derived.Test.YtemnahkpffafoaaDoorProg
import Derived.KernelRfl
import Derived.Test.YtemnahkpffafoaaDoorDocSpec
import Derived.Test.YtemnahkpffafoaaDoorFlatSpec
set_option autoImplicit false
namespace Go.Proofs.YtemnahkpffafoaaDoor
open Go Go.Abs
theorem gLines : Tryd.prog.globalNamed "weathervane/sum.lines" = some 0 := by kernel_rfl
theorem tLines : (Tryd.prog.globals[0]?).map (·.type) = some 116 := by kernel_rfl
theorem fcells_of {ro : Ro} {cs : Array Value} {g : Nat} (hc : ∀ i : Nat, ro g i = cs[i]?) : ∀ (L : List Int) (k : Nat), (∀ i, i < L.length → cs[k + i]? = (L[i]?).map (Value.int .u32)) → FCells ro (L.map fun n => F.s (.int .u32 n)) g k
 | [], _, _ => trivial
 | n :: L, k, h => ⟨⟨.int .u32 n, by rw [hc]; simpa using h 0 (by simp), rfl, rfl⟩, fcells_of hc L (k + 1) fun i hi => by
   have := h (i + 1) (by simpa using hi)
   rw [show k + 1 + i = k + (i + 1) by omega]; simpa using this⟩
theorem glob_ok {W : World} (h : laidMetH Tryd.prog [("weathervane/sum.lines", Rows.laid_weathervane_sum_lines)] W) : GOk (roOf W) := by
 rw [MakeChecks.laidMetH_plain _ _ _ (by kernel_rfl)] at h
 obtain ⟨ps, ⟨g0, t0, cs0, f0, p0, q0, hg0, ht0, hv0, hd0, _, _⟩, _, _⟩ := h
 obtain rfl := Option.some.inj (gLines.symm.trans hg0)
 obtain rfl := Option.some.inj (tLines.symm.trans ht0)
 have cE : Tryd.prog.cellsOf 78 = 1 := by kernel_rfl
 obtain ⟨xs, m, rfl, hx, hlen, hn, hel⟩ := DataW.trod_array (n := 16) (e := 78) (by kernel_rfl) hd0
 rw [cE] at hel
 have hx1 : xs.map (·.1) = tabT.map fun n : Nat => DataW.lit (.int .u32 (n : Int)) := by
  have := (Prod.mk.inj hx).1
  exact (DataW.agg.inj this).symm
 have key : ∀ i, i < 16 → cs0[i]? = (tabT[i]?).map fun n : Nat => Value.int .u32 (n : Int) := by
  intro i hi
  have h1 := hel i hi
  have hxi : xs[i]? = some xs[i] := List.getElem?_eq_getElem (by omega)
  rw [hxi] at h1
  obtain ⟨k, e1, e2, _⟩ := DataW.trod_int (k := .u32) (by kernel_rfl) h1
  have h2 : (xs.map (·.1))[i]? = some (.lit (.int .u32 k)) := by rw [List.getElem?_map, hxi, e2]; rfl
  rw [hx1, List.getElem?_map] at h2
  have h3 : cs0[i]? = some (.int .u32 k) := by
   have : (cs0.toList.drop i)[0]? = some (.int .u32 k) := by
    rw [Nat.mul_one] at e1
    have := congrArg (fun l => l[0]?) e1
    simpa using this
   simpa using this
  rw [h3]
  cases ht : tabT[i]? with
  | none => rw [ht] at h2; cases h2
  | some n => rw [ht] at h2; simp at h2; simp [h2]
 intro g cs e
 cases g with
 | succ g => cases e
 | zero =>
  have e' : linesT = cs := Option.some.inj e
  subst e'
  rw [linesT_eq]
  have := fcells_of (ro := roOf W) (cs := cs0) (g := 0) (fun i => World.var?_cell gLines hv0 i) (tabT.map fun n : Nat => (n : Int)) 0 (fun i hi => by
   rw [Nat.zero_add, key i (by simpa [tabT] using hi), List.getElem?_map]
   cases tabT[i]? <;> rfl)
  rw [List.map_map] at this
  exact this
end Go.Proofs.YtemnahkpffafoaaDoor
namespace Go.Proofs.YtemnahkpffafoaaDoor
open Go Go.Abs
theorem act_of {p : List F} (h : Ty Tryd.prog 64 p) : ∃ x : MAct, p = x.F ∧ x.ok := by
 obtain ⟨parts, rfl, ha⟩ := h.struct_args (ts := [5, 5, 5, 5]) (by kernel_rfl)
 obtain ⟨x1, l, rfl, h1, ha⟩ := ha.cons_inv
 obtain ⟨x2, l, rfl, h2, ha⟩ := ha.cons_inv
 obtain ⟨x3, l, rfl, h3, ha⟩ := ha.cons_inv
 obtain ⟨x4, l, rfl, h4, ha⟩ := ha.cons_inv
 obtain rfl := ha.nil_inv
 obtain ⟨a, rfl, wa⟩ := h1.of_int (k := .u8) (by kernel_rfl)
 obtain ⟨b, rfl, wb⟩ := h2.of_int (k := .u8) (by kernel_rfl)
 obtain ⟨c, rfl, wc⟩ := h3.of_int (k := .u8) (by kernel_rfl)
 obtain ⟨d, rfl, wd⟩ := h4.of_int (k := .u8) (by kernel_rfl)
 obtain ⟨a, rfl, qa⟩ := wf_u8 wa
 obtain ⟨b, rfl, qb⟩ := wf_u8 wb
 obtain ⟨c, rfl, qc⟩ := wf_u8 wc
 obtain ⟨d, rfl, qd⟩ := wf_u8 wd
 exact ⟨⟨a, b, c, d⟩, rfl, qa, qb, qc, qd⟩
theorem draft_of {p : List F} (h : Ty Tryd.prog 24 p) : ∃ (g f e : Nat) (acts : List MAct), p = [.s (.int .u8 g), .s (.int .u8 f), .s (.int .u8 e), .lst acts.length (actsF acts)] ∧ g < 256 ∧ f < 256 ∧ e < 256 ∧ acts.length ≤ maxLen ∧ ∀ x ∈ acts, x.ok := by
 obtain ⟨parts, rfl, ha⟩ := h.struct_args (ts := [5, 5, 5, 22]) (by kernel_rfl)
 obtain ⟨x1, l, rfl, h1, ha⟩ := ha.cons_inv
 obtain ⟨x2, l, rfl, h2, ha⟩ := ha.cons_inv
 obtain ⟨x3, l, rfl, h3, ha⟩ := ha.cons_inv
 obtain ⟨x4, l, rfl, h4, ha⟩ := ha.cons_inv
 obtain rfl := ha.nil_inv
 obtain ⟨a, rfl, wa⟩ := h1.of_int (k := .u8) (by kernel_rfl)
 obtain ⟨b, rfl, wb⟩ := h2.of_int (k := .u8) (by kernel_rfl)
 obtain ⟨c, rfl, wc⟩ := h3.of_int (k := .u8) (by kernel_rfl)
 obtain ⟨acts, rfl, hl, ho⟩ := h4.slice_of (e := 64) (f := MAct.F) (ok := MAct.ok) (by kernel_rfl) fun p hp => act_of hp
 obtain ⟨a, rfl, qa⟩ := wf_u8 wa
 obtain ⟨b, rfl, qb⟩ := wf_u8 wb
 obtain ⟨c, rfl, qc⟩ := wf_u8 wc
 exact ⟨a, b, c, acts, rfl, qa, qb, qc, hl, ho⟩
end Go.Proofs.YtemnahkpffafoaaDoor
namespace Go.Proofs.YtemnahkpffafoaaDoor
open Go Go.Abs
def tupV : Option (Int × Int × Int) → List V
 | none => [I 0, I (-1), I (-1)]
 | some (n, f, s) => [I n, I f, I s]
section
variable (m : Mod)
noncomputable abbrev DT1 (m : Mod) (i : Nat) (l : List Int) : R := dTree_1 m.strings.length (sF m.strings) m.globals.length (kF .i64 m.globals) m.funcs.length (funsF m.funcs) m.entries.length (kF .i64 m.entries) l.length i (kF .i64 l)
noncomputable abbrev DT2 (m : Mod) (i : Nat) : R := dTree_2 m.strings.length (sF m.strings) m.globals.length (kF .i64 m.globals) m.funcs.length (funsF m.funcs) m.entries.length (kF .i64 m.entries) i
noncomputable abbrev DT3 (m : Mod) (i k : Nat) : R := dTree_3 m.strings.length (sF m.strings) m.globals.length (kF .i64 m.globals) m.funcs.length (funsF m.funcs) m.entries.length (kF .i64 m.entries) i k
noncomputable abbrev DT4 (m : Mod) (i : Nat) : R := dTree_4 m.strings.length (sF m.strings) m.globals.length (kF .i64 m.globals) m.funcs.length (funsF m.funcs) m.entries.length (kF .i64 m.entries) i
noncomputable abbrev DT5 (m : Mod) (i : Nat) (f : MFun) (its : List MItem) (k : Nat) : R := dTree_5 m.strings.length (sF m.strings) m.globals.length (kF .i64 m.globals) m.funcs.length (funsF m.funcs) m.entries.length (kF .i64 m.entries) i f.name f.params f.locals.length (kF .i64 f.locals) f.sites.length (kF .i64 f.sites) f.body.length (stmtsF f.body) its.length (itemsF its) k
theorem dtree5 (i : Nat) (hi : i < 4611686018427387904) (f : MFun) (its : List MItem) (hl : its.length ≤ big) (hargs : ∀ x ∈ its, x.s.args.length < 4611686018427387904) : ∀ (rest : List MItem) (j : Nat), its.drop j = rest → j ≤ its.length →
  DT5 m i f its j = match stmtsR m f rest with
   | some (n, s) => some (.ret (.tup (tupV (some (n, i, s)))), [])
   | none => DT4 m (i + 1)
 | [], j, hd, hj => by
  have := done_of_drop hd
  unfold DT5
  rw [dTree_5_eq, if_neg (by simp; omega), show ((i : Int) + 1) = ((i + 1 : Nat) : Int) by omega, wN (by omega)]
  rfl
 | x :: rest, j, hd, hj => by
  have hlt := lt_of_drop hd
  have hx : x ∈ its := List.mem_of_mem_drop (by rw [hd]; simp : x ∈ its.drop j)
  have ih := dtree5 i hi f its hl hargs rest (j + 1) (drop_next hd) (by omega)
  unfold big at hl
  unfold DT5 at ih ⊢
  have e : ∀ h0 : H, run w0 63 [.agg (modV m), .agg (funV f), .agg [N .i64 x.n, N .i64 x.deep, N .u8 x.s.kind, N .u8 x.s.a.k, N .i64 x.s.a.id, N .u8 x.s.b.k, N .i64 x.s.b.id, .f (.lst x.s.args.length (refsF x.s.args)), .f (.lst x.s.body.length (stmtsF x.s.body))]] h0 = some (.ret (I (stmtR m f x.deep x.s)), h0) := fun h0 => dbroken_spec m f x.n x.deep x.s (hargs x hx) h0
  rw [dTree_5_eq, if_pos (decide_eq_true (by omega)), elem_next MItem.F_len hd]
  simp only [MItem.F, MStmt.F_eq, List.cons_append, List.nil_append, atI_zero, atI_succ, atL_zero, atL_succ]
  rw [e, pI_some]
  unfold stmtsR
  by_cases h : 0 < stmtR m f x.deep x.s
  ·rw [if_pos (by simp; omega), elem_next MItem.F_len hd, if_pos h]
   simp only [MItem.F, List.cons_append, List.drop_zero, atI_zero, tupV]
  ·rw [if_neg (by simp; omega), if_neg h, show ((j : Int) + 1) = ((j + 1 : Nat) : Int) by omega, wN (by omega)]
   exact ih
theorem dtree4 (hl : m.funcs.length ≤ big) (ha : argsOk m) (hn : ∀ f ∈ m.funcs, f.locals.length ≤ big ∧ f.sites.length ≤ big) : ∀ (rest : List MFun) (i : Nat), m.funcs.drop i = rest → i ≤ m.funcs.length → DT4 m i = some (.ret (.tup (tupV (funsR m i rest))), [])
 | [], i, hd, hi => by
  have := done_of_drop hd
  unfold DT4
  rw [dTree_4_eq, if_neg (by simp; omega)]; rfl
 | f :: rest, i, hd, hi => by
  have hlt := lt_of_drop hd
  have hf : f ∈ m.funcs := List.mem_of_mem_drop (by rw [hd]; simp : f ∈ m.funcs.drop i)
  obtain ⟨hb, hargs⟩ := ha f hf
  obtain ⟨hn1, hn2⟩ := hn f hf
  have ih := dtree4 hl ha hn rest (i + 1) (drop_next hd) (by omega)
  have hl' := hl
  unfold big at hl'
  unfold DT4
  have e1 : ∀ h0 : H, run w0 61 [.agg [.f (.lst m.strings.length (sF m.strings)), .f (.lst m.globals.length (kF .i64 m.globals)), .f (.lst m.funcs.length (funsF m.funcs)), .f (.lst m.entries.length (kF .i64 m.entries))], .f (.lst f.locals.length (kF .i64 f.locals))] h0 = some (.ret (I (namesR m.strings f.locals [])), h0) := fun h0 => dnamed_spec m f.locals hn1 h0
  have e2 : ∀ h0 : H, run w0 61 [.agg [.f (.lst m.strings.length (sF m.strings)), .f (.lst m.globals.length (kF .i64 m.globals)), .f (.lst m.funcs.length (funsF m.funcs)), .f (.lst m.entries.length (kF .i64 m.entries))], .f (.lst f.sites.length (kF .i64 f.sites))] h0 = some (.ret (I (namesR m.strings f.sites [])), h0) := fun h0 => dnamed_spec m f.sites hn2 h0
  rw [dTree_4_eq, if_pos (decide_eq_true (by omega)), elem_next MFun.F_len hd]
  simp only [MFun.F, List.cons_append, List.nil_append, atI_zero, atI_succ, atL_zero, atL_succ]
  rw [rFlat_spec f.body hb, pL_some]
  have h5 := dtree5 m i (by omega) f (flats 0 0 f.body) hb hargs (flats 0 0 f.body) 0 rfl (by omega)
  unfold DT5 at h5
  rw [show ((0 : Nat) : Int) = 0 from rfl] at h5
  have key : ∀ x : Int, funR m f = x → 0 < x → funsR m i (f :: rest) = some (x, (i : Int), -1) := fun x hx h0 => by
   unfold funsR; rw [if_pos (by omega), hx]
  unfold funR at key
  by_cases c1 : 40 < f.locals.length
  ·rw [if_neg (by simp; omega), key 2 (if_pos (.inl c1)) (by omega)]; rfl
  rw [if_pos (by simp; omega)]
  by_cases c2 : 40 < f.sites.length
  ·rw [if_neg (by simp; omega), key 2 (if_pos (.inr (.inl c2))) (by omega)]; rfl
  rw [if_pos (by simp; omega)]
  by_cases c3 : 400 < (flats 0 0 f.body).length
  ·rw [if_pos (by simp; omega), key 2 (if_pos (.inr (.inr c3))) (by omega)]; rfl
  rw [if_neg (by simp; omega)]
  rw [if_neg (show ¬ (40 < f.locals.length ∨ 40 < f.sites.length ∨ 400 < (flats 0 0 f.body).length) by omega)] at key
  by_cases c4 : f.params < 0
  ·rw [if_neg (by simp; omega), key 4 (if_pos (.inl c4)) (by omega)]; rfl
  rw [if_pos (by simp; omega)]
  by_cases c5 : (f.locals.length : Int) < f.params
  ·rw [if_neg (by simp; omega), key 4 (if_pos (.inr (.inl c5))) (by omega)]; rfl
  rw [if_pos (by simp; omega)]
  by_cases c6 : 6 < f.params
  ·rw [if_pos (by simp; omega), key 4 (if_pos (.inr (.inr c6))) (by omega)]; rfl
  rw [if_neg (by simp; omega), e1, pI_some]
  rw [if_neg (show ¬ (f.params < 0 ∨ (f.locals.length : Int) < f.params ∨ 6 < f.params) by omega)] at key
  by_cases c7 : 0 < namesR m.strings f.locals []
  ·rw [if_pos (by simp; omega), key _ (if_pos c7) c7]; rfl
  rw [if_neg (by simp; omega), e2, pI_some]
  rw [if_neg c7] at key
  by_cases c8 : 0 < namesR m.strings f.sites []
  ·rw [if_pos (by simp; omega), key _ rfl c8]; rfl
  rw [if_neg (by simp; omega), h5]
  have hz : ¬ 0 < funR m f := by
   unfold funR
   rw [if_neg (show ¬ (40 < f.locals.length ∨ 40 < f.sites.length ∨ 400 < (flats 0 0 f.body).length) by omega), if_neg (show ¬ (f.params < 0 ∨ (f.locals.length : Int) < f.params ∨ 6 < f.params) by omega), if_neg c7]
   exact c8
  unfold funsR
  rw [if_neg hz]
  cases stmtsR m f (flats 0 0 f.body) with
  | some x => rfl
  | none => exact ih
theorem dtree3 (hl : m.entries.length ≤ 40) (i : Nat) (n : Int) (r : List Int) (hd : m.entries.drop i = n :: r) : ∀ (g : List Int) (k : Nat), (m.entries.take i).drop k = g →
  DT3 m i k = if n ∈ g then some (.ret (.tup (tupV (some (3, -1, -1)))), []) else DT2 m (i + 1)
 | [], k, h => by
  have hk := done_of_drop h
  have hlt := lt_of_drop hd
  rw [List.length_take] at hk
  unfold DT3
  rw [dTree_3_eq, if_neg (by simp; omega), if_neg (by simp), show ((i : Nat) : Int) + 1 = ((i + 1 : Nat) : Int) by omega, wN (by omega)]
 | x :: g, k, h => by
  have hk := lt_of_drop h
  have hlt := lt_of_drop hd
  rw [List.length_take] at hk
  have hd' : m.entries.drop k = x :: m.entries.drop (k + 1) := by
   have h1 : (m.entries.take i)[k]? = some x := by rw [← List.head?_drop, h]; rfl
   rw [List.getElem?_take_of_lt (by omega)] at h1
   rw [drop_get (by omega : k < m.entries.length)]
   congr 1
   rw [List.getElem?_eq_getElem (by omega)] at h1; exact Option.some.inj h1
  have ih := dtree3 hl i n r hd g (k + 1) (drop_next h)
  unfold DT3 at ih ⊢
  rw [dTree_3_eq, if_pos (decide_eq_true (by omega)), elem_kF hd', atI_zero, elem_kF hd, atI_zero, ibeq]
  by_cases he : x = n
  ·rw [if_pos (decide_eq_true he), if_pos (by simp [he])]; rfl
  ·rw [if_neg (by simpa using he), show ((k : Nat) : Int) + 1 = ((k + 1 : Nat) : Int) by omega, wN (by omega), ih]
   have : (n ∈ x :: g) ↔ n ∈ g := by rw [List.mem_cons]; exact ⟨fun q => q.elim (fun q => absurd q.symm he) id, .inr⟩
   by_cases hg : n ∈ g
   ·rw [if_pos hg, if_pos (this.2 hg)]
   ·rw [if_neg hg, if_neg (fun q => hg (this.1 q))]
theorem dtree2 (hl : m.entries.length ≤ 40) : ∀ (rest : List Int) (i : Nat) (seen : List Int), m.entries.drop i = rest → i ≤ m.entries.length → (∀ s, s ∈ seen ↔ s ∈ m.entries.take i) →
  DT2 m i = if 0 < entriesR m.funcs.length rest seen then some (.ret (.tup (tupV (some (entriesR m.funcs.length rest seen, -1, -1)))), []) else DT4 m 0
 | [], i, seen, hd, hi, hs => by
  have := done_of_drop hd
  unfold DT2
  rw [dTree_2_eq, if_neg (by simp; omega), if_neg (by simp [entriesR])]; rfl
 | n :: rest, i, seen, hd, hi, hs => by
  have hlt := lt_of_drop hd
  unfold DT2
  rw [dTree_2_eq, if_pos (decide_eq_true (by omega)), elem_kF hd, atI_zero]
  unfold entriesR
  by_cases h0 : n < 0
  ·rw [if_neg (by simpa using h0), if_pos (show n < 0 ∨ (m.funcs.length : Int) ≤ n from .inl h0), if_pos (by omega)]; rfl
  rw [if_pos (by simpa using h0), elem_kF hd, atI_zero]
  by_cases h1 : (m.funcs.length : Int) ≤ n
  ·rw [if_pos (by simpa using h1), if_pos (show n < 0 ∨ (m.funcs.length : Int) ≤ n from .inr h1), if_pos (by omega)]; rfl
  rw [if_neg (by simpa using h1), if_neg (show ¬ (n < 0 ∨ (m.funcs.length : Int) ≤ n) by omega)]
  have e := dtree3 m hl i n rest hd (m.entries.take i) 0 rfl
  refine e.trans ?_
  by_cases he : n ∈ m.entries.take i
  ·rw [if_pos he, if_pos (show n ∈ seen from (hs _).2 he), if_pos (by omega)]
  ·rw [if_neg he, if_neg (show ¬ n ∈ seen from fun q => he ((hs _).1 q))]
   refine dtree2 hl rest (i + 1) (n :: seen) (drop_next hd) (by omega) fun s => ?_
   have ht : m.entries.take (i + 1) = m.entries.take i ++ [n] := by
    rw [List.take_add_one, ← List.head?_drop, hd]; rfl
   rw [ht, List.mem_cons, List.mem_append, List.mem_singleton, hs s]
   exact ⟨fun q => q.elim .inr .inl, fun q => q.elim .inr .inl⟩
theorem dtree1 (hf : m.funcs.length ≤ 40) (hg : m.globals.length ≤ 40) (K : R) (hK : ∀ l : List Int, l = m.funcs.map (·.name) → DT1 m m.funcs.length l = K) : ∀ (rest : List MFun) (i : Nat) (l : List Int), m.funcs.drop i = rest → i ≤ m.funcs.length → l.length = i → l ++ rest.map (·.name) = m.funcs.map (·.name) → DT1 m i l = K
 | [], i, l, hd, hi, hl, he => by
  have := done_of_drop hd
  obtain rfl : i = m.funcs.length := by omega
  exact hK l (by simpa using he)
 | f :: rest, i, l, hd, hi, hl, he => by
  have hlt := lt_of_drop hd
  have ih := dtree1 hf hg K hK rest (i + 1) (l ++ [f.name]) (drop_next hd) (by omega) (by simp [hl]) (by rw [← he]; simp)
  unfold DT1 at ih ⊢
  have k1 : kF .i64 l ++ [F.s (.int .i64 f.name)] = kF .i64 (l ++ [f.name]) := by simp [kF]
  have hn : (elem (.lst m.funcs.length (funsF m.funcs)) (i : Int) 5 fun c => atI .i64 (c.drop 0) 0 fun n1002 => if 1 = 1 ∧ (l.length + 1) * 8 ≤ 140737488355328 then if 0 + (l.length * 1) ≤ (kF .i64 l).length then if 0 + ((l.length + 1) * 1) ≤ ((((kF .i64 l).drop 0).take (l.length * 1)) ++ ([F.s (.int .i64 n1002)])).length then dTree_1 m.strings.length (sF m.strings) m.globals.length (kF .i64 m.globals) m.funcs.length (funsF m.funcs) m.entries.length (kF .i64 m.entries) (l.length + 1) (IntKind.wrap .i64 (i + 1)) ((((((kF .i64 l).drop 0).take (l.length * 1)) ++ ([F.s (.int .i64 n1002)])).drop 0).take ((l.length + 1) * 1)) else none else none else none) = K := by
   rw [elem_next MFun.F_len hd, MFun.F, List.drop_zero, List.cons_append, atI_zero, if_pos ⟨rfl, by omega⟩, if_pos (by simp), List.drop_zero, List.take_of_length_le (l := kF .i64 l) (by simp), k1, if_pos (by simp), List.drop_zero, List.take_of_length_le (by simp), show ((i : Nat) : Int) + 1 = ((i + 1 : Nat) : Int) by omega, wN (by omega)]
   rw [← ih]; congr 1; simp
  rw [dTree_1_eq, if_pos (decide_eq_true (by omega))]
  exact hn
end
theorem dTree_core (m : Mod) (ha : argsOk m) (hn : ∀ f ∈ m.funcs, f.locals.length ≤ big ∧ f.sites.length ≤ big) : dTree_0 m.strings.length (sF m.strings) m.globals.length (kF .i64 m.globals) m.funcs.length (funsF m.funcs) m.entries.length (kF .i64 m.entries) = some (.ret (.tup (tupV (treeR m))), []) := by
 have key : ∀ x : Int, wholeR m = x → 0 < x → treeR m = some (x, -1, -1) := fun x hx h0 => by
  unfold treeR; rw [if_pos (by omega), hx]
 unfold wholeR at key
 rw [dTree_eq]
 by_cases c1 : 40 < m.globals.length
 ·rw [if_neg (by simp; omega), key 2 (if_pos (.inl c1)) (by omega)]; rfl
 rw [if_pos (by simp; omega)]
 by_cases c2 : 40 < m.funcs.length
 ·rw [if_neg (by simp; omega), key 2 (if_pos (.inr (.inl c2))) (by omega)]; rfl
 rw [if_pos (by simp; omega)]
 by_cases c3 : 40 < m.entries.length
 ·rw [if_pos (by simp; omega), key 2 (if_pos (.inr (.inr c3))) (by omega)]; rfl
 rw [if_neg (by simp; omega)]
 rw [if_neg (show ¬ (40 < m.globals.length ∨ 40 < m.funcs.length ∨ 40 < m.entries.length) by omega)] at key
 refine dtree1 m (by omega) (by omega) _ (fun l hl => ?_) m.funcs 0 [] rfl (by omega) rfl (by simp)
 have hll : l.length ≤ big := by rw [hl, List.length_map]; unfold big; omega
 unfold DT1
 have e1 : ∀ h0 : H, run w0 61 [.agg [.f (.lst m.strings.length (sF m.strings)), .f (.lst m.globals.length (kF .i64 m.globals)), .f (.lst m.funcs.length (funsF m.funcs)), .f (.lst m.entries.length (kF .i64 m.entries))], .f (.lst m.globals.length (kF .i64 m.globals))] h0 = some (.ret (I (namesR m.strings m.globals [])), h0) := fun h0 => dnamed_spec m m.globals (by unfold big; omega) h0
 have e2 := dnamed_own m l hll
 rw [dTree_1_eq, if_neg (by simp), e1, pI_some]
 by_cases c4 : 0 < namesR m.strings m.globals []
 ·rw [if_pos (by simp; omega), key _ (if_pos c4) c4]; rfl
 rw [if_neg (by simp; omega), e2, pI_some, hl]
 rw [if_neg c4] at key
 by_cases c5 : 0 < namesR m.strings (m.funcs.map (·.name)) []
 ·rw [if_pos (by simp; omega), key _ (if_pos c5) c5]; rfl
 rw [if_neg (by simp; omega)]
 rw [if_neg c5] at key
 have h2 := dtree2 m (by omega) m.entries 0 [] rfl (by omega) (by simp)
 refine h2.trans ?_
 by_cases c6 : 0 < entriesR m.funcs.length m.entries []
 ·rw [if_pos c6, key _ rfl c6]
 rw [if_neg c6]
 have h4 := dtree4 m (by unfold big; omega) ha hn m.funcs 0 rfl (by omega)
 rw [h4]
 have hz : ¬ 0 < wholeR m := by
  unfold wholeR
  rw [if_neg (show ¬ (40 < m.globals.length ∨ 40 < m.funcs.length ∨ 40 < m.entries.length) by omega), if_neg c4, if_neg c5]
  exact c6
 unfold treeR
 rw [if_neg hz]
theorem dTree_spec (m : Mod) (ha : argsOk m) (hn : ∀ f ∈ m.funcs, f.locals.length ≤ big ∧ f.sites.length ≤ big) (h0 : H) : run w0 39 [.agg (modV m)] h0 = some (.ret (.tup (tupV (treeR m))), h0) := by
 rw [dTree_run, dTree_core m ha hn]
 cases treeR m <;> rfl
noncomputable abbrev DC1 (m : Mod) (i : Nat) : R := dCheck_1 m.strings.length (sF m.strings) m.globals.length (kF .i64 m.globals) m.funcs.length (funsF m.funcs) m.entries.length (kF .i64 m.entries) i
theorem dcheck1 (m : Mod) (hs : m.strings.length ≤ big) (hG : m.globals.length ≤ big) (hN : m.funcs.length ≤ big) (hF : ∀ f ∈ m.funcs, f.locals.length ≤ big ∧ f.sites.length ≤ big) :
  ∀ (rest : List ByteArray) (i : Nat) (p : Option ByteArray), m.strings.drop i = rest → i ≤ m.strings.length → (∀ q, p = some q → 0 < i ∧ m.strings.drop (i - 1) = q :: m.strings.drop i) → (p = none → i = 0) →
  DC1 m i = some (.ret (.tup (tupV (if sortR (usedR m) i p rest = true then none else some (10, -1, -1)))), [])
 | [], i, p, hd, hi, h1, h2 => by
  have := done_of_drop hd
  unfold DC1
  rw [dCheck_1_eq, if_neg (by simp; omega)]; rfl
 | s :: rest, i, p, hd, hi, h1, h2 => by
  have hlt := lt_of_drop hd
  have ih := dcheck1 m hs hG hN hF rest (i + 1) (some s) (drop_next hd) (by omega) (fun q hq => ⟨by omega, by cases hq; rw [show i + 1 - 1 = i by omega, hd, drop_next hd]⟩) (fun h => by cases h)
  unfold big at hs
  unfold DC1 at ih ⊢
  have e : ∀ h0 : H, run w0 40 [.agg [.f (.lst m.strings.length (sF m.strings)), .f (.lst m.globals.length (kF .i64 m.globals)), .f (.lst m.funcs.length (funsF m.funcs)), .f (.lst m.entries.length (kF .i64 m.entries))], N .i64 (i : Int)] h0 = some (.ret (B (decide ((i : Int) ∈ usedR m))), h0) := fun h0 => mUsed_spec hG hN hF (i : Int) h0
  rw [dCheck_1_eq, if_pos (decide_eq_true (by omega)), e, pB_some]
  unfold sortR
  by_cases hu : (i : Int) ∈ usedR m
  ·rw [if_pos (by simp [hu]), decide_eq_true hu, Bool.true_and]
   cases p with
   | none =>
    have := h2 rfl
    subst this
    rw [if_neg (by simp), show ((0 : Nat) : Int) + 1 = ((0 + 1 : Nat) : Int) by omega, wN (by omega), Bool.true_and]
    exact ih
   | some q =>
    obtain ⟨hp, hq⟩ := h1 q rfl
    rw [if_pos (decide_eq_true (by omega)), show ((i : Nat) : Int) - 1 = ((i - 1 : Nat) : Int) by omega, wN (by omega), elem_sF hq, atS_zero, elem_sF hd, atS_zero]
    dsimp only
    by_cases hb : Op.bytesLess q.toList s.toList = true
    ·have e2 : (Op.bytesLess q.toList s.toList && sortR (usedR m) (i + 1) (some s) rest) = sortR (usedR m) (i + 1) (some s) rest := by rw [hb]; rfl
     rw [if_neg (by rw [hb]; simp), show ((i : Nat) : Int) + 1 = ((i + 1 : Nat) : Int) by omega, wN (by omega), e2]
     exact ih
    ·have hb' : Op.bytesLess q.toList s.toList = false := by simpa using hb
     rw [if_pos (by rw [hb']; rfl), if_neg (by rw [hb']; simp)]; rfl
  ·rw [if_neg (by simp [hu]), decide_eq_false hu, Bool.false_and, if_neg (by simp)]; rfl
theorem dCheck_core (m : Mod) (hs : m.strings.length ≤ big) (hG : m.globals.length ≤ big) (hN : m.funcs.length ≤ big) (ha : argsOk m) (hF : ∀ f ∈ m.funcs, f.locals.length ≤ big ∧ f.sites.length ≤ big) : dCheck_0 m.strings.length (sF m.strings) m.globals.length (kF .i64 m.globals) m.funcs.length (funsF m.funcs) m.entries.length (kF .i64 m.entries) = some (.ret (.tup (tupV (checkR m))), []) := by
 have e : ∀ h0 : H, run w0 39 [.agg [.f (.lst m.strings.length (sF m.strings)), .f (.lst m.globals.length (kF .i64 m.globals)), .f (.lst m.funcs.length (funsF m.funcs)), .f (.lst m.entries.length (kF .i64 m.entries))]] h0 = some (.ret (.tup (tupV (treeR m))), h0) := fun h0 => dTree_spec m ha hF h0
 have h1 := dcheck1 m hs hG hN hF m.strings 0 none rfl (by omega) (fun q h => by cases h) (fun _ => rfl)
 unfold DC1 at h1
 rw [show ((0 : Nat) : Int) = 0 from rfl] at h1
 rw [dCheck_eq, e, h1]
 have hpos : ∀ x, treeR m = some x → 0 < x.1 := fun x hx => by
  unfold treeR at hx
  split at hx
  ·cases hx; assumption
  ·generalize 0 = i at hx
   generalize m.funcs = l at hx
   induction l generalizing i with
   | nil => cases hx
   | cons f l ih =>
    unfold funsR at hx
    split at hx
    ·cases hx; assumption
    ·split at hx
     ·rename_i n s hh
      cases hx
      have : ∀ its : List MItem, stmtsR m f its = some (n, s) → 0 < n := fun its => by
       induction its with
       | nil => intro h; cases h
       | cons y its ih2 =>
        intro h
        unfold stmtsR at h
        split at h
        ·cases h; assumption
        ·exact ih2 h
      exact this _ hh
     ·exact ih _ hx
 unfold checkR
 rcases hx : treeR m with _ | ⟨a, b, c⟩
 ·unfold sortedR; rfl
 ·have := hpos _ hx
  dsimp only at this
  simp only [tupV, pT_some, cI, List.getElem?_cons_zero, List.getElem?_cons_succ, Option.bind_some, V.int?, V.f?, F.int?, if_true, List.length_cons, List.length_nil]
  rw [if_pos (by simp; omega)]
end Go.Proofs.YtemnahkpffafoaaDoor
namespace Go.Proofs.YtemnahkpffafoaaDoor
open Go Go.Abs
theorem check_pos {m : Abs.Mod} {x : Int × Int × Int} (h : checkR m = some x) : 0 < x.1 := by
 have hf : ∀ {fs : List MFun} {i : Nat} {x}, funsR m i fs = some x → 0 < x.1 := by
  intro fs
  induction fs with
  | nil => intro i x hx; cases hx
  | cons f l ih =>
   intro i x hx
   unfold funsR at hx
   split at hx
   ·cases hx; assumption
   ·split at hx
    ·rename_i n s hh
     cases hx
     have : ∀ its : List MItem, stmtsR m f its = some (n, s) → 0 < n := fun its => by
      induction its with
      | nil => intro h; cases h
      | cons y l ih =>
       intro h
       unfold stmtsR at h
       split at h
       ·cases h; assumption
       ·exact ih h
     exact this _ hh
    ·exact ih hx
 unfold checkR treeR at h
 split at h
 ·rename_i y hy
  cases h
  split at hy
  ·cases hy; assumption
  ·exact hf hy
 ·split at h
  ·cases h
  ·cases h; decide
abbrev yes : R := some (.ret (B true), [])
theorem big_of {m : Abs.Mod} (hk : okPk m) (hl : (packB m).length ≤ lenB) : m.strings.length ≤ big ∧ m.funcs.length ≤ big ∧ argsOk m := by
 have hc := pMod_can (l := packB m) m 0 [] hk (Nat.zero_le _) (by simp)
 obtain ⟨a, b, c, _⟩ := read_fits hl hc
 exact ⟨a, b, c⟩
theorem dec_lay {m : Abs.Mod} (hk : okPk m) : decB (sealB (markB ++ packB m)) = match checkR m with
  | none => (m, faultV none)
  | some x => (noM, faultV (some x)) := by
 unfold decB
 rw [open_seal, if_neg (by simp)]
 unfold decQ
 have h4 : markB.length = 4 := rfl
 rw [if_neg (by rw [List.length_append]; omega), if_neg (by rw [show (4 : Nat) = markB.length from rfl, List.take_left]; simp)]
 have hd : (markB ++ packB m).drop 4 = packB m := by rw [show (4 : Nat) = markB.length from rfl, List.drop_left]
 have hc := pMod_can (l := packB m) m 0 [] hk (Nat.zero_le _) (by simp)
 rw [Nat.zero_add] at hc
 rw [hd, hc]
 dsimp only
 rw [if_neg (by omega)]
 rfl
theorem seal_go {h : H} {k L : Nat} {p : List UInt8} (hk : h[k]? = some (.fz (bF p))) (hp : p.length < 1000000000000) (hL : h.length = L) (K : Nat × List F → R) :
  (pO (run w0 12 [.ref k 0 p.length 1] h) fun v g => (V.lst? v).bind fun q => if g.length = L then K q else none) = K ((sealB p).length, bF (sealB p)) := by
 rw [rSeal_give hk hp, pO_some]
 simp [V.lst?, V.f?, F.lst?, hL]
theorem encf_go {r : R} {n f s : Int} {h : H} (hr : r = some (.ret (.tup [.f (.lst 0 []), .agg (faultV (some (n, f, s)))]), h)) (K : Nat → List F → Int → Int → Int → Int → Int → Int → Int → R) :
  (pT r fun l1 => cL l1 0 fun m2 c2 => cA l1 1 fun l3 => cI .i64 l3 0 fun n4 => cI .i64 l3 1 fun n5 => cI .i64 l3 2 fun n6 => cI .i64 l3 3 fun n7 => cI .i64 l3 4 fun n8 => cI .i64 l3 5 fun n9 => cI .i64 l3 6 fun n10 => if l3.length = 7 then if l1.length = 2 then K m2 c2 n4 n5 n6 n7 n8 n9 n10 else none else none) = K 0 [] 8 0 0 0 n f s := by
 subst hr; rfl
noncomputable abbrev T10 (a b c : Int) (m : Abs.Mod) : R := PackFaults_10 a b c m.strings.length (sF m.strings) m.globals.length (kF .i64 m.globals) m.funcs.length (funsF m.funcs) m.entries.length (kF .i64 m.entries)
theorem tail_none {m : Abs.Mod} (hk : okPk m) (hl : (packB m).length ≤ 100000000) (hc : checkR m = none) : T10 0 (-1) (-1) m = yes := by
 obtain ⟨b1, b2, b3⟩ := big_of hk (by unfold lenB; omega)
 have hE := pEncode_spec m b1 b2 b3 hc hk (by unfold roomB; omega) [.cells (modV m)]
 have hlen : (markB ++ packB m).length = 4 + (packB m).length := by rw [List.length_append]; rfl
 unfold T10
 rw [PackFaults_10_eq, enc_go hE]
 have hL := llay_at (h := [.cells (modV m), zf']) m hk (by unfold roomB; omega)
 refine Eq.trans (congrArg (fun r => pO r _) hL) ?_
 rw [pO_some]
 simp only [asRef, asFz, List.length_cons, List.length_nil, List.nil_append, List.cons_append, List.getElem?_cons_zero, List.getElem?_cons_succ, and_self, if_true, Option.bind_some]
 refine Eq.trans (seal_go (p := markB ++ packB m) (h := [.cells (modV m), zf', .fz (bF (markB ++ packB m))]) (k := 2) (L := 3) rfl (by omega) rfl _) ?_
 have hD := pDecode_spec (h := [.cells (modV m), zf', .dead]) (sealB (markB ++ packB m)) (by rw [seal_le]; unfold lenB; omega)
 rw [dec_lay hk, hc] at hD
 refine Eq.trans (dec_go hD (L := 3) rfl _) ?_
 rw [if_pos (by rfl), if_pos (by rfl), if_pos (by rfl)]
 refine Eq.trans (congrArg (fun r => pB r _) (dSame_same m hk _)) ?_
 rw [pB_some, if_pos rfl]
 have : 0 < (sealB (markB ++ packB m)).length := by rw [seal_le]; omega
 rw [show (decide (((sealB (markB ++ packB m)).length : Int) > 0)) = true from decide_eq_true (by omega)]
theorem tail_some {m : Abs.Mod} (hk : okPk m) (hl : (packB m).length ≤ 100000000) {a b c : Int} (hc : checkR m = some (a, b, c)) : T10 a b c m = yes := by
 obtain ⟨b1, b2, b3⟩ := big_of hk (by unfold lenB; omega)
 have ha := check_pos hc
 have hE := pEncode_fault m b1 b2 b3 hc [.cells (modV m)]
 have hlen : (markB ++ packB m).length = 4 + (packB m).length := by rw [List.length_append]; rfl
 unfold T10
 rw [PackFaults_10_eq, encf_go hE]
 have hL := llay_at (h := [.cells (modV m), .cells [N .i64 8, N .i64 0, N .i64 0, N .i64 0, N .i64 a, N .i64 b, N .i64 c]]) m hk (by unfold roomB; omega)
 refine Eq.trans (congrArg (fun r => pO r _) hL) ?_
 rw [pO_some]
 simp only [asRef, asFz, List.length_cons, List.length_nil, List.nil_append, List.cons_append, List.getElem?_cons_zero, List.getElem?_cons_succ, and_self, if_true, Option.bind_some]
 refine Eq.trans (seal_go (p := markB ++ packB m) (h := [.cells (modV m), .cells [N .i64 8, N .i64 0, N .i64 0, N .i64 0, N .i64 a, N .i64 b, N .i64 c], .fz (bF (markB ++ packB m))]) (k := 2) (L := 3) rfl (by omega) rfl _) ?_
 have hD := pDecode_spec (h := [.cells (modV m), .cells [N .i64 8, N .i64 0, N .i64 0, N .i64 0, N .i64 a, N .i64 b, N .i64 c], .dead]) (sealB (markB ++ packB m)) (by rw [seal_le]; unfold lenB; omega)
 rw [dec_lay hk, hc] at hD
 refine Eq.trans (dec_go hD (L := 3) rfl _) ?_
 have ha' : a ≠ 0 := by dsimp only at ha; omega
 rw [if_neg (show ¬ (a == 0) = true by simpa using ha'), if_pos (by simp), if_pos (by simp)]
 rfl
theorem okPk_name {ss : List ByteArray} {gs es : List Int} {f0 : MFun} {r : List MFun} (h : okPk ⟨ss, gs, f0 :: r, es⟩) (n : Nat) (hn : n < 256) : okPk ⟨ss, gs, { f0 with name := n } :: r, es⟩ := by
 refine ⟨h.strings, h.globals, ⟨h.funcs.1, fun f hf => ?_⟩, h.entries⟩
 rcases List.mem_cons.1 hf with rfl | hf
 ·have h0 := h.funcs.2 f0 (by simp)
  exact ⟨⟨by show (0 : Int) ≤ (n : Int); omega, by show (n : Int) ≤ 1048576; omega⟩, h0.params, h0.locals, h0.sites, h0.body⟩
 ·exact h.funcs.2 f (List.mem_cons_of_mem _ hf)
theorem okPk_params {ss : List ByteArray} {gs es : List Int} {f0 : MFun} {r : List MFun} (h : okPk ⟨ss, gs, f0 :: r, es⟩) (n : Nat) (hn : n < 256) : okPk ⟨ss, gs, { f0 with params := n } :: r, es⟩ := by
 refine ⟨h.strings, h.globals, ⟨h.funcs.1, fun f hf => ?_⟩, h.entries⟩
 rcases List.mem_cons.1 hf with rfl | hf
 ·have h0 := h.funcs.2 f0 (by simp)
  exact ⟨h0.name, ⟨by show (0 : Int) ≤ (n : Int); omega, by show (n : Int) ≤ 1048576; omega⟩, h0.locals, h0.sites, h0.body⟩
 ·exact h.funcs.2 f (List.mem_cons_of_mem _ hf)
def retS (n : Nat) : MStmt := .mk 6 ⟨0, 0⟩ ⟨((1 + n % 4 : Nat) : Int), ((n / 4 : Nat) : Int)⟩ [] []
theorem okPk_body {ss : List ByteArray} {gs es : List Int} {f0 : MFun} {r : List MFun} (h : okPk ⟨ss, gs, f0 :: r, es⟩) (n : Nat) (hn : n < 256) (hb : f0.body.length ≤ 1000) : okPk ⟨ss, gs, { f0 with body := f0.body ++ [retS n] } :: r, es⟩ := by
 refine ⟨h.strings, h.globals, ⟨h.funcs.1, fun f hf => ?_⟩, h.entries⟩
 rcases List.mem_cons.1 hf with rfl | hf
 ·have h0 := h.funcs.2 f0 (by simp)
  refine ⟨h0.name, h0.params, h0.locals, h0.sites, ⟨by show (f0.body ++ [retS n]).length ≤ 1048576; simp; omega, fun s hs => ?_⟩⟩
  rcases List.mem_append.1 hs with hs | hs
  ·exact h0.body.2 s hs
  ·rw [List.mem_singleton] at hs
   subst hs
   unfold retS okSt
   refine ⟨by omega, by omega, ?_⟩
   rw [if_neg (by decide), if_neg (by decide), if_pos rfl]
   refine ⟨rfl, .inr ⟨by dsimp only; omega, by dsimp only; omega, by dsimp only; omega, by dsimp only; omega⟩, rfl, rfl⟩
 ·exact h.funcs.2 f (List.mem_cons_of_mem _ hf)
theorem okPk_entry {ss : List ByteArray} {gs es : List Int} {fs : List MFun} (h : okPk ⟨ss, gs, fs, es⟩) (n : Nat) (hn : n < 256) (hb : es.length ≤ 1000) : okPk ⟨ss, gs, fs, es ++ [(n : Int)]⟩ := by
 refine ⟨h.strings, h.globals, h.funcs, ⟨by show (es ++ [(n : Int)]).length ≤ 1048576; simp; omega, fun x hx => ?_⟩⟩
 rcases List.mem_append.1 hx with hx | hx
 ·exact h.entries.2 x hx
 ·rw [List.mem_singleton] at hx; subst hx; omega
def tildes : ByteArray := ⟨#[126, 126, 126]⟩
theorem okPk_string {ss : List ByteArray} {gs es : List Int} {fs : List MFun} (h : okPk ⟨ss, gs, fs, es⟩) (hb : ss.length ≤ 100000) : okPk ⟨ss ++ [tildes], gs, fs, es⟩ := by
 refine ⟨⟨by show (ss ++ [tildes]).length ≤ 1048576; simp; omega, fun x hx => ?_⟩, h.globals, h.funcs, h.entries⟩
 rcases List.mem_append.1 hx with hx | hx
 ·exact h.strings.2 x hx
 ·rw [List.mem_singleton] at hx; subst hx; decide
theorem len_name (ss : List ByteArray) (gs es : List Int) (f0 : MFun) (r : List MFun) (n : Int) : (packB ⟨ss, gs, { f0 with name := n } :: r, es⟩).length ≤ (packB ⟨ss, gs, f0 :: r, es⟩).length + 10 := by
 have := nuB_short n
 unfold packB
 simp only [List.length_append, List.flatMap_cons, List.length_cons]
 unfold funB
 simp only [List.length_append]
 omega
theorem len_params (ss : List ByteArray) (gs es : List Int) (f0 : MFun) (r : List MFun) (n : Int) : (packB ⟨ss, gs, { f0 with params := n } :: r, es⟩).length ≤ (packB ⟨ss, gs, f0 :: r, es⟩).length + 10 := by
 have := nuB_short n
 unfold packB
 simp only [List.length_append, List.flatMap_cons, List.length_cons]
 unfold funB
 simp only [List.length_append]
 omega
theorem len_body (ss : List ByteArray) (gs es : List Int) (f0 : MFun) (r : List MFun) (n : Nat) : (packB ⟨ss, gs, { f0 with body := f0.body ++ [retS n] } :: r, es⟩).length ≤ (packB ⟨ss, gs, f0 :: r, es⟩).length + 100 := by
 have h1 : (stmtB (retS n)).length ≤ 50 := by
  unfold retS
  rw [stmtB, if_neg (by decide), if_neg (by decide), if_neg (by decide)]
  have h1 := nuB_short 6
  have h2 : (refB ⟨((1 + n % 4 : Nat) : Int), ((n / 4 : Nat) : Int)⟩).length ≤ 10 := nuB_short _
  simp only [List.length_append, List.length_nil]
  omega
 have h2 := nuB_short ((f0.body ++ [retS n]).length : Nat)
 unfold packB
 simp only [List.length_append, List.flatMap_cons, List.length_cons]
 unfold funB bodyB
 simp only [List.length_append, List.flatMap_append, List.flatMap_cons, List.flatMap_nil, List.length_nil] at *
 omega
theorem len_entry (ss : List ByteArray) (gs es : List Int) (fs : List MFun) (n : Int) : (packB ⟨ss, gs, fs, es ++ [n]⟩).length ≤ (packB ⟨ss, gs, fs, es⟩).length + 20 := by
 have h1 := nuB_short n
 have h2 := nuB_short ((es ++ [n]).length : Nat)
 unfold packB listB
 simp only [List.length_append, List.flatMap_append, List.flatMap_cons, List.flatMap_nil, List.length_nil] at *
 omega
theorem len_string (ss : List ByteArray) (gs es : List Int) (fs : List MFun) : (packB ⟨ss ++ [tildes], gs, fs, es⟩).length ≤ (packB ⟨ss, gs, fs, es⟩).length + 100 := by
 have h1 : (textB tildes).length ≤ 13 := by
  unfold textB
  rw [List.length_append]
  have := nuB_short (tildes.size : Nat)
  have h3 : tildes.data.toList.length = 3 := rfl
  omega
 have h2 := nuB_short ((ss ++ [tildes]).length : Nat)
 unfold packB
 simp only [List.length_append, List.flatMap_append, List.flatMap_cons, List.flatMap_nil, List.length_nil] at *
 omega
theorem big_funs {m : Abs.Mod} (hk : okPk m) : ∀ f ∈ m.funcs, f.locals.length ≤ big ∧ f.sites.length ≤ big := fun f hf => by
 have h := hk.funcs.2 f hf
 have h1 := h.locals.1
 have h2 := h.sites.1
 unfold big; omega
theorem scal_tup (x : Option (Int × Int × Int)) : scal (.tup (tupV x)) = true := by rcases x with _ | ⟨a, b, c⟩ <;> rfl
theorem chk_go {r : R} {m : Abs.Mod} {h : H} (hk : okPk m) (hl : (packB m).length ≤ 100000000) (hr : r = withH false h (some (.ret (.tup (tupV (checkR m))), []))) :
  (pT r fun l => cI .i64 l 0 fun a => cI .i64 l 1 fun b => cI .i64 l 2 fun c => if l.length = 3 then T10 a b c m else none) = yes := by
 have : r = some (.ret (.tup (tupV (checkR m))), h) := by rw [hr]; unfold withH; dsimp only; rw [if_pos (by rw [scal_tup]; rfl)]
 rw [this, pT_some]
 rcases hc : checkR m with _ | ⟨a, b, c⟩
 ·exact tail_none hk hl hc
 ·exact tail_some hk hl hc
theorem kF_row (es : List Int) (n : Int) : ((((((kF .i64 es).drop 0).take (es.length * 1)) ++ ([F.s (.int .i64 n)])).drop 0).take ((es.length + 1) * 1)) = kF .i64 (es ++ [n]) := by
 rw [List.drop_zero, List.drop_zero, List.take_of_length_le (by simp), List.take_of_length_le (by simp)]
 simp [kF]
theorem sF_row (ss : List ByteArray) (x : ByteArray) : ((((((sF ss).drop 0).take (ss.length * 1)) ++ ([F.s (.string x)])).drop 0).take ((ss.length + 1) * 1)) = sF (ss ++ [x]) := by
 rw [List.drop_zero, List.drop_zero, List.take_of_length_le (by simp), List.take_of_length_le (by simp)]
 simp [sF]
theorem bF_row (b : List MStmt) (n : Nat) (hn : n < 256) : ((((((stmtsF b).drop 0).take (b.length * 7)) ++ ([F.s (.int .u8 6), F.s (.int .u8 0), F.s (.int .i64 0), F.s (.int .u8 (IntKind.wrap .u8 (1 + (Int.tmod n 4)))), F.s (.int .i64 (IntKind.wrap .i64 (IntKind.wrap .u8 (Int.tdiv n 4)))), F.lst 0 ([]), F.lst 0 ([])])).drop 0).take ((b.length + 1) * 7)) = stmtsF (b ++ [retS n]) := by
 have e1 : IntKind.wrap .u8 (1 + (Int.tmod (n : Int) 4)) = ((1 + n % 4 : Nat) : Int) := by
  rw [show Int.tmod (n : Int) 4 = ((n % 4 : Nat) : Int) from rfl, wrap_u8_in (by omega) (by omega)]; omega
 have e2 : IntKind.wrap .i64 (IntKind.wrap .u8 (Int.tdiv (n : Int) 4)) = ((n / 4 : Nat) : Int) := by
  rw [show Int.tdiv (n : Int) 4 = ((n / 4 : Nat) : Int) from rfl, wrap_u8_in (by omega) (by omega), wrap_i64 (by omega) (by omega)]
 have hl := flat_len MStmt.F_len b
 have hl2 : ∀ l : List F, l.length = 7 → (stmtsF b ++ l).length = (b.length + 1) * 7 := fun l h => by rw [List.length_append, h, hl]; omega
 rw [e1, e2, List.drop_zero, List.drop_zero, List.take_of_length_le (l := stmtsF b) (by rw [hl]; exact Nat.le_refl _), List.take_of_length_le (by rw [hl2 _ rfl]; exact Nat.le_refl _)]
 exact bSnoc b (retS n)
theorem chk1 (ss : List ByteArray) (gs es : List Int) (f0 : MFun) (hk : okPk ⟨ss, gs, [f0], es⟩) (hl : (packB ⟨ss, gs, [f0], es⟩).length ≤ 100000000) : PackFaults_6 ss.length (sF ss) gs.length (kF .i64 gs) es.length (kF .i64 es) f0.name f0.params f0.locals.length (kF .i64 f0.locals) f0.sites.length (kF .i64 f0.sites) f0.body.length (stmtsF f0.body) = yes := by
 obtain ⟨b1, b2, b3⟩ := big_of hk (by unfold lenB; omega)
 have hC := dCheck_core ⟨ss, gs, [f0], es⟩ b1 (by have := hk.globals.1; unfold big; omega) b2 b3 (big_funs hk)
 have hS := dCheck_v_c4c5 ss.length (sF ss) gs.length (kF .i64 gs) es.length (kF .i64 es) ss.length (sF ss) gs.length (kF .i64 gs) es.length (kF .i64 es) f0.name f0.params f0.locals.length (kF .i64 f0.locals) f0.sites.length (kF .i64 f0.sites) f0.body.length (stmtsF f0.body)
 rw [PackFaults_6_eq]
 exact chk_go (m := ⟨ss, gs, [f0], es⟩) hk hl (hS.trans (congrArg (withH false _) hC))
theorem node1 (ss : List ByteArray) (gs es : List Int) (f0 : MFun) (hk : okPk ⟨ss, gs, [f0], es⟩) (hl : (packB ⟨ss, gs, [f0], es⟩).length ≤ 90000000) (q1 : ss.length ≤ 100000) (q2 : es.length ≤ 1000) (q3 : f0.body.length ≤ 1000) (n : Nat) (hn : n < 256) (how : Int) : PackFaults_2 n how ss.length (sF ss) gs.length (kF .i64 gs) es.length (kF .i64 es) f0.name f0.params f0.locals.length (kF .i64 f0.locals) f0.sites.length (kF .i64 f0.sites) f0.body.length (stmtsF f0.body) = yes := by
 have hw : IntKind.wrap .i64 (n : Int) = (n : Int) := wrap_i64 (by omega) (by omega)
 rw [PackFaults_2_eq, hw]
 by_cases h0 : how = 0
 ·rw [if_pos (by simp [h0])]
  exact chk1 ss gs es { f0 with name := (n : Int) } (okPk_name hk n hn) (by have := len_name ss gs es f0 [] n; omega)
 rw [if_neg (by simpa using h0)]
 by_cases h1 : how = 1
 ·rw [if_pos (by simp [h1]), if_pos ⟨by decide, by simp, by decide⟩, if_pos (by omega), if_pos ⟨rfl, by omega⟩, if_pos (by simp), if_pos (by simp), kF_row]
  have := chk1 ss gs (es ++ [(n : Int)]) f0 (okPk_entry hk n hn q2) (by have := len_entry ss gs es [f0] n; omega)
  rw [List.length_append, List.length_singleton] at this
  exact this
 rw [if_neg (by simpa using h1)]
 by_cases h2 : how = 2
 ·rw [if_pos (by simp [h2]), if_pos ⟨by decide, by simp, by decide⟩, if_pos (by omega), if_pos ⟨rfl, by omega⟩, if_pos (by simp), if_pos (by simp), sF_row]
  have := chk1 (ss ++ [tildes]) gs es f0 (okPk_string hk q1) (by have := len_string ss gs es [f0]; omega)
  rw [List.length_append, List.length_singleton] at this
  exact this
 rw [if_neg (by simpa using h2)]
 by_cases h3 : how = 3
 ·rw [if_pos (by simp [h3])]
  exact chk1 ss gs es { f0 with params := (n : Int) } (okPk_params hk n hn) (by have := len_params ss gs es f0 [] n; omega)
 rw [if_neg (by simpa using h3)]
 have hfl := flat_len MStmt.F_len f0.body
 rw [if_pos ⟨by decide, hfl, by decide⟩, if_pos (by omega), if_pos ⟨rfl, by omega⟩, if_pos (by rw [hfl]; omega), if_pos (by rw [List.length_append, List.drop_zero, List.take_of_length_le (by rw [hfl]; exact Nat.le_refl _), hfl]; simp; omega), bF_row f0.body n hn]
 have := chk1 ss gs es { f0 with body := f0.body ++ [retS n] } (okPk_body hk n hn q3) (by have := len_body ss gs es f0 [] n; omega)
 rw [List.length_append, List.length_singleton] at this
 exact this
theorem chk2 (ss : List ByteArray) (gs es : List Int) (f0 f1 : MFun) (hk : okPk ⟨ss, gs, [f0, f1], es⟩) (hl : (packB ⟨ss, gs, [f0, f1], es⟩).length ≤ 100000000) : PackFaults_7 ss.length (sF ss) gs.length (kF .i64 gs) es.length (kF .i64 es) f0.name f0.params f0.locals.length (kF .i64 f0.locals) f0.sites.length (kF .i64 f0.sites) f0.body.length (stmtsF f0.body) f1.name f1.params f1.locals.length (kF .i64 f1.locals) f1.sites.length (kF .i64 f1.sites) f1.body.length (stmtsF f1.body) = yes := by
 obtain ⟨b1, b2, b3⟩ := big_of hk (by unfold lenB; omega)
 have hC := dCheck_core ⟨ss, gs, [f0, f1], es⟩ b1 (by have := hk.globals.1; unfold big; omega) b2 b3 (big_funs hk)
 have hS := dCheck_v_c4c10 ss.length (sF ss) gs.length (kF .i64 gs) es.length (kF .i64 es) ss.length (sF ss) gs.length (kF .i64 gs) es.length (kF .i64 es) f0.name f0.params f0.locals.length (kF .i64 f0.locals) f0.sites.length (kF .i64 f0.sites) f0.body.length (stmtsF f0.body) f1.name f1.params f1.locals.length (kF .i64 f1.locals) f1.sites.length (kF .i64 f1.sites) f1.body.length (stmtsF f1.body)
 rw [PackFaults_7_eq]
 exact chk_go (m := ⟨ss, gs, [f0, f1], es⟩) hk hl (hS.trans (congrArg (withH false _) hC))
theorem node2 (ss : List ByteArray) (gs es : List Int) (f0 f1 : MFun) (hk : okPk ⟨ss, gs, [f0, f1], es⟩) (hl : (packB ⟨ss, gs, [f0, f1], es⟩).length ≤ 90000000) (q1 : ss.length ≤ 100000) (q2 : es.length ≤ 1000) (q3 : f0.body.length ≤ 1000) (n : Nat) (hn : n < 256) (how : Int) : PackFaults_3 n how ss.length (sF ss) gs.length (kF .i64 gs) es.length (kF .i64 es) f0.name f0.params f0.locals.length (kF .i64 f0.locals) f0.sites.length (kF .i64 f0.sites) f0.body.length (stmtsF f0.body) f1.name f1.params f1.locals.length (kF .i64 f1.locals) f1.sites.length (kF .i64 f1.sites) f1.body.length (stmtsF f1.body) = yes := by
 have hw : IntKind.wrap .i64 (n : Int) = (n : Int) := wrap_i64 (by omega) (by omega)
 rw [PackFaults_3_eq, hw]
 by_cases h0 : how = 0
 ·rw [if_pos (by simp [h0])]
  exact chk2 ss gs es { f0 with name := (n : Int) } f1 (okPk_name hk n hn) (by have := len_name ss gs es f0 [f1] n; omega)
 rw [if_neg (by simpa using h0)]
 by_cases h1 : how = 1
 ·rw [if_pos (by simp [h1]), if_pos ⟨by decide, by simp, by decide⟩, if_pos (by omega), if_pos ⟨rfl, by omega⟩, if_pos (by simp), if_pos (by simp), kF_row]
  have := chk2 ss gs (es ++ [(n : Int)]) f0 f1 (okPk_entry hk n hn q2) (by have := len_entry ss gs es [f0, f1] n; omega)
  rw [List.length_append, List.length_singleton] at this
  exact this
 rw [if_neg (by simpa using h1)]
 by_cases h2 : how = 2
 ·rw [if_pos (by simp [h2]), if_pos ⟨by decide, by simp, by decide⟩, if_pos (by omega), if_pos ⟨rfl, by omega⟩, if_pos (by simp), if_pos (by simp), sF_row]
  have := chk2 (ss ++ [tildes]) gs es f0 f1 (okPk_string hk q1) (by have := len_string ss gs es [f0, f1]; omega)
  rw [List.length_append, List.length_singleton] at this
  exact this
 rw [if_neg (by simpa using h2)]
 by_cases h3 : how = 3
 ·rw [if_pos (by simp [h3])]
  exact chk2 ss gs es { f0 with params := (n : Int) } f1 (okPk_params hk n hn) (by have := len_params ss gs es f0 [f1] n; omega)
 rw [if_neg (by simpa using h3)]
 have hfl := flat_len MStmt.F_len f0.body
 rw [if_pos ⟨by decide, hfl, by decide⟩, if_pos (by omega), if_pos ⟨rfl, by omega⟩, if_pos (by rw [hfl]; omega), if_pos (by rw [List.length_append, List.drop_zero, List.take_of_length_le (by rw [hfl]; exact Nat.le_refl _), hfl]; simp; omega), bF_row f0.body n hn]
 have := chk2 ss gs es { f0 with body := f0.body ++ [retS n] } f1 (okPk_body hk n hn q3) (by have := len_body ss gs es f0 [f1] n; omega)
 rw [List.length_append, List.length_singleton] at this
 exact this
theorem chk3 (ss : List ByteArray) (gs es : List Int) (f0 f1 f2 : MFun) (hk : okPk ⟨ss, gs, [f0, f1, f2], es⟩) (hl : (packB ⟨ss, gs, [f0, f1, f2], es⟩).length ≤ 100000000) : PackFaults_8 ss.length (sF ss) gs.length (kF .i64 gs) es.length (kF .i64 es) f0.name f0.params f0.locals.length (kF .i64 f0.locals) f0.sites.length (kF .i64 f0.sites) f0.body.length (stmtsF f0.body) f1.name f1.params f1.locals.length (kF .i64 f1.locals) f1.sites.length (kF .i64 f1.sites) f1.body.length (stmtsF f1.body) f2.name f2.params f2.locals.length (kF .i64 f2.locals) f2.sites.length (kF .i64 f2.sites) f2.body.length (stmtsF f2.body) = yes := by
 obtain ⟨b1, b2, b3⟩ := big_of hk (by unfold lenB; omega)
 have hC := dCheck_core ⟨ss, gs, [f0, f1, f2], es⟩ b1 (by have := hk.globals.1; unfold big; omega) b2 b3 (big_funs hk)
 have hS := dCheck_v_c4c15 ss.length (sF ss) gs.length (kF .i64 gs) es.length (kF .i64 es) ss.length (sF ss) gs.length (kF .i64 gs) es.length (kF .i64 es) f0.name f0.params f0.locals.length (kF .i64 f0.locals) f0.sites.length (kF .i64 f0.sites) f0.body.length (stmtsF f0.body) f1.name f1.params f1.locals.length (kF .i64 f1.locals) f1.sites.length (kF .i64 f1.sites) f1.body.length (stmtsF f1.body) f2.name f2.params f2.locals.length (kF .i64 f2.locals) f2.sites.length (kF .i64 f2.sites) f2.body.length (stmtsF f2.body)
 rw [PackFaults_8_eq]
 exact chk_go (m := ⟨ss, gs, [f0, f1, f2], es⟩) hk hl (hS.trans (congrArg (withH false _) hC))
theorem node3 (ss : List ByteArray) (gs es : List Int) (f0 f1 f2 : MFun) (hk : okPk ⟨ss, gs, [f0, f1, f2], es⟩) (hl : (packB ⟨ss, gs, [f0, f1, f2], es⟩).length ≤ 90000000) (q1 : ss.length ≤ 100000) (q2 : es.length ≤ 1000) (q3 : f0.body.length ≤ 1000) (n : Nat) (hn : n < 256) (how : Int) : PackFaults_4 n how ss.length (sF ss) gs.length (kF .i64 gs) es.length (kF .i64 es) f0.name f0.params f0.locals.length (kF .i64 f0.locals) f0.sites.length (kF .i64 f0.sites) f0.body.length (stmtsF f0.body) f1.name f1.params f1.locals.length (kF .i64 f1.locals) f1.sites.length (kF .i64 f1.sites) f1.body.length (stmtsF f1.body) f2.name f2.params f2.locals.length (kF .i64 f2.locals) f2.sites.length (kF .i64 f2.sites) f2.body.length (stmtsF f2.body) = yes := by
 have hw : IntKind.wrap .i64 (n : Int) = (n : Int) := wrap_i64 (by omega) (by omega)
 rw [PackFaults_4_eq, hw]
 by_cases h0 : how = 0
 ·rw [if_pos (by simp [h0])]
  exact chk3 ss gs es { f0 with name := (n : Int) } f1 f2 (okPk_name hk n hn) (by have := len_name ss gs es f0 [f1, f2] n; omega)
 rw [if_neg (by simpa using h0)]
 by_cases h1 : how = 1
 ·rw [if_pos (by simp [h1]), if_pos ⟨by decide, by simp, by decide⟩, if_pos (by omega), if_pos ⟨rfl, by omega⟩, if_pos (by simp), if_pos (by simp), kF_row]
  have := chk3 ss gs (es ++ [(n : Int)]) f0 f1 f2 (okPk_entry hk n hn q2) (by have := len_entry ss gs es [f0, f1, f2] n; omega)
  rw [List.length_append, List.length_singleton] at this
  exact this
 rw [if_neg (by simpa using h1)]
 by_cases h2 : how = 2
 ·rw [if_pos (by simp [h2]), if_pos ⟨by decide, by simp, by decide⟩, if_pos (by omega), if_pos ⟨rfl, by omega⟩, if_pos (by simp), if_pos (by simp), sF_row]
  have := chk3 (ss ++ [tildes]) gs es f0 f1 f2 (okPk_string hk q1) (by have := len_string ss gs es [f0, f1, f2]; omega)
  rw [List.length_append, List.length_singleton] at this
  exact this
 rw [if_neg (by simpa using h2)]
 by_cases h3 : how = 3
 ·rw [if_pos (by simp [h3])]
  exact chk3 ss gs es { f0 with params := (n : Int) } f1 f2 (okPk_params hk n hn) (by have := len_params ss gs es f0 [f1, f2] n; omega)
 rw [if_neg (by simpa using h3)]
 have hfl := flat_len MStmt.F_len f0.body
 rw [if_pos ⟨by decide, hfl, by decide⟩, if_pos (by omega), if_pos ⟨rfl, by omega⟩, if_pos (by rw [hfl]; omega), if_pos (by rw [List.length_append, List.drop_zero, List.take_of_length_le (by rw [hfl]; exact Nat.le_refl _), hfl]; simp; omega), bF_row f0.body n hn]
 have := chk3 ss gs es { f0 with body := f0.body ++ [retS n] } f1 f2 (okPk_body hk n hn q3) (by have := len_body ss gs es f0 [f1, f2] n; omega)
 rw [List.length_append, List.length_singleton] at this
 exact this
theorem chk4 (ss : List ByteArray) (gs es : List Int) (f0 f1 f2 f3 : MFun) (hk : okPk ⟨ss, gs, [f0, f1, f2, f3], es⟩) (hl : (packB ⟨ss, gs, [f0, f1, f2, f3], es⟩).length ≤ 100000000) : PackFaults_9 ss.length (sF ss) gs.length (kF .i64 gs) es.length (kF .i64 es) f0.name f0.params f0.locals.length (kF .i64 f0.locals) f0.sites.length (kF .i64 f0.sites) f0.body.length (stmtsF f0.body) f1.name f1.params f1.locals.length (kF .i64 f1.locals) f1.sites.length (kF .i64 f1.sites) f1.body.length (stmtsF f1.body) f2.name f2.params f2.locals.length (kF .i64 f2.locals) f2.sites.length (kF .i64 f2.sites) f2.body.length (stmtsF f2.body) f3.name f3.params f3.locals.length (kF .i64 f3.locals) f3.sites.length (kF .i64 f3.sites) f3.body.length (stmtsF f3.body) = yes := by
 obtain ⟨b1, b2, b3⟩ := big_of hk (by unfold lenB; omega)
 have hC := dCheck_core ⟨ss, gs, [f0, f1, f2, f3], es⟩ b1 (by have := hk.globals.1; unfold big; omega) b2 b3 (big_funs hk)
 have hS := dCheck_v_c4c20 ss.length (sF ss) gs.length (kF .i64 gs) es.length (kF .i64 es) ss.length (sF ss) gs.length (kF .i64 gs) es.length (kF .i64 es) f0.name f0.params f0.locals.length (kF .i64 f0.locals) f0.sites.length (kF .i64 f0.sites) f0.body.length (stmtsF f0.body) f1.name f1.params f1.locals.length (kF .i64 f1.locals) f1.sites.length (kF .i64 f1.sites) f1.body.length (stmtsF f1.body) f2.name f2.params f2.locals.length (kF .i64 f2.locals) f2.sites.length (kF .i64 f2.sites) f2.body.length (stmtsF f2.body) f3.name f3.params f3.locals.length (kF .i64 f3.locals) f3.sites.length (kF .i64 f3.sites) f3.body.length (stmtsF f3.body)
 rw [PackFaults_9_eq]
 exact chk_go (m := ⟨ss, gs, [f0, f1, f2, f3], es⟩) hk hl (hS.trans (congrArg (withH false _) hC))
theorem node4 (ss : List ByteArray) (gs es : List Int) (f0 f1 f2 f3 : MFun) (hk : okPk ⟨ss, gs, [f0, f1, f2, f3], es⟩) (hl : (packB ⟨ss, gs, [f0, f1, f2, f3], es⟩).length ≤ 90000000) (q1 : ss.length ≤ 100000) (q2 : es.length ≤ 1000) (q3 : f0.body.length ≤ 1000) (n : Nat) (hn : n < 256) (how : Int) : PackFaults_5 n how ss.length (sF ss) gs.length (kF .i64 gs) es.length (kF .i64 es) f0.name f0.params f0.locals.length (kF .i64 f0.locals) f0.sites.length (kF .i64 f0.sites) f0.body.length (stmtsF f0.body) f1.name f1.params f1.locals.length (kF .i64 f1.locals) f1.sites.length (kF .i64 f1.sites) f1.body.length (stmtsF f1.body) f2.name f2.params f2.locals.length (kF .i64 f2.locals) f2.sites.length (kF .i64 f2.sites) f2.body.length (stmtsF f2.body) f3.name f3.params f3.locals.length (kF .i64 f3.locals) f3.sites.length (kF .i64 f3.sites) f3.body.length (stmtsF f3.body) = yes := by
 have hw : IntKind.wrap .i64 (n : Int) = (n : Int) := wrap_i64 (by omega) (by omega)
 rw [PackFaults_5_eq, hw]
 by_cases h0 : how = 0
 ·rw [if_pos (by simp [h0])]
  exact chk4 ss gs es { f0 with name := (n : Int) } f1 f2 f3 (okPk_name hk n hn) (by have := len_name ss gs es f0 [f1, f2, f3] n; omega)
 rw [if_neg (by simpa using h0)]
 by_cases h1 : how = 1
 ·rw [if_pos (by simp [h1]), if_pos ⟨by decide, by simp, by decide⟩, if_pos (by omega), if_pos ⟨rfl, by omega⟩, if_pos (by simp), if_pos (by simp), kF_row]
  have := chk4 ss gs (es ++ [(n : Int)]) f0 f1 f2 f3 (okPk_entry hk n hn q2) (by have := len_entry ss gs es [f0, f1, f2, f3] n; omega)
  rw [List.length_append, List.length_singleton] at this
  exact this
 rw [if_neg (by simpa using h1)]
 by_cases h2 : how = 2
 ·rw [if_pos (by simp [h2]), if_pos ⟨by decide, by simp, by decide⟩, if_pos (by omega), if_pos ⟨rfl, by omega⟩, if_pos (by simp), if_pos (by simp), sF_row]
  have := chk4 (ss ++ [tildes]) gs es f0 f1 f2 f3 (okPk_string hk q1) (by have := len_string ss gs es [f0, f1, f2, f3]; omega)
  rw [List.length_append, List.length_singleton] at this
  exact this
 rw [if_neg (by simpa using h2)]
 by_cases h3 : how = 3
 ·rw [if_pos (by simp [h3])]
  exact chk4 ss gs es { f0 with params := (n : Int) } f1 f2 f3 (okPk_params hk n hn) (by have := len_params ss gs es f0 [f1, f2, f3] n; omega)
 rw [if_neg (by simpa using h3)]
 have hfl := flat_len MStmt.F_len f0.body
 rw [if_pos ⟨by decide, hfl, by decide⟩, if_pos (by omega), if_pos ⟨rfl, by omega⟩, if_pos (by rw [hfl]; omega), if_pos (by rw [List.length_append, List.drop_zero, List.take_of_length_le (by rw [hfl]; exact Nat.le_refl _), hfl]; simp; omega), bF_row f0.body n hn]
 have := chk4 ss gs es { f0 with body := f0.body ++ [retS n] } f1 f2 f3 (okPk_body hk n hn q3) (by have := len_body ss gs es f0 [f1, f2, f3] n; omega)
 rw [List.length_append, List.length_singleton] at this
 exact this
theorem make_len (g f e : Nat) (acts : List MAct) : (makeM g f e acts).funcs.length = funN f := by
 show ((rawM g f e acts).funcs.map _).length = funN f
 rw [List.length_map]
 exact (bodyM_len (frameM g f e) acts.length acts 0 (frameM g f e).funcs).trans (funF0_len f _ _ _)
theorem faults_1 {m : Abs.Mod} (hc : checkR m = none) (hN : 1 ≤ m.funcs.length ∧ m.funcs.length ≤ 4) (n : Nat) (hn : n < 256) (how : Int) : PackFaults_1 how n m.strings.length (sF m.strings) m.globals.length (kF .i64 m.globals) m.funcs.length m.entries.length (kF .i64 m.entries) (funsF m.funcs) = yes := by
 obtain ⟨hk, hl⟩ := okPk_of hc
 have ht := tree_fine (check_tree hc)
 have hs := (strings_ok hc).1
 have he := ht.entries
 have hb : ∀ f ∈ m.funcs, f.body.length ≤ 1000 := fun f hf => by
  have ff := ht.fns f hf
  have hge := flats_ge 0 0 f.body
  have h5 := ff.flats
  omega
 obtain ⟨ss, gs, fs, es⟩ := m
 dsimp only at hs he hb hN ⊢
 cases fs with
 | nil => simp at hN
 | cons f0 fs =>
  cases fs with
  | nil =>
   have e := PackFaults_1_eq_1 how n ss.length (sF ss) gs.length (kF .i64 gs) es.length (kF .i64 es) f0.name f0.params f0.locals.length (kF .i64 f0.locals) f0.sites.length (kF .i64 f0.sites) f0.body.length (stmtsF f0.body)
   exact e.trans (node1 ss gs es f0 hk (by omega) (by omega) (by omega) (hb f0 (by simp)) n hn _)
  | cons f1 fs =>
   cases fs with
   | nil =>
    have e := PackFaults_1_eq_2 how n ss.length (sF ss) gs.length (kF .i64 gs) es.length (kF .i64 es) f0.name f0.params f0.locals.length (kF .i64 f0.locals) f0.sites.length (kF .i64 f0.sites) f0.body.length (stmtsF f0.body) f1.name f1.params f1.locals.length (kF .i64 f1.locals) f1.sites.length (kF .i64 f1.sites) f1.body.length (stmtsF f1.body)
    exact e.trans (node2 ss gs es f0 f1 hk (by omega) (by omega) (by omega) (hb f0 (by simp)) n hn _)
   | cons f2 fs =>
    cases fs with
    | nil =>
     have e := PackFaults_1_eq_3 how n ss.length (sF ss) gs.length (kF .i64 gs) es.length (kF .i64 es) f0.name f0.params f0.locals.length (kF .i64 f0.locals) f0.sites.length (kF .i64 f0.sites) f0.body.length (stmtsF f0.body) f1.name f1.params f1.locals.length (kF .i64 f1.locals) f1.sites.length (kF .i64 f1.sites) f1.body.length (stmtsF f1.body) f2.name f2.params f2.locals.length (kF .i64 f2.locals) f2.sites.length (kF .i64 f2.sites) f2.body.length (stmtsF f2.body)
     exact e.trans (node3 ss gs es f0 f1 f2 hk (by omega) (by omega) (by omega) (hb f0 (by simp)) n hn _)
    | cons f3 fs =>
     cases fs with
     | nil =>
      have e := PackFaults_1_eq_4 how n ss.length (sF ss) gs.length (kF .i64 gs) es.length (kF .i64 es) f0.name f0.params f0.locals.length (kF .i64 f0.locals) f0.sites.length (kF .i64 f0.sites) f0.body.length (stmtsF f0.body) f1.name f1.params f1.locals.length (kF .i64 f1.locals) f1.sites.length (kF .i64 f1.sites) f1.body.length (stmtsF f1.body) f2.name f2.params f2.locals.length (kF .i64 f2.locals) f2.sites.length (kF .i64 f2.sites) f2.body.length (stmtsF f2.body) f3.name f3.params f3.locals.length (kF .i64 f3.locals) f3.sites.length (kF .i64 f3.sites) f3.body.length (stmtsF f3.body)
      exact e.trans (node4 ss gs es f0 f1 f2 f3 hk (by omega) (by omega) (by omega) (hb f0 (by simp)) n hn _)
     | cons f4 fs => simp at hN
theorem PackFaults_law (g f e : Nat) (hg : g < 256) (hf : f < 256) (he : e < 256) (acts : List MAct) (hx : ∀ x ∈ acts, x.ok) (how n : Nat) (hh : how < 256) (hn : n < 256) :
  PackFaults_0 g f e acts.length (actsF acts) how n = yes := by
 rw [PackFaults_eq, pawake_spec, pB_some, if_pos (show (!true) = false from rfl)]
 by_cases ha : acts.length ≤ 60
 ·rw [if_neg (by simp; omega), mMake_v_c4, mMake_core g f e hg hf he acts ha hx]
  have hc := make_check g f e acts (by omega)
  have hN := make_len g f e acts
  have hfn : 1 ≤ funN f ∧ funN f ≤ 4 := by unfold funN; omega
  generalize makeM g f e acts = m at hc hN
  have hl : (funsF m.funcs).length = m.funcs.length * 5 := flat_len MFun.F_len _
  refine Eq.trans (b := if 0 + (m.funcs.length * 5) ≤ (funsF m.funcs).length then PackFaults_1 how n m.strings.length (sF m.strings) m.globals.length (kF .i64 m.globals) m.funcs.length m.entries.length (kF .i64 m.entries) (((funsF m.funcs).drop 0).take (m.funcs.length * 5)) else none) rfl ?_
  rw [if_pos (by omega), List.drop_zero, List.take_of_length_le (by omega)]
  exact faults_1 hc (by omega) n hn how
 ·rw [if_pos (by simp; omega), pB_some]
set_option maxRecDepth 100000 in
theorem PackFaults_all (l : List (List F)) (h : Args Tryd.prog Tryd.f5.params.toList l) : ∃ h', run w0 5 (argVs Tryd.prog Tryd.f5.params.toList l) [] = some (.ret (B true), h') := by
 obtain ⟨x1, l1, rfl, h1, h⟩ := h.cons_inv
 obtain ⟨x2, l2, rfl, h2, h⟩ := h.cons_inv
 obtain ⟨x3, l3, rfl, h3, h⟩ := h.cons_inv
 obtain rfl := h.nil_inv
 obtain ⟨g, f, e, acts, rfl, hg, hf, he, _, hx⟩ := draft_of h1
 obtain ⟨n2, rfl, hn2⟩ := h2.of_int (k := .u8) (by kernel_rfl)
 obtain ⟨n2, rfl, hu2⟩ := wf_u8 hn2
 obtain ⟨n3, rfl, hn3⟩ := h3.of_int (k := .u8) (by kernel_rfl)
 obtain ⟨n3, rfl, hu3⟩ := wf_u8 hn3
 have h : run w0 5 [.agg [N .u8 g, N .u8 f, N .u8 e, .f (.lst acts.length (actsF acts))], N .u8 n2, N .u8 n3] [] = some (.ret (B true), []) := by rw [PackFaults_run, PackFaults_law g f e hg hf he acts hx n2 n3 hu2 hu3, withH_true]
 exact ⟨[], h⟩
end Go.Proofs.YtemnahkpffafoaaDoor
