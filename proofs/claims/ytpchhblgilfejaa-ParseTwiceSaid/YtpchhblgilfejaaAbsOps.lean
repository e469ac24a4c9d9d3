/-
  Each operation of the abstract machine, held against Go's: reads and reckonings.
-/
import Derived.Test.YtpchhblgilfejaaAbsRel
import Derived.Laws.Slices
import Derived.Laws.BytesString
set_option autoImplicit false
set_option linter.unusedVariables false
set_option linter.unusedSimpArgs false
namespace Go.Abs
open Go

theorem V.f?_eq {v : V} {x : F} : v.f? = some x ↔ v = .f x := by cases v <;> simp [V.f?]
theorem F.int?_eq {k : IntKind} {x : F} {n : Int} : F.int? k x = some n ↔ x = .s (.int k n) := by
  unfold F.int?
  split
  · rename_i k' n'
    by_cases h : k' = k
    · subst h; simp
    · simp [h]
  · rename_i h; simp; rintro rfl; exact h _ _ rfl
theorem F.bool?_eq {x : F} {n : Bool} : F.bool? x = some n ↔ x = .s (.bool n) := by
  unfold F.bool?; split
  · simp
  · rename_i h; simp; rintro rfl; exact h _ rfl
theorem F.str?_eq {x : F} {n : ByteArray} : F.str? x = some n ↔ x = .s (.string n) := by
  unfold F.str?; split
  · simp
  · rename_i h; simp; rintro rfl; exact h _ rfl
theorem V.int?_eq {k : IntKind} {v : V} {n : Int} : V.int? k v = some n ↔ v = .f (.s (.int k n)) := by
  simp [V.int?, Option.bind_eq_some_iff, V.f?_eq, F.int?_eq]
theorem V.bool?_eq {v : V} {n : Bool} : V.bool? v = some n ↔ v = .f (.s (.bool n)) := by
  simp [V.bool?, Option.bind_eq_some_iff, V.f?_eq, F.bool?_eq]
theorem V.str?_eq {v : V} {n : ByteArray} : V.str? v = some n ↔ v = .f (.s (.string n)) := by
  simp [V.str?, Option.bind_eq_some_iff, V.f?_eq, F.str?_eq]
theorem V.any?_eq {v : V} {k : IntKind} {n : Int} : V.any? v = some (k, n) ↔ v = .f (.s (.int k n)) := by
  unfold V.any?; split
  · simp
  · rename_i h; simp; rintro rfl; exact h _ _ rfl
theorem asIx_eq {v : V} {n : Int} : asIx v = some n ↔ ∃ k, v = .f (.s (.int k n)) := by
  simp [asIx, V.any?_eq]
theorem rel_s {η : Et} {ro : Ro} {x : Value} {v : Value} (h : VRel η ro (.f (.s x)) v) : v = x := by
  simp only [VRel, FRel] at h; exact h.1
theorem rel_s' {η : Et} {ro : Ro} {x : Value} (h : x.oneCell' = true) : VRel η ro (.f (.s x)) x := by
  simp only [VRel, FRel]; exact ⟨trivial, h⟩

/-- an answer, through a look at it -/
theorem sl_rel {x : F} {q : Nat × List F} {ro : Ro} {cv : Value} (h : F.sl? x = some q) (hx : FRel ro x cv) : FRel ro (.lst q.1 q.2) cv := by
  unfold F.sl? at h
  split at h <;> cases h
  · exact hx
  · obtain ⟨rfl, _⟩ := hx; exact ⟨none, 0, rfl, Nat.le_refl _, .inl ⟨rfl, rfl⟩⟩
theorem coeF_rel {z : Value} {x : F} {v : V} {e : H} (h : coeF z x idV = some (.ret v, e)) {η : Et} {ro : Ro} {cv : Value} (hx : FRel ro x cv) : VRel η ro v cv := by
  unfold coeF at h
  split at h
  · obtain ⟨n, h1, h2⟩ := Option.bind_eq_some_iff.1 h; rw [F.int?_eq] at h1; subst h1; simp [idV] at h2; rw [← h2.1]; exact hx
  · obtain ⟨n, h1, h2⟩ := Option.bind_eq_some_iff.1 h; rw [F.bool?_eq] at h1; subst h1; simp [idV] at h2; rw [← h2.1]; exact hx
  · obtain ⟨n, h1, h2⟩ := Option.bind_eq_some_iff.1 h; rw [F.str?_eq] at h1; subst h1; simp [idV] at h2; rw [← h2.1]; exact hx
  · obtain ⟨q, h1, h2⟩ := Option.bind_eq_some_iff.1 h; simp [idV] at h2; rw [← h2.1]; exact sl_rel h1 hx
  · simp [idV] at h; rw [← h.1]; exact hx
theorem coe_rel {z : Value} {x : V} {v : V} {e : H} (h : coe z x idV = some (.ret v, e)) {η : Et} {ro : Ro} {cv : Value} (hx : VRel η ro x cv) : VRel η ro v cv := by
  unfold coe at h
  split at h
  · obtain ⟨n, h1, h2⟩ := Option.bind_eq_some_iff.1 h; rw [V.int?_eq] at h1; subst h1; simp [idV] at h2; rw [← h2.1]; exact hx
  · obtain ⟨n, h1, h2⟩ := Option.bind_eq_some_iff.1 h; rw [V.bool?_eq] at h1; subst h1; simp [idV] at h2; rw [← h2.1]; exact hx
  · obtain ⟨n, h1, h2⟩ := Option.bind_eq_some_iff.1 h; rw [V.str?_eq] at h1; subst h1; simp [idV] at h2; rw [← h2.1]; exact hx
  · split at h
    · obtain ⟨q, h1, h2⟩ := Option.bind_eq_some_iff.1 h; simp [idV] at h2; rw [← h2.1]; exact sl_rel h1 hx
    · simp [idV] at h; rw [← h.1]; exact hx
  · simp [idV] at h; rw [← h.1]; exact hx
/-- what a natural operation hands on, by idV -/
theorem NatV.got {f : (V → R) → R} (hf : NatV f) {h h' : H} {o : Out} (e : f (fun v => idK v h) = some (o, h')) : ∃ v, o = .ret v ∧ h' = h ∧ ∃ x, f idV = some (.ret v, x) := by
  rw [hf.out] at e
  cases hq : f idV with
  | none => rw [hq] at e; cases e
  | some r =>
    obtain ⟨o', x⟩ := r
    rw [hq] at e
    cases o' with
    | pan v => cases e
    | ret v => simp [onV, idK] at e; exact ⟨v, e.1.symm, e.2.symm, x, rfl⟩
theorem NatV.not_pan {f : (V → R) → R} (hf : NatV f) {v : V} {x : H} : f idV ≠ some (.pan v, x) := by
  intro e
  have := hf.out (fun v => idK v [])
  rw [e] at this
  have h2 := hf.out idV
  rw [e] at h2
  cases h2

section
variable {P : Program} {η : Et} {ro : Ro} {h : H} {w : World}

/-! ### whole numbers, bools, strings -/
theorem sim_intBin {op : BinOp} {k : IntKind} {a b : Int} {v : V} {x : H} (hop : op ≠ .shl ∧ op ≠ .shr) (e : intBin op k a b idV = some (.ret v, x)) (t : TypeId) :
    ∃ cv, (Go.binOp op t (.int k a) (.int k b)).run P w = .ok cv w ∧ VRel η ro v cv := by
  cases op
  case quo =>
    by_cases h0 : b = 0
    · simp [intBin, h0] at e
    · simp [intBin, idV, h0] at e; obtain ⟨rfl, _⟩ := e; exact ⟨_, by simp [Go.binOp, Go.Op.intDiv, h0], rel_s' rfl⟩
  case rem =>
    by_cases h0 : b = 0
    · simp [intBin, h0] at e
    · simp [intBin, idV, h0] at e; obtain ⟨rfl, _⟩ := e; exact ⟨_, by simp [Go.binOp, Go.Op.intDiv, h0], rel_s' rfl⟩
  case shl => exact absurd rfl hop.1
  case shr => exact absurd rfl hop.2
  all_goals
    simp [intBin, idV] at e
    obtain ⟨rfl, _⟩ := e
    exact ⟨_, by simp [Go.binOp, Go.Op.intArith, Go.Op.intBits, Go.Op.intCmp], rel_s' rfl⟩
theorem sim_shiftBin {op : BinOp} {k k' : IntKind} {a b : Int} {v : V} {x : H} (hop : op = .shl ∨ op = .shr) (e : shiftBin op k a b idV = some (.ret v, x)) (t : TypeId) :
    ∃ cv, (Go.binOp op t (.int k a) (.int k' b)).run P w = .ok cv w ∧ VRel η ro v cv := by
  unfold shiftBin at e
  split at e
  · cases e
  · rename_i hb
    rcases hop with rfl | rfl <;> simp [idV] at e <;> obtain ⟨rfl, _⟩ := e <;>
      exact ⟨_, by simp [Go.binOp, Go.Op.shift, hb], rel_s' rfl⟩
theorem sim_strBin {op : BinOp} {a b : ByteArray} {v : V} {x : H} (e : strBin op a b idV = some (.ret v, x)) (t : TypeId) :
    ∃ cv, (Go.binOp op t (.string a) (.string b)).run P w = .ok cv w ∧ VRel η ro v cv := by
  cases op
  case add =>
    simp only [strBin] at e
    split at e
    · cases e
    · rename_i hs
      simp [idV] at e; obtain ⟨rfl, _⟩ := e
      refine ⟨_, ?_, rel_s' rfl⟩
      simp only [Go.binOp, Go.Op.stringOp]; rw [if_neg (by simp [IntKind.max, IntKind.signed, IntKind.bits]; omega)]; rfl
  case eql => simp [strBin, idV] at e; obtain ⟨rfl, _⟩ := e; exact ⟨_, by simp [Go.binOp, Go.Op.stringOp], rel_s' rfl⟩
  case neq => simp [strBin, idV] at e; obtain ⟨rfl, _⟩ := e; exact ⟨_, by simp [Go.binOp, Go.Op.stringOp], rel_s' rfl⟩
  case lss => simp [strBin, idV] at e; obtain ⟨rfl, _⟩ := e; exact ⟨_, by simp [Go.binOp, Go.Op.stringOp], rel_s' rfl⟩
  case leq => simp [strBin, idV] at e; obtain ⟨rfl, _⟩ := e; exact ⟨_, by simp [Go.binOp, Go.Op.stringOp], rel_s' rfl⟩
  case gtr => simp [strBin, idV] at e; obtain ⟨rfl, _⟩ := e; exact ⟨_, by simp [Go.binOp, Go.Op.stringOp], rel_s' rfl⟩
  case geq => simp [strBin, idV] at e; obtain ⟨rfl, _⟩ := e; exact ⟨_, by simp [Go.binOp, Go.Op.stringOp], rel_s' rfl⟩
  all_goals simp [strBin] at e

theorem add_at (b o j : Nat) : (⟨b, o, none⟩ : Addr).add j = ⟨b, o + j, none⟩ := by unfold Addr.add; split <;> simp_all
theorem szOf_eq {t : TypeId} {n : Nat} : szOf P t = some n ↔ ∃ i, P.info? t = some i ∧ i.size = n := by simp [szOf]
theorem byOf_eq {t : TypeId} {n : Nat} : byOf P t = some n ↔ ∃ i, P.info? t = some i ∧ i.bytes = n := by simp [byOf]
theorem run_sz {t : TypeId} {n : Nat} (e : szOf P t = some n) : (sizeOf t).run P w = .ok n w := by
  obtain ⟨i, hi, rfl⟩ := szOf_eq.1 e; simp [sizeOf, typeInfo, hi]
theorem run_ul {t : TypeId} {d : TypeDesc} (e : P.underlying t = some d) : (underlying t).run P w = .ok d w := by simp [underlying, e]
theorem run_ag {t : TypeId} {b : Bool} (e : agg? P t = some b) : (isAgg t).run P w = .ok b w := by
  simp only [agg?, Option.map_eq_some_iff] at e
  obtain ⟨d, hd, rfl⟩ := e
  simp only [isAgg, Sem.run_bind, run_ul hd, Result.andThen_ok]
  split <;> first | rfl | (split <;> first | rfl | simp_all)
theorem zcellsF_eq {t : TypeId} {l : List F} : zcellsF P t = some l ↔ ∃ i z, P.info? t = some i ∧ i.zero = some z ∧ (∀ x ∈ z.cells.toList, x.oneCell' = true) ∧ z.cells.size = i.size ∧ l = z.cells.toList.map F.s := by
  simp only [zcellsF, Option.bind_eq_some_iff]
  constructor
  · rintro ⟨i, hi, z, hz, h⟩
    split at h
    · rename_i ha; cases h; exact ⟨i, z, hi, hz, List.all_eq_true.1 ha.1, ha.2, rfl⟩
    · cases h
  · rintro ⟨i, z, hi, hz, ha, hs, rfl⟩
    exact ⟨i, hi, z, hz, by rw [if_pos ⟨List.all_eq_true.2 ha, hs⟩]⟩

theorem sim_unOp {op : UnOp} {x v : V} {cx : Value} {e : H} (he : unOp op x idV = some (.ret v, e)) (hx : VRel η ro x cx) : ∃ cv, (Go.Op.unary op cx).run P w = .ok cv w ∧ VRel η ro v cv := by
  unfold unOp at he
  split at he
  · simp [idV] at he; obtain ⟨rfl, _⟩ := he; cases rel_s hx; exact ⟨_, by simp [Go.Op.unary, Go.Op.intArith], rel_s' rfl⟩
  · simp [idV] at he; obtain ⟨rfl, _⟩ := he; cases rel_s hx; exact ⟨_, by simp [Go.Op.unary, Go.Op.intBits], rel_s' rfl⟩
  · simp [idV] at he; obtain ⟨rfl, _⟩ := he; cases rel_s hx; exact ⟨_, by simp [Go.Op.unary], rel_s' rfl⟩
  · cases he

/-- the cells of a living object -/
theorem Rel.at_lk (r : Rel η ro h w) {k b st sz : Nat} (hk : η k = some (.at_ b st sz)) {o : Ob} {L : List V} (ho : h[k]? = some o) (hl : o.lk = some L) :
    ∃ c T lo hi, w.heap[b]? = some (.cells c T (lo, hi)) ∧ c.size = sz ∧ Clr sz lo hi ∧ st + L.length ≤ sz ∧ Held η ro L c st := by
  obtain ⟨o', h1, h2⟩ := r.obj k _ hk
  rw [ho] at h1; cases h1
  cases o with
  | dead => cases hl
  | map q es => cases hl
  | cells cs =>
    cases hl
    rcases h2 with ⟨e, _⟩ | ⟨b', st', sz', c, T, lo, hi, e, h3⟩
    · cases e
    · cases e; exact ⟨c, T, lo, hi, h3⟩
  | fz cs =>
    cases hl
    rcases h2 with ⟨e, _⟩ | ⟨b', st', sz', c, T, lo, hi, e, h3⟩
    · cases e
    · cases e; exact ⟨c, T, lo, hi, h3⟩
  | lent cs =>
    cases hl
    rcases h2 with ⟨e, _⟩ | ⟨b', st', sz', c, T, lo, hi, e, h3⟩
    · cases e
    · cases e; exact ⟨c, T, lo, hi, h3⟩
theorem Rel.at_ (r : Rel η ro h w) {k b st sz : Nat} (hk : η k = some (.at_ b st sz)) {o : Ob} {L : List V} (ho : h[k]? = some o) (hl : o.vl = some L) :
    ∃ c T lo hi, w.heap[b]? = some (.cells c T (lo, hi)) ∧ c.size = sz ∧ Clr sz lo hi ∧ st + L.length ≤ sz ∧ Held η ro L c st := r.at_lk hk ho (Ob.lk_of hl)
/-- cells that are held, as Go's values -/
theorem held_list {L : List V} {c : Array Value} {st : Nat} (hh : Held η ro L c st) (off n : Nat) (hn : off + n ≤ L.length) :
    ∃ xs : List Value, xs.length = n ∧ VRels η ro ((L.drop off).take n) xs ∧ (∀ j x, xs[j]? = some x → c[st + off + j]? = some x) ∧ ∀ x ∈ xs, x.oneCell' = true := by
  induction n generalizing off with
  | zero => exact ⟨[], rfl, by simp [VRels], by simp, by simp⟩
  | succ n ih =>
    obtain ⟨xs, h1, h2, h3, h4⟩ := ih (off + 1) (by omega)
    have hlt : off < L.length := by omega
    obtain ⟨x, hx1, hx2, hx3⟩ := hh off L[off] (List.getElem?_eq_getElem hlt)
    refine ⟨x :: xs, by simp [h1], ?_, ?_, ?_⟩
    · rw [List.drop_eq_getElem_cons hlt, List.take_succ_cons]
      exact ⟨hx3, h2⟩
    · intro j y hj
      cases j with
      | zero => simp at hj; subst hj; simpa using hx1
      | succ j => have := h3 j y (by simpa using hj); rwa [show st + off + (j + 1) = st + (off + 1) + j by omega]
    · intro y hy
      rcases List.mem_cons.1 hy with rfl | hy
      · exact hx2
      · exact h4 y hy
theorem cell_at {b o : Nat} {c : Array Value} {T : TypeId} {f : Nat × Nat} (e : w.heap[b]? = some (.cells c T f)) : w.cell? ⟨b, o, none⟩ = c[o]? := by simp [World.cell?, e]
theorem rd_eq {k off n : Nat} {cs : List V} : rd h k off n = some cs ↔ ∃ o L, h[k]? = some o ∧ o.vl = some L ∧ off + n ≤ L.length ∧ cs = (L.drop off).take n := by
  unfold rd
  constructor
  · intro e
    split at e
    · rename_i l hl; split at e
      · cases e; exact ⟨_, l, hl, rfl, by assumption, rfl⟩
      · cases e
    · rename_i l hl; split at e
      · cases e; exact ⟨_, l.map .f, hl, rfl, by simpa using by assumption, by simp⟩
      · cases e
    · cases e
  · rintro ⟨o, L, h1, h2, h3, rfl⟩
    cases o with
    | dead => cases h2
    | lent cs => cases h2
    | map q es => cases h2
    | cells cs => cases h2; simp [h1, h3]
    | fz cs => cases h2; simp only [h1]; rw [if_pos (by simpa using h3)]; simp
/-- what is read is in memory -/
theorem Rel.rd (r : Rel η ro h w) {k b st sz off n : Nat} (hk : η k = some (.at_ b st sz)) {cs : List V} (e : rd h k off n = some cs) :
    ∃ xs : List Value, xs.length = n ∧ VRels η ro cs xs ∧ (∀ j x, xs[j]? = some x → w.cell? ⟨b, st + off + j, none⟩ = some x) ∧ ∀ x ∈ xs, x.oneCell' = true := by
  obtain ⟨o, L, h1, h2, h3, rfl⟩ := rd_eq.1 e
  obtain ⟨c, T, lo, hi, e1, e2, e3, e4, e5⟩ := r.at_ hk h1 h2
  obtain ⟨xs, a1, a2, a3, a4⟩ := held_list e5 off n h3
  exact ⟨xs, a1, a2, fun j x hx => by rw [cell_at e1]; exact a3 j x hx, a4⟩
theorem load1_eq {z : Value} {k off : Nat} {v : V} {e : H} (he : load1 z h k off idV = some (.ret v, e)) : ∃ o L u, h[k]? = some o ∧ o.lk = some L ∧ L[off]? = some u ∧ ∀ {η : Et} {ro : Ro} {cv : Value}, VRel η ro u cv → VRel η ro v cv := by
  unfold load1 at he
  split at he
  · rename_i l hl; obtain ⟨x, h1, h2⟩ := Option.bind_eq_some_iff.1 he; exact ⟨_, l, x, hl, rfl, h1, fun hv => coe_rel h2 hv⟩
  · rename_i l hl; obtain ⟨x, h1, h2⟩ := Option.bind_eq_some_iff.1 he; exact ⟨_, l.map .f, .f x, hl, rfl, by simp [h1], fun hv => coeF_rel h2 hv⟩
  · rename_i l hl; obtain ⟨x, h1, h2⟩ := Option.bind_eq_some_iff.1 he
    refine ⟨_, l.map weakF, weakF x, hl, rfl, by simp [h1], fun hv => ?_⟩
    have key : ∃ s, x = .s s := by
      unfold coeS at h2
      cases x with
      | s s => exact ⟨s, rfl⟩
      | _ => split at h2 <;> simp [F.int?, F.bool?, F.str?] at h2
    obtain ⟨s, rfl⟩ := key
    have h3 : coeF z (.s s) idV = some (.ret v, e) := by
      unfold coeS at h2; unfold coeF
      split at h2 <;> first | exact h2 | cases h2
    exact coeF_rel h3 hv
  · cases he
theorem fcells_list : ∀ {cs : List F} {b o : Nat} (r : Rel η ro h w), FCells ro cs b o → ∃ xs : List Value, xs.length = cs.length ∧ VRels η ro (cs.map .f) xs ∧ (∀ j x, xs[j]? = some x → w.cell? ⟨b, o + j, none⟩ = some x) ∧ ∀ x ∈ xs, x.oneCell' = true
  | [], b, o, r, _ => ⟨[], rfl, trivial, by simp, by simp⟩
  | x :: l, b, o, r, ⟨⟨v, h1, h2⟩, h3⟩ => by
    obtain ⟨xs, a1, a2, a3, a4⟩ := fcells_list r h3
    refine ⟨v :: xs, by simp [a1], ⟨h2, a2⟩, ?_, ?_⟩
    · intro j y hj
      cases j with
      | zero => simp at hj; subst hj; exact r.cells _ _ _ h1
      | succ j => have := a3 j y (by simpa using hj); rwa [show o + (j + 1) = o + 1 + j by omega]
    · intro y hy
      rcases List.mem_cons.1 hy with rfl | hy
      · exact h2.one
      · exact a4 y hy
theorem FCells.drop {cs : List F} {b o : Nat} (n : Nat) (hc : FCells ro cs b o) : FCells ro (cs.drop n) b (o + n) :=
  FCells.mk fun j x hx => by rw [List.getElem?_drop] at hx; rw [Nat.add_assoc]; exact hc.get hx
theorem FCells.take {cs : List F} {b o : Nat} (n : Nat) (hc : FCells ro cs b o) : FCells ro (cs.take n) b o :=
  FCells.mk fun j x hx => by rw [List.getElem?_take] at hx; split at hx; exact hc.get hx; cases hx
theorem run_lds {b o : Nat} {xs : List Value} (hc : ∀ j x, xs[j]? = some x → w.cell? ⟨b, o + j, none⟩ = some x) : (loadCells ⟨b, o, none⟩ xs.length).run P w = .ok xs.toArray w :=
  run_loadCells_list w _ xs fun j v hv => by rw [add_at]; exact hc j v hv

theorem coeFN_ok : ∀ (zs : List Value) (i : Nat) (cs : List F) {u : V} {g : H}, coeFN zs i cs (fun l => idV (.tup l)) = some (.ret u, g) → ∃ us, u = .tup us ∧ (∀ {η : Et} {ro : Ro} {xs : List Value}, VRels η ro (((cs.drop i).take zs.length).map .f) xs → VRels η ro us xs) ∧ ∀ j, j < zs.length → i + j < cs.length
  | [], i, cs, u, g, e => by
    simp [coeFN, idV] at e; obtain ⟨rfl, _⟩ := e
    exact ⟨[], rfl, fun h => by simpa using h, fun j hj => by simp at hj⟩
  | z :: zs, i, cs, u, g, e => by
    unfold coeFN at e
    rw [Option.bind_eq_some_iff] at e; obtain ⟨x, hx, e⟩ := e
    rw [(coeF_nat z x).out] at e
    cases hq : coeF z x idV with
    | none => rw [hq] at e; cases e
    | some q =>
      obtain ⟨o, _⟩ := q
      rw [hq] at e
      cases o with
      | pan v => cases e
      | ret v =>
        simp only [onV] at e
        rw [(coeFN_nat zs (i + 1) cs).out] at e
        cases hq2 : coeFN zs (i + 1) cs (fun l => idV (.tup l)) with
        | none => rw [hq2] at e; cases e
        | some q =>
          obtain ⟨o, _⟩ := q
          rw [hq2] at e
          cases o with
          | pan v => cases e
          | ret v' =>
            obtain ⟨us, rfl, hr, hl⟩ := coeFN_ok zs (i + 1) cs hq2
            simp [onV, idV] at e; obtain ⟨rfl, _⟩ := e
            obtain ⟨hlt, hx'⟩ := List.getElem?_eq_some_iff.1 hx
            refine ⟨_, rfl, fun {η ro xs} h => ?_, fun j hj => ?_⟩
            · rw [List.drop_eq_getElem_cons hlt, hx', List.length_cons, List.take_succ_cons, List.map_cons] at h
              match xs, h with
              | c :: xs, h => exact ⟨coeF_rel hq h.1, hr h.2⟩
            · cases j with
              | zero => omega
              | succ j => have := hl j (by simp at hj; omega); omega
theorem coeFA_ok {z : Value} {n off : Nat} {cs : List F} {v : V} {e : H} (he : coeFA z n off cs (fun l => idV (.agg l)) = some (.ret v, e)) : ∃ us, v = .agg us ∧ (∀ {η : Et} {ro : Ro} {xs : List Value}, VRels η ro (((cs.drop off).take n).map .f) xs → VRels η ro us xs) ∧ off + n ≤ cs.length := by
  unfold coeFA at he
  split at he
  · rename_i zs
    split at he
    · rename_i hn
      rw [(coeFN_nat zs.toList off cs).out (fun l => idV (.agg l))] at he
      cases hq : coeFN zs.toList off cs (fun l => idV (.tup l)) with
      | none => rw [hq] at he; cases he
      | some q =>
        obtain ⟨o, _⟩ := q
        rw [hq] at he
        cases o with
        | pan v => cases he
        | ret u =>
          obtain ⟨us, rfl, hr, hl⟩ := coeFN_ok _ _ _ hq
          simp only [onV, idV, Option.some.injEq, Prod.mk.injEq, Out.ret.injEq] at he
          obtain ⟨rfl, _⟩ := he
          rw [Array.length_toList, hn.1] at hl
          rw [Array.length_toList, hn.1] at hr
          exact ⟨us, rfl, hr, by have := hl (n - 1) (by omega); omega⟩
    · cases he
  · cases he
theorem rd_of_cells {h : H} {k off n : Nat} {cs : List V} (hk : h[k]? = some (.cells cs)) (hle : off + n ≤ cs.length) : rd h k off n = some ((cs.drop off).take n) := by
  unfold rd; rw [hk]; exact if_pos hle
theorem rd_of_fz {h : H} {k off n : Nat} {cs : List F} (hk : h[k]? = some (.fz cs)) (hle : off + n ≤ cs.length) : rd h k off n = some (((cs.drop off).take n).map .f) := by
  unfold rd; rw [hk]; exact if_pos hle
theorem sim_load {t : TypeId} {a v : V} {ca : Value} {e : H} (r : Rel η ro h w) (he : Go.Abs.load P t a h idV = some (.ret v, e)) (ha : VRel η ro a ca) :
    ∃ cv, (Instr.loadAt t ca).run P w = .ok cv w ∧ VRel η ro v cv := by
  unfold Go.Abs.load at he
  obtain ⟨ag, hag, he⟩ := Option.bind_eq_some_iff.1 he
  split at he
  · rename_i hb
    subst hb
    obtain ⟨n, hn, he⟩ := Option.bind_eq_some_iff.1 he
    split at he
    · rename_i k off _ _
      obtain ⟨cs, us, hcs, rfl, hus⟩ : ∃ cs us, Go.Abs.rd h k off n = some cs ∧ v = .agg us ∧ ∀ {xs : List Value}, VRels η ro cs xs → VRels η ro us xs := by
        split at he
        · rename_i cs hk
          split at he
          · rename_i hle
            simp [idV] at he; obtain ⟨rfl, _⟩ := he
            exact ⟨_, _, rd_of_cells hk hle, rfl, id⟩
          · cases he
        · rename_i cs hk
          obtain ⟨us, rfl, hr, hle⟩ := coeFA_ok he
          exact ⟨_, us, rd_of_fz hk hle, rfl, hr⟩
        · cases he
      obtain ⟨b, st, sz, hk, rfl⟩ := ha
      obtain ⟨xs, x1, x2, x3, x4⟩ := r.rd hk hcs
      refine ⟨.agg xs.toArray, ?_, ⟨xs.toArray, rfl, by simpa using hus x2, by simpa using x4⟩⟩
      subst x1
      simp [Instr.loadAt, Instr.sureAddr, loadVar, run_ag hag, run_sz hn, run_lds x3]
    · rename_i cs
      obtain ⟨us, rfl, hus, hle⟩ := coeFA_ok he
      rw [List.drop_zero] at hus
      obtain ⟨b, o, rfl, hc⟩ := ha
      obtain ⟨xs, x1, x2, x3, x4⟩ := fcells_list r (FCells.take n hc)
      rw [List.length_take, Nat.min_eq_left (by omega)] at x1
      refine ⟨.agg xs.toArray, ?_, ⟨xs.toArray, rfl, by simpa using hus x2, by simpa using x4⟩⟩
      subst x1
      simp [Instr.loadAt, Instr.sureAddr, loadVar, run_ag hag, run_sz hn, run_lds x3]
    · cases he
  · rename_i hb
    have hb : ag = false := by simpa using hb
    subst hb
    split at he
    · rename_i k off _
      obtain ⟨o, L, u, h1, h2, h3, hu⟩ := load1_eq he
      obtain ⟨b, st, sz, hk, rfl⟩ := ha
      obtain ⟨c, T, lo, hi, e1, e2, e3, e4, e5⟩ := r.at_lk hk h1 h2
      obtain ⟨x, x1, x2, x3⟩ := e5 off u h3
      refine ⟨x, ?_, hu x3⟩
      have hcell : w.cell? ⟨b, st + off, none⟩ = some x := by rw [cell_at e1]; exact x1
      simp [Instr.loadAt, Instr.sureAddr, loadVar, run_ag hag, hcell]
    · rename_i p
      unfold ldF at he
      split at he
      · rename_i cs
        obtain ⟨x, hx, he⟩ := Option.bind_eq_some_iff.1 he
        obtain ⟨b, o, rfl, hc⟩ := ha
        obtain ⟨y, y1, y2⟩ := hc.get hx
        have hcell : w.cell? ⟨b, o, none⟩ = some y := by simpa using r.cells _ _ _ y1
        exact ⟨y, by simp [Instr.loadAt, Instr.sureAddr, loadVar, run_ag hag, hcell], coeF_rel he y2⟩
      · cases he
    · cases he

theorem sim_load_nil {t : TypeId} {a : V} {ca : Value} (r : Rel η ro h w) (ha : VRel η ro a ca) (hn : isNilSl P t h a = true) :
    ∃ cv, (Instr.loadAt t ca).run P w = .ok cv w ∧ VRel η ro nilS cv := by
  unfold isNilSl at hn
  rw [Bool.and_eq_true] at hn
  obtain ⟨h1, h2⟩ := hn
  split at h1
  rotate_left
  · cases h1
  rename_i hag
  split at h2
  rotate_left
  · cases h2
  rename_i k off
  have main : ∀ {o : Ob} {L : List V}, h[k]? = some o → Ob.lk o = some L → L[off]? = some nilS → ∃ cv, (Instr.loadAt t ca).run P w = .ok cv w ∧ VRel η ro nilS cv := by
    intro o L hk hl hc
    obtain ⟨b, st, sz, he, rfl⟩ := ha
    obtain ⟨c, T, lo, hi, e1, e2, e3, e4, e5⟩ := r.at_lk he hk hl
    obtain ⟨x, x1, x2, x3⟩ := e5 off _ hc
    refine ⟨x, ?_, x3⟩
    have hcell : w.cell? ⟨b, st + off, none⟩ = some x := by rw [cell_at e1]; exact x1
    simp [Instr.loadAt, Instr.sureAddr, loadVar, run_ag hag, hcell]
  split at h2
  · rename_i cs hk
    split at h2
    rotate_left
    · cases h2
    rename_i hc
    exact main hk rfl hc
  · rename_i cs hk
    split at h2
    rotate_left
    · cases h2
    rename_i hc
    exact main hk (L := cs.map .f) rfl (by rw [List.getElem?_map, hc]; rfl)
  · cases h2
theorem sim_loadN {keep : Bool} {t : TypeId} {a v : V} {ca : Value} {e : H} (r : Rel η ro h w) (he : Go.Abs.loadN P keep t a h idV = some (.ret v, e)) (ha : VRel η ro a ca) :
    ∃ cv, (Instr.loadAt t ca).run P w = .ok cv w ∧ VRel η ro v cv := by
  unfold Go.Abs.loadN at he
  rw [(load_nat P t a h).out] at he
  cases hq : Go.Abs.load P t a h idV with
  | none => rw [hq] at he; cases he
  | some q =>
    obtain ⟨o, g⟩ := q
    rw [hq] at he
    cases o with
    | pan v => cases he
    | ret v0 =>
      simp only [onV, idV, Option.some.injEq, Prod.mk.injEq, Out.ret.injEq] at he
      obtain ⟨rfl, _⟩ := he
      by_cases hb : (keep && isNilSl P t h a) = true
      · rw [if_pos hb]
        rw [Bool.and_eq_true] at hb
        exact sim_load_nil r ha hb.2
      · rw [if_neg hb]
        exact sim_load r hq ha
theorem vrels_drop_take {l : List V} {xs : List Value} (hr : VRels η ro l xs) (a n : Nat) : VRels η ro ((l.drop a).take n) ((xs.drop a).take n) := by
  have hl := hr.len
  refine VRels.mk (by simp [hl]) fun j v hv => ?_
  rw [List.getElem?_take] at hv ⊢
  split at hv
  · rename_i hj
    rw [List.getElem?_drop] at hv
    obtain ⟨x, h1, h2⟩ := hr.get hv
    exact ⟨x, by rw [if_pos hj, List.getElem?_drop]; exact h1, h2⟩
  · cases hv
theorem sim_part {t : TypeId} {cs : List V} {off : Nat} {v : V} {xs : Array Value} {e : H} (he : Go.Abs.part P t cs off idV = some (.ret v, e)) (hr : VRels η ro cs xs.toList) (h1 : ∀ x ∈ xs.toList, x.oneCell' = true) :
    ∃ cv, (Go.part t xs off).run P w = .ok cv w ∧ VRel η ro v cv := by
  unfold Go.Abs.part at he
  obtain ⟨ag, hag, he⟩ := Option.bind_eq_some_iff.1 he
  split at he
  · rename_i hb
    subst hb
    obtain ⟨n, hn, he⟩ := Option.bind_eq_some_iff.1 he
    simp [idV] at he; obtain ⟨rfl, _⟩ := he
    refine ⟨.agg (xs.extract off (off + n)), by simp [Go.part, run_ag hag, run_sz hn], ⟨_, rfl, ?_, ?_⟩⟩
    · have := vrels_drop_take hr off n
      simpa [List.extract_eq_take_drop] using this
    · intro x hx
      simp [List.extract_eq_take_drop] at hx
      exact h1 x (List.mem_of_mem_drop (List.mem_of_mem_take hx))
  · rename_i hb
    have hb : ag = false := by simpa using hb
    subst hb
    obtain ⟨x, hx, he⟩ := Option.bind_eq_some_iff.1 he
    obtain ⟨y, hy, hxy⟩ := hr.get hx
    exact ⟨y, by simp [Go.part, run_ag hag, show xs[off]? = some y by simpa using hy], coe_rel he hxy⟩
theorem fieldOf_eq {t : TypeId} {i : Nat} {f : Field} : fieldOf P t i = some f ↔ ∃ fs, P.underlying t = some (.struct fs) ∧ fs[i]? = some f := by
  unfold fieldOf
  constructor
  · intro e
    obtain ⟨d, hd, e⟩ := Option.bind_eq_some_iff.1 e
    split at e
    · exact ⟨_, hd, e⟩
    · cases e
  · rintro ⟨fs, h1, h2⟩; simp [h1, h2]
theorem sim_field {t : TypeId} {x v : V} {i : Nat} {cx : Value} {e : H} (he : Go.Abs.field P t x i idV = some (.ret v, e)) (hx : VRel η ro x cx) :
    ∃ cv, (Instr.field t cx i).run P w = .ok cv w ∧ VRel η ro v cv := by
  unfold Go.Abs.field at he
  obtain ⟨f, hf, he⟩ := Option.bind_eq_some_iff.1 he
  obtain ⟨fs, h1, h2⟩ := fieldOf_eq.1 hf
  split at he
  · obtain ⟨cvs, rfl, h3, h4⟩ := hx
    obtain ⟨cv, h5, h6⟩ := sim_part (w := w) he h3 h4
    exact ⟨cv, by simp [Instr.field, run_ul h1, h2, asAgg, h5], h6⟩
  · cases he
theorem addP_ok {x v : V} {n : Nat} {cx : Value} (he : addP x n = some v) (hx : VRel η ro x cx) : ∃ a, cx = .pointer (some a) ∧ VRel η ro v (.pointer (some (a.add n))) := by
  unfold addP at he
  split at he
  · cases he
    obtain ⟨b, st, sz, h1, rfl⟩ := hx
    exact ⟨_, rfl, b, st, sz, h1, by rw [add_at, Nat.add_assoc]⟩
  · cases he
    obtain ⟨b, o, rfl, h1⟩ := hx
    exact ⟨_, rfl, b, o + n, by rw [add_at], h1.drop n⟩
  · cases he
theorem sim_fieldAddr {t : TypeId} {x v : V} {i n : Nat} {f : Field} {cx : Value} (hf : fieldOf P t i = some f) (hn : szOf P f.type = some n) (h0 : n ≠ 0) (he : addP x f.offset = some v) (hx : VRel η ro x cx) :
    ∃ cv, (Instr.fieldAt t cx i).run P w = .ok cv w ∧ VRel η ro v cv := by
  obtain ⟨fs, h1, h2⟩ := fieldOf_eq.1 hf
  obtain ⟨a, rfl, h3⟩ := addP_ok he hx
  exact ⟨_, by simp [Instr.fieldAt, run_ul h1, h2, Instr.sureAddr, fieldPlace, run_sz hn, h0], h3⟩

theorem sim_idx {t : TypeId} {x v : V} {i : Int} {k : IntKind} {cx : Value} {e : H} (he : Go.Abs.idx P t x i idV = some (.ret v, e)) (hx : VRel η ro x cx) :
    ∃ cv, (Instr.indexAt t cx (.int k i)).run P w = .ok cv w ∧ VRel η ro v cv := by
  unfold Go.Abs.idx at he
  split at he
  · rename_i e' hu
    obtain ⟨es, hes, he⟩ := Option.bind_eq_some_iff.1 he
    split at he
    · rename_i x
      unfold elem at he
      split at he
      · split at he
        · rename_i n cs hi
          simp [idV] at he; obtain ⟨rfl, _⟩ := he
          obtain ⟨A, c, rfl, hc, hd⟩ := hx
          rcases hd with ⟨rfl, rfl⟩ | ⟨b, o, rfl, hcs⟩
          · omega
          · refine ⟨.pointer (some (Addr.add ⟨b, o, none⟩ (i.toNat * es))), ?_, b, o + i.toNat * es, by rw [add_at], hcs.drop _⟩
            simp [Instr.indexAt, asIntOf, run_ul hu, hi, run_sz hes]
        · cases he
      · cases he
    · rename_i k' off n es' _
      split at he
      · rename_i hi
        simp [idV] at he; obtain ⟨rfl, _⟩ := he
        obtain ⟨rfl, hi0, hi1⟩ := hi
        rcases hx with ⟨b, st, sz, c, o, h1, rfl, h2, h3, h4⟩ | ⟨_, rfl, _⟩
        · obtain rfl := h4 (by omega)
          refine ⟨.pointer (some (Addr.add ⟨b, st + off, none⟩ (i.toNat * es'))), ?_, b, st, sz, h1, by rw [add_at, Nat.add_assoc]⟩
          simp [Instr.indexAt, asIntOf, run_ul hu, hi0, hi1, run_sz hes]
        · omega
      · cases he
    · cases he
  · rename_i n e' hu
    obtain ⟨es, hes, he⟩ := Option.bind_eq_some_iff.1 he
    split at he
    · rename_i k' off _
      split at he
      · rename_i hi
        simp [idV] at he; obtain ⟨rfl, _⟩ := he
        obtain ⟨b, st, sz, h1, rfl⟩ := hx
        refine ⟨.pointer (some (Addr.add ⟨b, st + off, none⟩ (i.toNat * es))), ?_, b, st, sz, h1, by rw [add_at, Nat.add_assoc]⟩
        simp [Instr.indexAt, asIntOf, run_ul hu, hi, run_sz hes, Instr.sureAddr]
      · cases he
    · rename_i cs _
      split at he
      · rename_i hi
        simp [idV] at he; obtain ⟨rfl, _⟩ := he
        obtain ⟨b, o, rfl, hcs⟩ := hx
        refine ⟨.pointer (some (Addr.add ⟨b, o, none⟩ (i.toNat * es))), ?_, b, o + i.toNat * es, by rw [add_at], hcs.drop _⟩
        simp [Instr.indexAt, asIntOf, run_ul hu, hi, run_sz hes, Instr.sureAddr]
      · cases he
    · cases he
  · cases he

theorem len?_ok {x : F} {n : Nat} {cx : Value} (he : F.len? x = some n) (hx : FRel ro x cx) : ∃ A c, cx = .slice A n c := by
  unfold F.len? at he
  split at he
  · cases he; obtain ⟨A, c, rfl, _⟩ := hx; exact ⟨A, c, rfl⟩
  · cases he; obtain ⟨rfl, _⟩ := hx; exact ⟨_, _, rfl⟩
  · cases he
theorem MRel.len : ∀ {l : List (Value × F)} {m : List MapEntry}, MRel ro l m → l.length = m.length
  | [], [], _ => rfl
  | _ :: _, _ :: _, h => by simp [MRel.len h.2]
  | [], _ :: _, h => h.elim
  | _ :: _, [], h => h.elim
theorem Rel.map' (r : Rel η ro h w) {k b : Nat} (hk : η k = some (.at_ b 0 0)) {q : KK} {es : List (Value × F)} (ho : h[k]? = some (.map q es)) : ∃ ents clock, w.heap[b]? = some (.map ents clock) ∧ MRel ro es ents.toList ∧ (∀ a ∈ es, IsKK q a.1) ∧ Born ents clock := by
  obtain ⟨o', h1, h2⟩ := r.obj k _ hk
  rw [ho] at h1; cases h1
  obtain ⟨b', ents, clock, e, h3, h4⟩ := h2
  cases e
  exact ⟨ents, clock, h3, h4⟩
theorem Rel.map (r : Rel η ro h w) {k b : Nat} (hk : η k = some (.at_ b 0 0)) {q : KK} {es : List (Value × F)} (ho : h[k]? = some (.map q es)) : ∃ ents clock, w.heap[b]? = some (.map ents clock) ∧ MRel ro es ents.toList ∧ ∀ a ∈ es, IsKK q a.1 := by
  obtain ⟨ents, clock, h1, h2, h3, _⟩ := r.map' hk ho
  exact ⟨ents, clock, h1, h2, h3⟩
theorem Born.push {ents : Array MapEntry} {clock : Nat} (h : Born ents clock) (e : MapEntry) (he : e.born = clock) : Born (ents.push e) (clock + 1) := by
  refine ⟨by simp [h.1], fun i x hx => ?_⟩
  rw [Array.getElem?_push] at hx
  split at hx
  · rename_i q; cases hx; rw [he, h.1, q]
  · exact h.2 i x hx
theorem Born.modify {ents : Array MapEntry} {clock : Nat} (h : Born ents clock) (j : Nat) (f : MapEntry → MapEntry) (hf : ∀ e, (f e).born = e.born) : Born (ents.modify j f) clock := by
  refine ⟨by simp [h.1], fun i x hx => ?_⟩
  rw [Array.getElem?_modify] at hx
  split at hx
  · rw [Option.map_eq_some_iff] at hx
    obtain ⟨y, hy, rfl⟩ := hx
    rw [hf]; exact h.2 i y hy
  · exact h.2 i x hx
theorem run_getObj_map {b : Nat} {ents : Array MapEntry} {clock : Nat} (e : w.heap[b]? = some (.map ents clock)) : (getObj b).run P w = .ok (.map ents clock) w := by
  simp [getObj, Sem.run, e]
theorem sim_len {t ty : TypeId} {x v : V} {cx : Value} {e : H} (r : Rel η ro h w) (he : Go.Abs.len P t x h idV = some (.ret v, e)) (hx : VRel η ro x cx) :
    ∃ cv, (Builtin.len_ #[t] ty #[cx]).run P w = .ok cv w ∧ VRel η ro v cv := by
  unfold Go.Abs.len at he
  split at he
  · rename_i hu
    obtain ⟨b, hb, he⟩ := Option.bind_eq_some_iff.1 he
    rw [V.str?_eq] at hb; subst hb
    simp [idV] at he; obtain ⟨rfl, _⟩ := he
    cases rel_s hx
    exact ⟨_, by simp [Builtin.len_, run_ul hu, goInt], rel_s' rfl⟩
  · rename_i hu
    simp [idV] at he; obtain ⟨rfl, _⟩ := he
    exact ⟨_, by simp [Builtin.len_, run_ul hu, goInt], rel_s' rfl⟩
  · rename_i hu
    split at he
    · obtain ⟨n, hn, he⟩ := Option.bind_eq_some_iff.1 he
      simp [idV] at he; obtain ⟨rfl, _⟩ := he
      obtain ⟨A, c, rfl⟩ := len?_ok hn hx
      exact ⟨_, by simp [Builtin.len_, run_ul hu, goInt], rel_s' rfl⟩
    · simp [idV] at he; obtain ⟨rfl, _⟩ := he
      rcases hx with ⟨b, st, sz, c, o, h1, rfl, h2, h3⟩ | ⟨_, rfl, _, rfl⟩ <;> exact ⟨_, by simp [Builtin.len_, run_ul hu, goInt], rel_s' rfl⟩
    · simp [idV] at he; obtain ⟨rfl, _⟩ := he
      obtain ⟨A, c, rfl, _⟩ := hx
      exact ⟨_, by simp [Builtin.len_, run_ul hu, goInt], rel_s' rfl⟩
    · cases he
  · rename_i hu
    split at he
    · split at he
      · rename_i k q es hes
        simp [idV] at he; obtain ⟨rfl, _⟩ := he
        obtain ⟨b, h1, rfl⟩ := hx
        obtain ⟨ents, clock, h2, h3, _⟩ := r.map h1 hes
        have hl : es.length = ents.size := by rw [h3.len]; simp
        rw [hl]
        exact ⟨_, by simp [Builtin.len_, run_ul hu, run_getObj_map h2, goInt], rel_s' rfl⟩
      · cases he
    · simp [idV] at he; obtain ⟨rfl, _⟩ := he
      cases rel_s hx
      exact ⟨_, by simp [Builtin.len_, run_ul hu, goInt], rel_s' rfl⟩
    · cases he
  · cases he

/-! ### slices of what there is -/
theorem bnd_ok {v : Option V} {cv : Option Value} {d top n : Nat} (hv : ∀ v', v = some v' → ∃ c', cv = some c' ∧ VRel η ro v' c') (hn : v = none → cv = none) (he : bnd v d top = some n) (hd : d ≤ top) (code : Go.BoundsCode) :
    n ≤ top ∧ ((cv = none ∧ n = d) ∨ ∃ c', cv = some c' ∧ (Instr.sliceBound c' top code).run P w = .ok n w) := by
  unfold bnd at he
  split at he
  · cases he; exact ⟨hd, .inl ⟨hn rfl, rfl⟩⟩
  · rw [Option.bind_eq_some_iff] at he; obtain ⟨i, hi, he⟩ := he
    obtain ⟨k, rfl⟩ := asIx_eq.1 hi
    split at he
    · rename_i h0
      cases he
      obtain ⟨c', h1, h2⟩ := hv _ rfl
      cases rel_s h2
      exact ⟨by omega, .inr ⟨_, h1, by simp [Instr.sliceBound, asIntOf, h0]⟩⟩
    · cases he
theorem run_sliceBounds {lo hi : Option V} {clo chi : Option Value} {len cap l hh : Nat} (isS : Bool) (h1 : ∀ v', hi = some v' → ∃ c', chi = some c' ∧ VRel η ro v' c') (h1n : hi = none → chi = none)
    (h2 : ∀ v', lo = some v' → ∃ c', clo = some c' ∧ VRel η ro v' c') (h2n : lo = none → clo = none) (e1 : bnd hi len len = some hh) (e2 : bnd lo 0 hh = some l) (hc : len ≤ cap) :
    (Instr.sliceBounds isS len cap clo chi none).run P w = .ok (l, hh, cap) w ∧ l ≤ hh ∧ hh ≤ len := by
  have a := bnd_ok (P := P) (w := w) h1 h1n e1 (Nat.le_refl _) (if isS then .sliceAcap else .sliceAlen)
  have b := bnd_ok (P := P) (w := w) h2 h2n e2 (Nat.zero_le _) .sliceB
  refine ⟨?_, b.1, a.1⟩
  have hb : ∀ c', chi = some c' → (Instr.sliceBound c' cap (if isS then .sliceAcap else .sliceAlen)).run P w = .ok hh w := by
    intro c' hc'
    rcases a.2 with ⟨h, _⟩ | ⟨c'', h, hr⟩
    · rw [h] at hc'; cases hc'
    · rw [h] at hc'; cases hc'
      unfold bnd at e1
      split at e1
      · rw [h1n rfl] at h; cases h
      · rename_i v'
        rw [Option.bind_eq_some_iff] at e1; obtain ⟨i, hi', e1⟩ := e1
        obtain ⟨k, rfl⟩ := asIx_eq.1 hi'
        split at e1
        · rename_i h0
          cases e1
          obtain ⟨c3, h4, h5⟩ := h1 _ rfl
          rw [h] at h4; cases h4
          cases rel_s h5
          simp only [Instr.sliceBound, asIntOf, Sem.run_bind, Sem.run_pure, Result.andThen_ok]
          rw [if_pos (by omega)]; rfl
        · cases e1
  have hl : ∀ c', clo = some c' → (Instr.sliceBound c' hh .sliceB).run P w = .ok l w := by
    intro c' hc'
    rcases b.2 with ⟨h, _⟩ | ⟨c'', h, hr⟩
    · rw [h] at hc'; cases hc'
    · rw [h] at hc'; cases hc'; exact hr
  have hl0 : clo = none → l = 0 := by
    intro h
    rcases b.2 with ⟨_, h'⟩ | ⟨c'', h', _⟩
    · exact h'
    · rw [h] at h'; cases h'
  have hh0 : chi = none → hh = len := by
    intro h
    rcases a.2 with ⟨_, h'⟩ | ⟨c'', h', _⟩
    · exact h'
    · rw [h] at h'; cases h'
  cases chi with
  | none =>
    cases clo with
    | none => simp [Instr.sliceBounds, hl0 rfl, hh0 rfl]
    | some c => simp [Instr.sliceBounds, hh0 rfl]; have := hl c rfl; rw [hh0 rfl] at this; simp [this]
  | some d =>
    cases clo with
    | none => simp [Instr.sliceBounds, hl0 rfl, hb d rfl]
    | some c => simp [Instr.sliceBounds, hb d rfl, hl c rfl]
theorem run_sliceAt_of {t : TypeId} {cx : Value} {lo hi mx : Option Value} (hn : ∀ n e, P.underlying t ≠ some (.array n e)) {d : TypeDesc} (hu : P.underlying t = some d) : (Instr.sliceAt t cx lo hi mx).run P w = (Instr.slice t cx lo hi mx).run P w := by
  simp only [Instr.sliceAt, Sem.run_bind, run_ul hu, Result.andThen_ok]
  split
  · rename_i n e; exact absurd hu (hn n e)
  · rfl
theorem vcells_f : ∀ {cs : List F} {b o : Nat}, FCells ro cs b o → VCells η ro (cs.map .f) b o
  | [], _, _, _ => trivial
  | _ :: _, _, _, ⟨⟨v, h1, h2⟩, h3⟩ => ⟨⟨v, h1, FRel.one h2, h2⟩, vcells_f h3⟩
theorem vcells_drop {cs : List V} {b o : Nat} (h : VCells η ro cs b o) (k : Nat) : VCells η ro (cs.drop k) b (o + k) := VCells.mk fun j x hx => by
  rw [List.getElem?_drop] at hx
  have := h.get hx
  rw [Nat.add_assoc]; exact this
theorem vcells_take {cs : List V} {b o : Nat} (h : VCells η ro cs b o) (k : Nat) : VCells η ro (cs.take k) b o := VCells.mk fun j x hx => by
  rw [List.getElem?_take] at hx
  split at hx
  · exact h.get hx
  · cases hx
theorem sim_slice3 {t : TypeId} {x v hi mx : V} {cx chi cmx : Value} {lo : Option V} {clo : Option Value} {e : H} (r : Rel η ro h w) (he : Go.Abs.slice3 P t x lo hi mx idV = some (.ret v, e)) (hx : VRel η ro x cx)
    (h1 : VRel η ro hi chi) (h3 : VRel η ro mx cmx) (h2 : ∀ v', lo = some v' → ∃ c', clo = some c' ∧ VRel η ro v' c') (h2n : lo = none → clo = none) :
    ∃ cv, (Instr.sliceAt t cx clo (some chi) (some cmx)).run P w = .ok cv w ∧ VRel η ro v cv := by
  unfold Go.Abs.slice3 at he
  rw [Option.bind_eq_some_iff] at he; obtain ⟨el, hel, he⟩ := he
  rw [Option.bind_eq_some_iff] at he; obtain ⟨es, hes, he⟩ := he
  rw [Option.bind_eq_some_iff] at he; obtain ⟨m, hm, he⟩ := he
  unfold elem? at hel
  rw [Option.bind_eq_some_iff] at hel; obtain ⟨d, hu, hel⟩ := hel
  split at hel
  rotate_left
  · cases hel
  cases hel
  have fin : ∀ {n hh l : Nat} {A : Option Addr} {c : Nat}, cx = .slice A n c → n ≤ c → bnd (some hi) n n = some hh → m = hh → bnd lo 0 hh = some l →
      (Instr.sliceAt t cx clo (some chi) (some cmx)).run P w = .ok (.slice (if hh = l then A else A.map (·.add (l * es))) (hh - l) (hh - l)) w ∧ l ≤ hh ∧ hh ≤ n := by
    intro n hh l A c hcx hc e1 hmh e2
    subst hcx
    subst hmh
    obtain ⟨km, rfl⟩ := asIx_eq.1 hm
    cases rel_s h3
    unfold bnd at e1
    dsimp only at e1
    rw [Option.bind_eq_some_iff] at e1; obtain ⟨i, hi', e1⟩ := e1
    obtain ⟨k, rfl⟩ := asIx_eq.1 hi'
    cases rel_s h1
    split at e1
    rotate_left
    · cases e1
    rename_i h0
    cases e1
    obtain ⟨j, rfl⟩ : ∃ j : Nat, i = j := ⟨i.toNat, by omega⟩
    simp only [Int.toNat_natCast] at *
    have b := bnd_ok (P := P) (w := w) h2 h2n e2 (Nat.zero_le _) .slice3C
    have hb1 : (Instr.sliceBound (.int km (j : Int)) c .slice3Acap).run P w = .ok j w := by
      simp only [Instr.sliceBound, asIntOf, Sem.run_bind, Sem.run_pure, Result.andThen_ok]
      rw [if_pos (by omega)]; simp
    have hb2 : (Instr.sliceBound (.int k (j : Int)) j .slice3B).run P w = .ok j w := by
      simp only [Instr.sliceBound, asIntOf, Sem.run_bind, Sem.run_pure, Result.andThen_ok]
      rw [if_pos (by omega)]; simp
    have hs : (Instr.sliceBounds true n c clo (some (.int k (j : Int))) (some (.int km (j : Int)))).run P w = .ok (l, j, j) w := by
      rcases b.2 with ⟨h, h'⟩ | ⟨c'', h, hr⟩
      · subst h; simp only [Instr.sliceBounds, Sem.run_bind, Sem.run_pure, hb1, hb2, h', Result.andThen_ok, if_true]
      · subst h; simp only [Instr.sliceBounds, Sem.run_bind, Sem.run_pure, hb1, hb2, hr, Result.andThen_ok, if_true, Option.isSome_some]
    exact ⟨by rw [run_sliceAt_of (by simp [hu]) hu]; simp [Instr.slice, run_ul hu, hs, run_sz hes], b.1, by omega⟩
  split at he
  · rename_i n cs
    rw [Option.bind_eq_some_iff] at he; obtain ⟨hh, e1, he⟩ := he
    split at he
    rotate_left
    · cases he
    rename_i hmh
    rw [Option.bind_eq_some_iff] at he; obtain ⟨l, e2, he⟩ := he
    simp [idV] at he; obtain ⟨rfl, _⟩ := he
    obtain ⟨A, c, hcx, hc, hd⟩ := hx
    obtain ⟨hrun, hle, hln⟩ := fin hcx hc e1 hmh e2
    refine ⟨_, hrun, _, _, rfl, rfl, ?_⟩
    rcases hd with ⟨rfl, rfl⟩ | ⟨b', o, rfl, hcs⟩
    · left; constructor
      · omega
      · simp
    · by_cases hcl : hh = l
      · left
        have : hh - l = 0 := by omega
        simp [this]
      · right
        rw [if_neg hcl]
        exact ⟨b', o + l * es, by simp [add_at], by rw [← List.map_drop, ← List.map_take]; exact vcells_f ((hcs.drop _).take _)⟩
  · rename_i n cs
    rw [Option.bind_eq_some_iff] at he; obtain ⟨hh, e1, he⟩ := he
    split at he
    rotate_left
    · cases he
    rename_i hmh
    rw [Option.bind_eq_some_iff] at he; obtain ⟨l, e2, he⟩ := he
    simp [idV] at he; obtain ⟨rfl, _⟩ := he
    obtain ⟨A, c, hcx, hc, hd⟩ := hx
    obtain ⟨hrun, hle, hln⟩ := fin hcx (by omega) e1 hmh e2
    refine ⟨_, hrun, _, _, rfl, rfl, ?_⟩
    rcases hd with ⟨rfl, rfl⟩ | ⟨b', o, rfl, hcs⟩
    · left; constructor
      · omega
      · simp
    · by_cases hcl : hh = l
      · left
        have : hh - l = 0 := by omega
        simp [this]
      · right
        rw [if_neg hcl]
        exact ⟨b', o + l * es, by simp [add_at], vcells_take (vcells_drop hcs _) _⟩
  · cases he
theorem sim_slice {t : TypeId} {x v : V} {cx : Value} {lo hi : Option V} {clo chi : Option Value} {e : H} (r : Rel η ro h w) (he : Go.Abs.slice P t x lo hi none h idV = some (.ret v, e)) (hx : VRel η ro x cx)
    (h1 : ∀ v', hi = some v' → ∃ c', chi = some c' ∧ VRel η ro v' c') (h1n : hi = none → chi = none) (h2 : ∀ v', lo = some v' → ∃ c', clo = some c' ∧ VRel η ro v' c') (h2n : lo = none → clo = none) :
    ∃ cv, (Instr.sliceAt t cx clo chi none).run P w = .ok cv w ∧ VRel η ro v cv := by
  simp only [Go.Abs.slice] at he
  split at he
  · rename_i hu
    rw [Option.bind_eq_some_iff] at he; obtain ⟨b, hb, he⟩ := he
    rw [V.str?_eq] at hb; subst hb
    unfold sliceStr at he
    rw [Option.bind_eq_some_iff] at he; obtain ⟨hh, e1, he⟩ := he
    rw [Option.bind_eq_some_iff] at he; obtain ⟨l, e2, he⟩ := he
    simp [idV] at he; obtain ⟨rfl, _⟩ := he
    cases rel_s hx
    have hs := run_sliceBounds (P := P) (w := w) false h1 h1n h2 h2n e1 e2 (Nat.le_refl _)
    exact ⟨_, by rw [run_sliceAt_of (by simp [hu]) hu]; simp [Instr.slice, run_ul hu, hs.1], rel_s' rfl⟩
  · rename_i e' hu
    rw [Option.bind_eq_some_iff] at he; obtain ⟨es, hes, he⟩ := he
    split at he
    · rw [Option.bind_eq_some_iff] at he; obtain ⟨hh, e1, he⟩ := he
      rw [Option.bind_eq_some_iff] at he; obtain ⟨l, e2, he⟩ := he
      simp [idV] at he; obtain ⟨rfl, _⟩ := he
      cases rel_s hx
      have hs := run_sliceBounds (P := P) (w := w) true h1 h1n h2 h2n e1 e2 (Nat.le_refl _)
      have hh0 : hh = 0 := by omega
      have hl0 : l = 0 := by omega
      subst hh0; subst hl0
      exact ⟨_, by rw [run_sliceAt_of (by simp [hu]) hu]; simp [Instr.slice, run_ul hu, hs.1, run_sz hes], rel_s' rfl⟩
    · rename_i n cs
      rw [Option.bind_eq_some_iff] at he; obtain ⟨hh, e1, he⟩ := he
      rw [Option.bind_eq_some_iff] at he; obtain ⟨l, e2, he⟩ := he
      simp [idV] at he; obtain ⟨rfl, _⟩ := he
      obtain ⟨A, c, rfl, hc, hd⟩ := hx
      have hs := run_sliceBounds (P := P) (w := w) true h1 h1n h2 h2n e1 e2 hc
      refine ⟨.slice (if c = l then A else A.map (·.add (l * es))) (hh - l) (c - l), by rw [run_sliceAt_of (by simp [hu]) hu]; simp [Instr.slice, run_ul hu, hs.1, run_sz hes], _, _, rfl, by omega, ?_⟩
      rcases hd with ⟨rfl, rfl⟩ | ⟨b, o, rfl, hcs⟩
      · left; constructor
        · omega
        · simp
      · by_cases hcl : c = l
        · left
          have : hh - l = 0 := by omega
          simp [this]
        · right
          rw [if_neg hcl]
          exact ⟨b, o + l * es, by simp [add_at], (hcs.drop _).take _⟩
    · rename_i k off n es'
      split at he
      · rename_i hes'
        subst hes'
        rw [Option.bind_eq_some_iff] at he; obtain ⟨hh, e1, he⟩ := he
        rw [Option.bind_eq_some_iff] at he; obtain ⟨l, e2, he⟩ := he
        simp [idV] at he; obtain ⟨rfl, _⟩ := he
        rcases hx with ⟨b, st, sz, c, o, g1, rfl, g2, g3, g4⟩ | ⟨g1, rfl, rfl, rfl⟩
        · have hs := run_sliceBounds (P := P) (w := w) true h1 h1n h2 h2n e1 e2 g2
          have hmul : l * es' + (c - l) * es' = c * es' := by rw [← Nat.add_mul]; congr 1; omega
          refine ⟨.slice (if c = l then some ⟨b, o, none⟩ else some ((⟨b, o, none⟩ : Addr).add (l * es'))) (hh - l) (c - l), ?_, .inl ?_⟩
          · rw [run_sliceAt_of (by simp [hu]) hu]
            simp only [Instr.slice, Sem.run_bind, run_ul hu, hs.1, run_sz hes, Result.andThen_ok, Sem.run_pure]
            by_cases hcl : c = l <;> simp [hcl]
          · by_cases hcl : c = l
            · exact ⟨b, st, sz, c - l, o, g1, by simp [hcl], by omega, by omega, fun hne => absurd hcl (by omega)⟩
            · exact ⟨b, st, sz, c - l, o + l * es', g1, by simp [hcl, add_at], by omega, by omega, fun _ => by rw [g4 (by omega)]; omega⟩
        · have hs := run_sliceBounds (P := P) (w := w) true h1 h1n h2 h2n e1 e2 (Nat.le_refl _)
          have hh0 : hh = 0 := by omega
          have hl0 : l = 0 := by omega
          subst hh0; subst hl0
          refine ⟨.slice none 0 0, by rw [run_sliceAt_of (by simp [hu]) hu]; simp [Instr.slice, run_ul hu, hs.1, run_sz hes], .inr ⟨g1, by simp⟩⟩
      · cases he
    · cases he
  · rename_i n e' hu
    rw [Option.bind_eq_some_iff] at he; obtain ⟨es, hes, he⟩ := he
    split at he
    · rename_i k off
      rw [Option.bind_eq_some_iff] at he; obtain ⟨cs, hcs, he⟩ := he
      rw [Option.bind_eq_some_iff] at he; obtain ⟨hh, e1, he⟩ := he
      rw [Option.bind_eq_some_iff] at he; obtain ⟨l, e2, he⟩ := he
      simp [idV] at he; obtain ⟨rfl, _⟩ := he
      obtain ⟨b, st, sz, g1, rfl⟩ := hx
      have hs := run_sliceBounds (P := P) (w := w) false h1 h1n h2 h2n e1 e2 (Nat.le_refl _)
      obtain ⟨o, L, a1, a2, a3, _⟩ := rd_eq.1 hcs
      obtain ⟨ca, T, lo', hi', b1, b2, b3, b4, b5⟩ := r.at_ g1 a1 a2
      have hmul : l * es + (n - l) * es = n * es := by rw [← Nat.add_mul]; congr 1; omega
      refine ⟨.slice (some (if n = l then ⟨b, st + off, none⟩ else (⟨b, st + off, none⟩ : Addr).add (l * es))) (hh - l) (n - l), ?_, .inl ?_⟩
      · simp [Instr.sliceAt, run_ul hu, Instr.sureAddr, hs.1, run_sz hes]
      · by_cases hcl : n = l
        · exact ⟨b, st, sz, n - l, st + off, g1, by simp [hcl], by omega, by omega, fun hne => absurd hcl (by omega)⟩
        · exact ⟨b, st, sz, n - l, st + off + l * es, g1, by simp [hcl, add_at], by omega, by omega, fun _ => by omega⟩
    · cases he
  · cases he
end
end Go.Abs
