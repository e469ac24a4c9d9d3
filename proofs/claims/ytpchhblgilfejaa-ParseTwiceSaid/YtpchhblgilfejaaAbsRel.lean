/-
  How the abstract machine's values and heap lie in Go's memory.
-/
import Derived.Test.YtpchhblgilfejaaAbsRun
import Derived.Below
import Derived.Laws.Cells
set_option autoImplicit false
set_option linter.unusedVariables false
set_option linter.unusedSimpArgs false
namespace Go.Abs
open Go (Value World Addr Program)

/-- Where an object lies: nowhere yet (an empty slice that is nil); in a block, from a cell on; how many cells the block has. -/
inductive Pl where
  | nil
  | at_ (b st sz : Nat)
abbrev Et := Nat → Option Pl
abbrev Ro := Nat → Nat → Option Value

mutual
def FRel (ro : Ro) : F → Value → Prop
  | .s x, v => v = x ∧ x.oneCell' = true
  | .lst n cs, v => ∃ A c, v = .slice A n c ∧ n ≤ c ∧ ((n = 0 ∧ cs = []) ∨ ∃ b o, A = some ⟨b, o, none⟩ ∧ FCells ro cs b o)
  | .fp cs, v => ∃ b o, v = .pointer (some ⟨b, o, none⟩) ∧ FCells ro cs b o
def FCells (ro : Ro) : List F → Nat → Nat → Prop
  | [], _, _ => True
  | x :: r, b, o => (∃ v, ro b o = some v ∧ FRel ro x v) ∧ FCells ro r b (o + 1)
end
mutual
def VRel (η : Et) (ro : Ro) : V → Value → Prop
  | .f x, v => FRel ro x v
  | .ref k off n es, v => (∃ b st sz c o, η k = some (.at_ b st sz) ∧ v = .slice (some ⟨b, o, none⟩) n c ∧ n ≤ c ∧ st + off + c * es ≤ sz ∧ (c ≠ 0 → o = st + off)) ∨ (η k = some .nil ∧ n = 0 ∧ off = 0 ∧ v = .slice none 0 0)
  | .ptr k off, v => ∃ b st sz, η k = some (.at_ b st sz) ∧ v = .pointer (some ⟨b, st + off, none⟩)
  | .mp k, v => ∃ b, η k = some (.at_ b 0 0) ∧ v = .map (some b)
  | .fn f cap, v => ∃ cvs, v = .func (.func f) #[] cvs ∧ VRels η ro cap cvs.toList
  | .agg cs, v => ∃ cvs, v = .agg cvs ∧ VRels η ro cs cvs.toList ∧ ∀ x ∈ cvs.toList, x.oneCell' = true
  | .tup cs, v => ∃ cvs, v = .tuple cvs ∧ VRels η ro cs cvs.toList
  | .lit n cs, v => ∃ A c, v = .slice A n c ∧ c = n ∧ ((n = 0 ∧ cs = []) ∨ ∃ b o, A = some ⟨b, o, none⟩ ∧ VCells η ro cs b o)
  | .un, v => v = undef
  | .any, _ => True
  | .tf, v => ∃ b, v = .bool b
def VRels (η : Et) (ro : Ro) : List V → List Value → Prop
  | [], [] => True
  | v :: l, x :: m => VRel η ro v x ∧ VRels η ro l m
  | _, _ => False
def VCells (η : Et) (ro : Ro) : List V → Nat → Nat → Prop
  | [], _, _ => True
  | v :: r, b, o => (∃ x, ro b o = some x ∧ x.oneCell' = true ∧ VRel η ro v x) ∧ VCells η ro r b (o + 1)
end

/-! ### lists of cells, by places -/
theorem FCells.get {ro : Ro} : ∀ {cs : List F} {b o : Nat}, FCells ro cs b o → ∀ {j x}, cs[j]? = some x → ∃ v, ro b (o + j) = some v ∧ FRel ro x v
  | [], _, _, _, _, _, h => by simp at h
  | y :: r, b, o, h, 0, x, hx => by simp at hx; subst hx; exact h.1
  | y :: r, b, o, h, j + 1, x, hx => by
    obtain ⟨v, h1, h2⟩ := FCells.get h.2 (j := j) (x := x) (by simpa using hx)
    exact ⟨v, by rw [show o + (j + 1) = o + 1 + j by omega]; exact h1, h2⟩
theorem FCells.mk {ro : Ro} : ∀ {cs : List F} {b o : Nat}, (∀ j x, cs[j]? = some x → ∃ v, ro b (o + j) = some v ∧ FRel ro x v) → FCells ro cs b o
  | [], _, _, _ => trivial
  | y :: r, b, o, h => by
    refine ⟨?_, FCells.mk fun j x hx => ?_⟩
    · have := h 0 y rfl; simpa using this
    · have := h (j + 1) x (by simpa using hx); rwa [show o + (j + 1) = o + 1 + j by omega] at this
theorem VCells.get {η : Et} {ro : Ro} : ∀ {cs : List V} {b o : Nat}, VCells η ro cs b o → ∀ {j x}, cs[j]? = some x → ∃ v, ro b (o + j) = some v ∧ v.oneCell' = true ∧ VRel η ro x v
  | [], _, _, _, _, _, h => by simp at h
  | y :: r, b, o, h, 0, x, hx => by simp at hx; subst hx; exact h.1
  | y :: r, b, o, h, j + 1, x, hx => by
    obtain ⟨v, h1, h2⟩ := VCells.get h.2 (j := j) (x := x) (by simpa using hx)
    exact ⟨v, by rw [show o + (j + 1) = o + 1 + j by omega]; exact h1, h2⟩
theorem VCells.mk {η : Et} {ro : Ro} : ∀ {cs : List V} {b o : Nat}, (∀ j x, cs[j]? = some x → ∃ v, ro b (o + j) = some v ∧ v.oneCell' = true ∧ VRel η ro x v) → VCells η ro cs b o
  | [], _, _, _ => trivial
  | y :: r, b, o, h => by
    refine ⟨?_, VCells.mk fun j x hx => ?_⟩
    · have := h 0 y rfl; simpa using this
    · have := h (j + 1) x (by simpa using hx); rwa [show o + (j + 1) = o + 1 + j by omega] at this
theorem VRels.len {η : Et} {ro : Ro} : ∀ {l : List V} {m : List Value}, VRels η ro l m → l.length = m.length
  | [], [], _ => rfl
  | _ :: l, _ :: m, h => by simp [VRels.len h.2]
  | [], _ :: _, h => h.elim
  | _ :: _, [], h => h.elim
theorem VRels.get {η : Et} {ro : Ro} : ∀ {l : List V} {m : List Value}, VRels η ro l m → ∀ {j : Nat} {v : V}, l[j]? = some v → ∃ x, m[j]? = some x ∧ VRel η ro v x
  | [], [], _, _, _, h => by simp at h
  | a :: l, b :: m, h, 0, v, hv => by simp at hv; subst hv; exact ⟨b, rfl, h.1⟩
  | a :: l, b :: m, h, j + 1, v, hv => by simpa using VRels.get h.2 (j := j) (by simpa using hv)
  | [], _ :: _, h, _, _, _ => h.elim
  | _ :: _, [], h, _, _, _ => h.elim
theorem VRels.mk {η : Et} {ro : Ro} : ∀ {l : List V} {m : List Value}, l.length = m.length → (∀ (j : Nat) v, l[j]? = some v → ∃ x, m[j]? = some x ∧ VRel η ro v x) → VRels η ro l m
  | [], [], _, _ => trivial
  | a :: l, b :: m, hl, h => by
    refine ⟨?_, VRels.mk (by simpa using hl) fun j v hv => ?_⟩
    · obtain ⟨x, hx, hr⟩ := h 0 a rfl; simp at hx; subst hx; exact hr
    · simpa using h (j + 1) v (by simpa using hv)
  | [], _ :: _, hl, _ => by simp at hl
  | _ :: _, [], hl, _ => by simp at hl
theorem VRels.append {η : Et} {ro : Ro} : ∀ {l l' : List V} {m m' : List Value}, VRels η ro l m → VRels η ro l' m' → VRels η ro (l ++ l') (m ++ m')
  | [], _, [], _, _, h' => h'
  | _ :: _, _, _ :: _, _, h, h' => ⟨h.1, VRels.append h.2 h'⟩
  | [], _, _ :: _, _, h, _ => h.elim
  | _ :: _, _, [], _, h, _ => h.elim

/-! ### more is known -/
def Ro.le (a b : Ro) : Prop := ∀ k o v, a k o = some v → b k o = some v
def Et.le (a b : Et) : Prop := ∀ k p, a k = some p → b k = some p
theorem Ro.le_refl (a : Ro) : a.le a := fun _ _ _ h => h
theorem Et.le_refl (a : Et) : a.le a := fun _ _ h => h
theorem Ro.le.trans {a b c : Ro} (h : a.le b) (k : b.le c) : a.le c := fun x o v hv => k x o v (h x o v hv)
theorem Et.le.trans {a b c : Et} (h : a.le b) (k : b.le c) : a.le c := fun x v hv => k x v (h x v hv)
mutual
theorem FRel.mono {ro ro' : Ro} (hr : ro.le ro') : ∀ (x : F) (v : Value), FRel ro x v → FRel ro' x v
  | .s x, v, h => h
  | .lst n cs, v, ⟨A, c, h1, h2, h3⟩ => ⟨A, c, h1, h2, h3.imp id fun ⟨b, o, h4, h5⟩ => ⟨b, o, h4, FCells.mono hr cs b o h5⟩⟩
  | .fp cs, v, ⟨b, o, h1, h2⟩ => ⟨b, o, h1, FCells.mono hr cs b o h2⟩
theorem FCells.mono {ro ro' : Ro} (hr : ro.le ro') : ∀ (cs : List F) (b o : Nat), FCells ro cs b o → FCells ro' cs b o
  | [], _, _, _ => trivial
  | x :: r, b, o, ⟨⟨v, h1, h2⟩, h3⟩ => ⟨⟨v, hr _ _ _ h1, FRel.mono hr x v h2⟩, FCells.mono hr r b (o + 1) h3⟩
end
mutual
theorem VRel.mono {η η' : Et} {ro ro' : Ro} (he : η.le η') (hr : ro.le ro') : ∀ (x : V) (v : Value), VRel η ro x v → VRel η' ro' x v
  | .f x, v, h => FRel.mono hr x v h
  | .ref k off n es, v, h => h.imp (fun ⟨b, st, sz, c, o, h1, h2⟩ => ⟨b, st, sz, c, o, he _ _ h1, h2⟩) fun ⟨h1, h2⟩ => ⟨he _ _ h1, h2⟩
  | .ptr k off, v, ⟨b, st, sz, h1, h2⟩ => ⟨b, st, sz, he _ _ h1, h2⟩
  | .mp k, v, ⟨b, h1, h2⟩ => ⟨b, he _ _ h1, h2⟩
  | .fn f cap, v, ⟨cvs, h1, h2⟩ => ⟨cvs, h1, VRels.mono he hr cap _ h2⟩
  | .agg cs, v, ⟨cvs, h1, h2, h3⟩ => ⟨cvs, h1, VRels.mono he hr cs _ h2, h3⟩
  | .tup cs, v, ⟨cvs, h1, h2⟩ => ⟨cvs, h1, VRels.mono he hr cs _ h2⟩
  | .lit n cs, v, ⟨A, c, h1, h2, h3⟩ => ⟨A, c, h1, h2, h3.imp id fun ⟨b, o, h4, h5⟩ => ⟨b, o, h4, VCells.mono he hr cs b o h5⟩⟩
  | .un, v, h => h
  | .any, _, _ => trivial
  | .tf, _, h => h
theorem VRels.mono {η η' : Et} {ro ro' : Ro} (he : η.le η') (hr : ro.le ro') : ∀ (l : List V) (m : List Value), VRels η ro l m → VRels η' ro' l m
  | [], [], _ => trivial
  | x :: l, v :: m, h => ⟨VRel.mono he hr x v h.1, VRels.mono he hr l m h.2⟩
  | [], _ :: _, h => h.elim
  | _ :: _, [], h => h.elim
theorem VCells.mono {η η' : Et} {ro ro' : Ro} (he : η.le η') (hr : ro.le ro') : ∀ (cs : List V) (b o : Nat), VCells η ro cs b o → VCells η' ro' cs b o
  | [], _, _, _ => trivial
  | x :: r, b, o, ⟨⟨v, h1, h2, h3⟩, h4⟩ => ⟨⟨v, hr _ _ _ h1, h2, VRel.mono he hr x v h3⟩, VCells.mono he hr r b (o + 1) h4⟩
end
theorem FRel.one {ro : Ro} {x : F} {v : Value} (h : FRel ro x v) : v.oneCell' = true := by
  cases x with
  | s x => obtain ⟨rfl, h⟩ := h; exact h
  | lst n cs => obtain ⟨A, c, rfl, _⟩ := h; rfl
  | fp cs => obtain ⟨b, o, rfl, _⟩ := h; rfl

theorem frzF_ok {ro : Ro} {x : F} {cv : Value} (h : FRel ro x cv) : FRel ro (frzF x) cv := by
  unfold frzF
  split
  · obtain ⟨e1, _⟩ := h; subst e1; exact ⟨none, _, rfl, Nat.zero_le _, .inl ⟨rfl, rfl⟩⟩
  · exact h
theorem nrmV_ok {η : Et} {ro : Ro} {v : V} {cv : Value} (h : VRel η ro v cv) : VRel η ro (nrmV v) cv := by
  cases v with
  | f x => exact frzF_ok h
  | _ => exact h
theorem VRels.nrm {η : Et} {ro : Ro} : ∀ {l : List V} {m : List Value}, VRels η ro l m → VRels η ro (l.map nrmV) m
  | [], [], _ => trivial
  | _ :: _, _ :: _, h => ⟨nrmV_ok h.1, VRels.nrm h.2⟩
  | [], _ :: _, h => h.elim
  | _ :: _, [], h => h.elim
/-! ### objects in memory -/
def Ob.vl : Ob → Option (List V)
  | .cells cs => some cs
  | .fz cs => some (cs.map .f)
  | _ => none
/-- what is known of a cell of an object that is lent: a scalar's value -/
def weakF : F → V
  | .s x => .f (.s x)
  | _ => .any
/-- cells, as they are read -/
def Ob.lk : Ob → Option (List V)
  | .cells cs => some cs
  | .fz cs => some (cs.map .f)
  | .lent cs => some (cs.map weakF)
  | _ => none
theorem Ob.lk_of {o : Ob} {L : List V} (h : o.vl = some L) : o.lk = some L := by cases o <;> first | exact h | cases h
def Ob.live : Ob → Bool
  | .dead => false
  | _ => true
/-- an object of the function's own, that is, not lent -/
def Ob.mine : Ob → Bool
  | .dead => false
  | .lent _ => false
  | _ => true
theorem Ob.mine_live {o : Ob} (h : o.mine = true) : o.live = true := by cases o <;> first | rfl | cases h
theorem not_lent {h : H} {k : Nat} {o : Ob} (e : h[k]? = some o) (hm : o.mine = true) : ∀ cs, h[k]? ≠ some (.lent cs) := fun cs e' => by
  rw [e] at e'; cases e'; cases hm
/-- cells that hold these values -/
def Held (η : Et) (ro : Ro) (cs : List V) (c : Array Value) (st : Nat) : Prop :=
  ∀ j v, cs[j]? = some v → ∃ x, c[st + j]? = some x ∧ x.oneCell' = true ∧ VRel η ro v x
def MRel (ro : Ro) : List (Value × F) → List MapEntry → Prop
  | [], [] => True
  | a :: l, e :: m => (e.key = a.1 ∧ FRel ro a.2 e.val) ∧ MRel ro l m
  | _, _ => False
theorem MRel.mono {ro ro' : Ro} (hr : ro.le ro') : ∀ {l : List (Value × F)} {m : List MapEntry}, MRel ro l m → MRel ro' l m
  | [], [], _ => trivial
  | _ :: _, _ :: _, h => ⟨⟨h.1.1, FRel.mono hr _ _ h.1.2⟩, MRel.mono hr h.2⟩
  | [], _ :: _, h => h.elim
  | _ :: _, [], h => h.elim
def IsKK : KK → Value → Prop
  | .str, .string _ => True
  | .int k, .int k' _ => k' = k
  | _, _ => False
/-- none of the cells is kept from writing -/
structure Clr (sz lo hi : Nat) : Prop where
  le : lo ≤ hi
  no : ∀ i, i < sz → ¬ (lo ≤ i ∧ i < hi)
def CellsAt (η : Et) (ro : Ro) (w : World) (cs : List V) (p : Pl) : Prop :=
  (p = .nil ∧ cs = []) ∨ ∃ b st sz c T lo hi, p = .at_ b st sz ∧ w.heap[b]? = some (.cells c T (lo, hi)) ∧ c.size = sz ∧ Clr sz lo hi ∧ st + cs.length ≤ sz ∧ Held η ro cs c st
/-- entries are told apart by when they were put in; none goes -/
def Born (ents : Array MapEntry) (clock : Nat) : Prop := clock = ents.size ∧ ∀ (i : Nat) (e : MapEntry), ents[i]? = some e → e.born = i
def ORel (η : Et) (ro : Ro) (w : World) : Ob → Pl → Prop
  | .dead, _ => True
  | .map q es, p => ∃ b ents clock, p = .at_ b 0 0 ∧ w.heap[b]? = some (.map ents clock) ∧ MRel ro es ents.toList ∧ (∀ a ∈ es, IsKK q a.1) ∧ Born ents clock
  | .cells cs, p => CellsAt η ro w cs p
  | .fz cs, p => CellsAt η ro w (cs.map .f) p
  | .lent cs, p => CellsAt η ro w (cs.map weakF) p
/-- a living object's block -/
def Has (η : Et) (h : H) (k b : Nat) : Prop := ∃ st sz o, η k = some (.at_ b st sz) ∧ h[k]? = some o ∧ o.live = true
def Owned (η : Et) (h : H) (b : Nat) : Prop := ∃ k, Has η h k b
/-- where package-level variables lie -/
def GOk (ro : Ro) : Prop := ∀ g cs, globTab g = some cs → FCells ro cs g 0
theorem GOk.mono {ro ro' : Ro} (hr : ro.le ro') (h : GOk ro) : GOk ro' := fun g cs e => FCells.mono hr cs g 0 (h g cs e)
structure Rel (η : Et) (ro : Ro) (h : H) (w : World) : Prop where
  cells : ∀ b o v, ro b o = some v → w.cell? ⟨b, o, none⟩ = some v
  obj : ∀ k p, η k = some p → ∃ o, h[k]? = some o ∧ ORel η ro w o p
  own : ∀ k k' b, Has η h k b → Has η h k' b → k = k'
  roOwn : ∀ k b, Has η h k b → ∀ o, ro b o = Option.none
  glob : GOk ro

/-- One step: what may have changed. -/
structure Stp (η : Et) (ro : Ro) (h : H) (w : World) (η' : Et) (ro' : Ro) (h' : H) (w' : World) : Prop where
  size : w.heap.size ≤ w'.heap.size
  keep : ∀ b, b < w.heap.size → ¬ Owned η h b → w'.heap[b]? = w.heap[b]?
  owns : ∀ b, b < w.heap.size → Owned η' h' b → Owned η h b
  os : w'.os = w.os
  tape : w'.tape = w.tape
  output : w'.output = w.output
  len : h.length ≤ h'.length
  ext : ∀ k, k < h.length → η' k = η k
  rol : ro.le ro'
  rok : ∀ b, b < w.heap.size → ¬ Owned η h b → ∀ o, ro' b o = ro b o
  lent : ∀ k cs, h[k]? = some (.lent cs) → h'[k]? = some (.lent cs) ∧ ∀ b st sz, η k = some (.at_ b st sz) → w'.heap[b]? = w.heap[b]? ∧ ∀ o, ro' b o = ro b o
theorem Rel.lt {η : Et} {ro : Ro} {h : H} {w : World} (r : Rel η ro h w) {k : Nat} {p : Pl} (hk : η k = some p) : k < h.length := by
  obtain ⟨o, ho, _⟩ := r.obj k p hk
  exact (List.getElem?_eq_some_iff.1 ho).1
theorem Stp.le {η η' : Et} {ro ro' : Ro} {h h' : H} {w w' : World} (r : Rel η ro h w) (s : Stp η ro h w η' ro' h' w') : η.le η' := fun k p hk => by rw [s.ext k (r.lt hk)]; exact hk
theorem Stp.refl (η : Et) (ro : Ro) (h : H) (w : World) : Stp η ro h w η ro h w :=
  ⟨Nat.le_refl _, fun _ _ _ => rfl, fun _ _ h => h, rfl, rfl, rfl, Nat.le_refl _, fun _ _ => rfl, Ro.le_refl _, fun _ _ _ _ => rfl, fun _ _ h => ⟨h, fun _ _ _ _ => ⟨rfl, fun _ => rfl⟩⟩⟩
theorem Stp.trans {η η' η'' : Et} {ro ro' ro'' : Ro} {h h' h'' : H} {w w' w'' : World} (s : Stp η ro h w η' ro' h' w') (t : Stp η' ro' h' w' η'' ro'' h'' w'') : Stp η ro h w η'' ro'' h'' w'' :=
  ⟨Nat.le_trans s.size t.size,
   fun b hb hn => by rw [t.keep b (Nat.lt_of_lt_of_le hb s.size) (fun ho => hn (s.owns b hb ho)), s.keep b hb hn],
   fun b hb ho => s.owns b hb (t.owns b (Nat.lt_of_lt_of_le hb s.size) ho),
   t.os.trans s.os, t.tape.trans s.tape, t.output.trans s.output, Nat.le_trans s.len t.len,
   fun k hk => (t.ext k (Nat.lt_of_lt_of_le hk s.len)).trans (s.ext k hk), s.rol.trans t.rol,
   fun b hb hn o => by rw [t.rok b (Nat.lt_of_lt_of_le hb s.size) (fun ho => hn (s.owns b hb ho)), s.rok b hb hn],
   fun k cs hk => by
     obtain ⟨h1, h2⟩ := s.lent k cs hk
     obtain ⟨h3, h4⟩ := t.lent k cs h1
     refine ⟨h3, fun b st sz e => ?_⟩
     obtain ⟨h5, h6⟩ := h4 b st sz (by rw [s.ext k (List.getElem?_eq_some_iff.1 hk).1]; exact e)
     obtain ⟨h7, h8⟩ := h2 b st sz e
     exact ⟨h5.trans h7, fun o => (h6 o).trans (h8 o)⟩⟩
theorem CellsAt.keep {η : Et} {ro : Ro} {w w' : World} {cs : List V} {p : Pl} (h : CellsAt η ro w cs p) (hb : ∀ b st sz, p = .at_ b st sz → w'.heap[b]? = w.heap[b]?) : CellsAt η ro w' cs p := by
  rcases h with h | ⟨b, st, sz, c, T, lo, hi, rfl, h⟩
  · exact .inl h
  · refine .inr ⟨b, st, sz, c, T, lo, hi, rfl, ?_⟩
    rw [hb b st sz rfl]; exact h
theorem CellsAt.mono {η η' : Et} {ro ro' : Ro} {w : World} {cs : List V} {p : Pl} (he : η.le η') (hr : ro.le ro') (h : CellsAt η ro w cs p) : CellsAt η' ro' w cs p := by
  rcases h with h | ⟨b, st, sz, c, T, lo, hi, rfl, h1, h2, h3, h4, h5⟩
  · exact .inl h
  · exact .inr ⟨b, st, sz, c, T, lo, hi, rfl, h1, h2, h3, h4, fun j v hv => by obtain ⟨x, a, b, c⟩ := h5 j v hv; exact ⟨x, a, b, VRel.mono he hr _ _ c⟩⟩
/-- blocks that lie as they did -/
theorem ORel.keep {η : Et} {ro : Ro} {w w' : World} {o : Ob} {p : Pl} (h : ORel η ro w o p) (hb : ∀ b st sz, p = .at_ b st sz → o.live = true → w'.heap[b]? = w.heap[b]?) : ORel η ro w' o p := by
  cases o with
  | dead => trivial
  | map q es =>
    obtain ⟨b, ents, clock, rfl, h1, h2⟩ := h
    exact ⟨b, ents, clock, rfl, by rw [hb b 0 0 rfl rfl]; exact h1, h2⟩
  | cells cs => exact CellsAt.keep h fun b st sz e => hb b st sz e rfl
  | fz cs => exact CellsAt.keep h fun b st sz e => hb b st sz e rfl
  | lent cs => exact CellsAt.keep h fun b st sz e => hb b st sz e rfl
theorem ORel.mono {η η' : Et} {ro ro' : Ro} {w : World} {o : Ob} {p : Pl} (he : η.le η') (hr : ro.le ro') (h : ORel η ro w o p) : ORel η' ro' w o p := by
  cases o with
  | dead => trivial
  | map q es =>
    obtain ⟨b, ents, clock, rfl, h1, h2, h3⟩ := h
    exact ⟨b, ents, clock, rfl, h1, MRel.mono hr h2, h3⟩
  | cells cs => exact CellsAt.mono he hr h
  | fz cs => exact CellsAt.mono he hr h
  | lent cs => exact CellsAt.mono he hr h
theorem World.cell?_heap {w w' : World} {a : Addr} (h : w'.heap[a.block]? = w.heap[a.block]?) : w'.cell? a = w.cell? a := by simp [World.cell?, h]
/-- What of the world's memory counts. -/
theorem Rel.world {η : Et} {ro : Ro} {h : H} {w w' : World} (r : Rel η ro h w) (hc : ∀ b o v, ro b o = some v → w'.heap[b]? = w.heap[b]?) (ho : ∀ b, Owned η h b → w'.heap[b]? = w.heap[b]?) : Rel η ro h w' := by
  refine ⟨fun b o v hv => ?_, fun k p hk => ?_, r.own, r.roOwn, r.glob⟩
  · rw [World.cell?_heap (hc b o v hv)]; exact r.cells b o v hv
  · obtain ⟨o, h1, h2⟩ := r.obj k p hk
    exact ⟨o, h1, h2.keep fun b st sz e hl => ho b ⟨k, st, sz, o, e ▸ hk, h1, hl⟩⟩
theorem Rel.drew {η : Et} {ro : Ro} {h : H} {w w' : World} (r : Rel η ro h w) (e : w'.heap = w.heap) : Rel η ro h w' :=
  r.world (fun _ _ _ _ => by rw [e]) fun _ _ => by rw [e]
/-- A live object lies in one block alone. -/
theorem Rel.block_lt {η : Et} {ro : Ro} {h : H} {w : World} (r : Rel η ro h w) {b : Nat} (ho : Owned η h b) : b < w.heap.size := by
  obtain ⟨k, st, sz, o, h1, h2, h3⟩ := ho
  obtain ⟨o', h4, h5⟩ := r.obj k _ h1
  rw [h2] at h4; cases h4
  cases o with
  | dead => cases h3
  | map q es => obtain ⟨b', ents, clock, e, h6, _⟩ := h5; cases e; exact (Array.getElem?_eq_some_iff.1 h6).1
  | cells cs =>
    rcases h5 with ⟨e, _⟩ | ⟨b', st', sz', c, T, lo, hi, e, h6, _⟩
    · cases e
    · cases e; exact (Array.getElem?_eq_some_iff.1 h6).1
  | fz cs =>
    rcases h5 with ⟨e, _⟩ | ⟨b', st', sz', c, T, lo, hi, e, h6, _⟩
    · cases e
    · cases e; exact (Array.getElem?_eq_some_iff.1 h6).1
  | lent cs =>
    rcases h5 with ⟨e, _⟩ | ⟨b', st', sz', c, T, lo, hi, e, h6, _⟩
    · cases e
    · cases e; exact (Array.getElem?_eq_some_iff.1 h6).1
theorem Rel.ro_lt {η : Et} {ro : Ro} {h : H} {w : World} (r : Rel η ro h w) {b o : Nat} {v : Value} (hv : ro b o = some v) : b < w.heap.size :=
  World.block_lt_of_cell? w ⟨b, o, none⟩ (r.cells b o v hv)
end Go.Abs
