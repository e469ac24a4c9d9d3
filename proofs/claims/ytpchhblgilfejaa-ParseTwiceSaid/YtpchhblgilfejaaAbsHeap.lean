/-
  What changes memory: new objects, stores.
-/
import Derived.Test.YtpchhblgilfejaaAbsOps2
set_option autoImplicit false
set_option linter.unusedVariables false
set_option linter.unusedSimpArgs false
namespace Go.Abs
open Go

def Et.set (η : Et) (k : Nat) (p : Pl) : Et := fun i => if i = k then some p else η i
theorem Et.set_same (η : Et) (k : Nat) (p : Pl) : η.set k p k = some p := by simp [Et.set]
theorem Et.set_ne (η : Et) {k i : Nat} (p : Pl) (hn : i ≠ k) : η.set k p i = η i := by simp [Et.set, hn]
theorem get_snoc_lt {h : H} {o : Ob} {k : Nat} (hk : k < h.length) : (h ++ [o])[k]? = h[k]? := List.getElem?_append_left hk
theorem get_snoc {h : H} {o : Ob} : (h ++ [o])[h.length]? = some o := by simp

section
variable {P : Program} {η : Et} {ro : Ro} {h : H} {w : World}

theorem Rel.none_at (r : Rel η ro h w) : η h.length = none := by
  cases e : η h.length with
  | none => rfl
  | some p => exact absurd (r.lt e) (Nat.lt_irrefl _)
theorem Rel.le_set (r : Rel η ro h w) (p : Pl) : η.le (η.set h.length p) := fun k q hk => by rw [Et.set_ne _ _ (Nat.ne_of_lt (r.lt hk))]; exact hk
/-- a new object, in a block that nobody has -/
theorem Rel.add (r : Rel η ro h w) {o : Ob} {p : Pl} (ho : ORel (η.set h.length p) ro w o p) (hb : ∀ b st sz, p = .at_ b st sz → ¬ Owned η h b ∧ ∀ i, ro b i = none) : Rel (η.set h.length p) ro (h ++ [o]) w := by
  have hle := r.le_set p
  have back : ∀ k b, Has (η.set h.length p) (h ++ [o]) k b → (k ≠ h.length ∧ Has η h k b) ∨ (k = h.length ∧ ∃ st sz, p = .at_ b st sz) := by
    rintro k b ⟨st, sz, o', h1, h2, h3⟩
    by_cases hk : k = h.length
    · subst hk; rw [Et.set_same] at h1; cases h1; exact .inr ⟨rfl, st, sz, rfl⟩
    · rw [Et.set_ne _ _ hk] at h1
      exact .inl ⟨hk, st, sz, o', h1, by rw [get_snoc_lt (r.lt h1)] at h2; exact h2, h3⟩
  refine ⟨r.cells, fun k q hk => ?_, fun k k' b hk hk' => ?_, fun k b hk i => ?_, r.glob⟩
  · by_cases hkl : k = h.length
    · subst hkl; rw [Et.set_same] at hk; cases hk; exact ⟨o, get_snoc, ho⟩
    · rw [Et.set_ne _ _ hkl] at hk
      obtain ⟨o', h1, h2⟩ := r.obj k q hk
      exact ⟨o', by rw [get_snoc_lt (r.lt hk)]; exact h1, h2.mono hle (Ro.le_refl _)⟩
  · rcases back k b hk with ⟨_, a⟩ | ⟨rfl, st, sz, a⟩ <;> rcases back k' b hk' with ⟨_, a'⟩ | ⟨rfl, st', sz', a'⟩
    · exact r.own k k' b a a'
    · exact absurd ⟨k, a⟩ (hb _ _ _ a').1
    · exact absurd ⟨k', a'⟩ (hb _ _ _ a).1
    · rfl
  · rcases back k b hk with ⟨_, a⟩ | ⟨rfl, st, sz, a⟩
    · exact r.roOwn k b a i
    · exact (hb _ _ _ a).2 i
theorem get_set {h : H} {k i : Nat} {o o' : Ob} (e : (h.set k o)[i]? = some o') : (i = k ∧ o' = o) ∨ (i ≠ k ∧ h[i]? = some o') := by
  rw [List.getElem?_set] at e
  split at e
  · split at e
    · left; rename_i h1 h2; exact ⟨h1.symm, by cases e; rfl⟩
    · cases e
  · right; rename_i h1; exact ⟨fun q => h1 q.symm, e⟩
/-- an object is changed where it lies -/
theorem Rel.upd (r : Rel η ro h w) {w' : World} {k : Nat} {o o' : Ob} {p : Pl} (hk : η k = some p) (ho : h[k]? = some o) (ho' : ORel η ro w' o' p) (hl : o'.live = true → o.live = true)
    (hw : ∀ b, (∀ st sz, p ≠ .at_ b st sz) → w'.heap[b]? = w.heap[b]?) (hlive : o.live = true) : Rel η ro (h.set k o') w' := by
  have hlt := r.lt hk
  have back : ∀ i b, Has η (h.set k o') i b → Has η h i b := by
    rintro i b ⟨st, sz, q, h1, h2, h3⟩
    rcases get_set h2 with ⟨rfl, rfl⟩ | ⟨_, h4⟩
    · rw [hk] at h1; cases h1; exact ⟨st, sz, o, hk, ho, hlive⟩
    · exact ⟨st, sz, q, h1, h4, h3⟩
  have other : ∀ b, (∃ i, i ≠ k ∧ Has η h i b) → w'.heap[b]? = w.heap[b]? := by
    rintro b ⟨i, hi, hh⟩
    refine hw b fun st sz e => ?_
    exact hi (r.own i k b hh ⟨st, sz, o, e ▸ hk, ho, hlive⟩)
  refine ⟨fun b i v hv => ?_, fun i q hi => ?_, fun i i' b hi hi' => r.own i i' b (back i b hi) (back i' b hi'), fun i b hi j => r.roOwn i b (back i b hi) j, r.glob⟩
  · have : w'.heap[b]? = w.heap[b]? := hw b fun st sz e => by
      have := r.roOwn k b ⟨st, sz, o, e ▸ hk, ho, hlive⟩ i
      rw [this] at hv; cases hv
    rw [World.cell?_heap (w := w) (w' := w') this]; exact r.cells b i v hv
  · by_cases hik : i = k
    · subst hik; rw [hk] at hi; cases hi
      exact ⟨o', by simp [hlt], ho'⟩
    · obtain ⟨o2, h1, h2⟩ := r.obj i q hi
      refine ⟨o2, by rw [List.getElem?_set_ne (Ne.symm hik)]; exact h1, h2.keep fun b st sz e hl => other b ⟨i, hik, st, sz, o2, e ▸ hi, h1, hl⟩⟩
/-- an object is given up -/
theorem Rel.kill (r : Rel η ro h w) {k : Nat} {p : Pl} (hk : η k = some p) : Rel η ro (h.set k .dead) w := by
  have hlt := r.lt hk
  have back : ∀ i b, Has η (h.set k .dead) i b → Has η h i b := by
    rintro i b ⟨st, sz, q, h1, h2, h3⟩
    rcases get_set h2 with ⟨rfl, rfl⟩ | ⟨_, h4⟩
    · cases h3
    · exact ⟨st, sz, q, h1, h4, h3⟩
  refine ⟨r.cells, fun i q hi => ?_, fun i i' b hi hi' => r.own i i' b (back i b hi) (back i' b hi'), fun i b hi j => r.roOwn i b (back i b hi) j, r.glob⟩
  by_cases hik : i = k
  · subst hik; exact ⟨.dead, by simp [hlt], trivial⟩
  · obtain ⟨o2, h1, h2⟩ := r.obj i q hi
    exact ⟨o2, by rw [List.getElem?_set_ne (Ne.symm hik)]; exact h1, h2⟩
theorem not_owned_killed (r : Rel η ro h w) {k b : Nat} (hh : Has η h k b) : ¬ Owned η (h.set k .dead) b := by
  rintro ⟨i, st, sz, q, h1, h2, h3⟩
  rcases get_set h2 with ⟨rfl, rfl⟩ | ⟨h4, h5⟩
  · cases h3
  · exact h4 (r.own i k b ⟨st, sz, q, h1, h5, h3⟩ hh)

/-! ### a new block -/
theorem heap_alloc_lt {w1 : World} {ob : Obj} {b : Nat} (e : w1.heap = w.heap) (hb : b < w.heap.size) : (w1.alloc ob).heap[b]? = w.heap[b]? := by
  show (w1.heap.push ob)[b]? = _
  rw [e, Array.getElem?_push, if_neg (by omega)]
theorem heap_alloc_at {w1 : World} {ob : Obj} (e : w1.heap = w.heap) : (w1.alloc ob).heap[w.heap.size]? = some ob := by
  show (w1.heap.push ob)[w.heap.size]? = _
  rw [e]; simp
theorem Rel.alloc (r : Rel η ro h w) {w1 : World} (e : w1.heap = w.heap) (ob : Obj) : Rel η ro h (w1.alloc ob) :=
  r.world (fun b o v hv => heap_alloc_lt e (r.ro_lt hv)) fun b ho => heap_alloc_lt e (r.block_lt ho)
/-- the same world, but for what doesn't count -/
structure Alike (w1 w : World) : Prop where
  heap : w1.heap = w.heap
  os : w1.os = w.os
  tape : w1.tape = w.tape
  output : w1.output = w.output
theorem Alike.refl (w : World) : Alike w w := ⟨rfl, rfl, rfl, rfl⟩
/-- A new object in a new block; an old one may be given up. -/
theorem new_block (r : Rel η ro h w) {w1 : World} (e : Alike w1 w) {h1 : H} (hh : h1 = h ∨ ∃ k p, η k = some p ∧ (∀ cs, h[k]? ≠ some (.lent cs)) ∧ h1 = h.set k .dead) {o : Ob} {ob : Obj} {st sz : Nat}
    (ho : ∀ η', η.le η' → ORel η' ro (w1.alloc ob) o (.at_ w.heap.size st sz)) :
    Rel (η.set h.length (.at_ w.heap.size st sz)) ro (h1 ++ [o]) (w1.alloc ob) ∧ Stp η ro h w (η.set h.length (.at_ w.heap.size st sz)) ro (h1 ++ [o]) (w1.alloc ob) := by
  have hlen : h1.length = h.length := by rcases hh with rfl | ⟨k, p, _, _, rfl⟩ <;> simp
  have r1 : Rel η ro h1 w := by rcases hh with rfl | ⟨k, p, hk, _, rfl⟩; exact r; exact r.kill hk
  have r2 : Rel η ro h1 (w1.alloc ob) := r1.alloc e.heap ob
  have sub : ∀ b, Owned η h1 b → Owned η h b := by
    rintro b ⟨i, st', sz', q, a1, a2, a3⟩
    rcases hh with rfl | ⟨k, p, _, _, rfl⟩
    · exact ⟨i, st', sz', q, a1, a2, a3⟩
    · rcases get_set a2 with ⟨rfl, rfl⟩ | ⟨_, a4⟩
      · cases a3
      · exact ⟨i, st', sz', q, a1, a4, a3⟩
  have hlt : ∀ {b}, Owned η h1 b → b < w.heap.size := fun hb => r1.block_lt hb
  have r3 := r2.add (o := o) (p := .at_ w.heap.size st sz) (ho _ (r2.le_set _)) (by
    rintro b _ _ ⟨⟩
    exact ⟨fun hb => Nat.lt_irrefl _ (hlt hb), fun i => by
      cases hv : ro w.heap.size i with
      | none => rfl
      | some v => exact absurd (r.ro_lt hv) (Nat.lt_irrefl _)⟩)
  rw [hlen] at r3
  refine ⟨r3, ⟨?_, fun b hb _ => heap_alloc_lt e.heap hb, ?_, e.os, e.tape, e.output, by simp [hlen], fun k hk => Et.set_ne _ _ (Nat.ne_of_lt hk), Ro.le_refl _, fun _ _ _ _ => rfl, fun i cs hi => ?_⟩⟩
  rotate_right
  · have hlt := (List.getElem?_eq_some_iff.1 hi).1
    have h1i : h1[i]? = some (.lent cs) := by
      rcases hh with rfl | ⟨k, p, _, hn, rfl⟩
      · exact hi
      · rw [List.getElem?_set_ne (fun q : k = i => hn cs (by rw [q]; exact hi))]; exact hi
    exact ⟨by rw [get_snoc_lt (by rw [hlen]; exact hlt)]; exact h1i, fun b st sz hp => ⟨heap_alloc_lt e.heap (r.block_lt ⟨i, st, sz, _, hp, hi, rfl⟩), fun _ => rfl⟩⟩
  · show w.heap.size ≤ (w1.heap.push ob).size; rw [e.heap]; simp
  · rintro b hb ⟨i, st', sz', q, a1, a2, a3⟩
    by_cases hi : i = h.length
    · subst hi; rw [Et.set_same] at a1; cases a1; exact absurd hb (Nat.lt_irrefl _)
    · rw [Et.set_ne _ _ hi] at a1
      exact sub b ⟨i, st', sz', q, a1, by rw [get_snoc_lt (by rw [hlen]; exact r.lt a1)] at a2; exact a2, a3⟩
/-- An object takes another one's block. -/
theorem same_block (r : Rel η ro h w) {w' : World} {k b st sz : Nat} {o o' : Ob} (hk : η k = some (.at_ b st sz)) (ho : h[k]? = some o) (hm : o.mine = true)
    (hw : ∀ i, i ≠ b → w'.heap[i]? = w.heap[i]?) (hs : w'.heap.size = w.heap.size) (e1 : w'.os = w.os) (e2 : w'.tape = w.tape) (e3 : w'.output = w.output) {st' : Nat}
    (ho' : ∀ η', η.le η' → ORel η' ro w' o' (.at_ b st' sz)) :
    Rel (η.set h.length (.at_ b st' sz)) ro (h.set k .dead ++ [o']) w' ∧ Stp η ro h w (η.set h.length (.at_ b st' sz)) ro (h.set k .dead ++ [o']) w' := by
  have hl := Ob.mine_live hm
  have hh : Has η h k b := ⟨st, sz, o, hk, ho, hl⟩
  have hno := not_owned_killed r hh
  have r1 : Rel η ro (h.set k .dead) w' := (r.kill hk).world (fun b' i v hv => hw b' fun e => by have := r.roOwn k b hh i; rw [e, this] at hv; cases hv) (fun b' hb' => hw b' fun e => hno (e ▸ hb'))
  have r2 := r1.add (o := o') (p := .at_ b st' sz) (ho' _ (r1.le_set _)) (by rintro b' _ _ ⟨⟩; exact ⟨hno, r.roOwn k b hh⟩)
  rw [List.length_set] at r2
  refine ⟨r2, ⟨by omega, fun b' hb' hn => hw b' fun e => hn ⟨k, e ▸ hh⟩, ?_, e1, e2, e3, by simp, fun i hi => Et.set_ne _ _ (Nat.ne_of_lt hi), Ro.le_refl _, fun _ _ _ _ => rfl, fun i cs hi => ?_⟩⟩
  rotate_right
  · have hlt := (List.getElem?_eq_some_iff.1 hi).1
    have hne : k ≠ i := fun q => not_lent ho hm cs (by rw [q]; exact hi)
    refine ⟨by rw [get_snoc_lt (by rw [List.length_set]; exact hlt), List.getElem?_set_ne hne]; exact hi, fun b' s1 s2 hp => ⟨hw b' fun e => ?_, fun _ => rfl⟩⟩
    exact hne (r.own k i b hh ⟨s1, s2, _, e ▸ hp, hi, rfl⟩)
  · rintro b' hb' ⟨i, s1, s2, q, a1, a2, a3⟩
    by_cases hi : i = h.length
    · subst hi; rw [Et.set_same] at a1; cases a1; exact ⟨k, hh⟩
    · rw [Et.set_ne _ _ hi] at a1
      rw [get_snoc_lt (by rw [List.length_set]; exact r.lt a1)] at a2
      rcases get_set a2 with ⟨rfl, rfl⟩ | ⟨_, a4⟩
      · cases a3
      · exact ⟨i, s1, s2, q, a1, a4, a3⟩
/-- An object changes where it lies. -/
theorem upd_step (r : Rel η ro h w) {w' : World} {k b st sz : Nat} {o o' : Ob} (hk : η k = some (.at_ b st sz)) (ho : h[k]? = some o) (hm : o.mine = true)
    (hw : ∀ i, i ≠ b → w'.heap[i]? = w.heap[i]?) (hs : w'.heap.size = w.heap.size) (e1 : w'.os = w.os) (e2 : w'.tape = w.tape) (e3 : w'.output = w.output)
    (ho' : ORel η ro w' o' (.at_ b st sz)) : Rel η ro (h.set k o') w' ∧ Stp η ro h w η ro (h.set k o') w' := by
  have hl := Ob.mine_live hm
  have hh : Has η h k b := ⟨st, sz, o, hk, ho, hl⟩
  refine ⟨r.upd hk ho ho' (fun _ => hl) (fun i hi => hw i fun e => hi st sz (by rw [e])) hl, ⟨by omega, fun b' hb' hn => hw b' fun e => hn ⟨k, e ▸ hh⟩, ?_, e1, e2, e3, by simp, fun _ _ => rfl, Ro.le_refl _, fun _ _ _ _ => rfl, fun i cs hi => ?_⟩⟩
  rotate_right
  · have hne : k ≠ i := fun q => not_lent ho hm cs (by rw [q]; exact hi)
    refine ⟨by rw [List.getElem?_set_ne hne]; exact hi, fun b' s1 s2 hp => ⟨hw b' fun e => ?_, fun _ => rfl⟩⟩
    exact hne (r.own k i b hh ⟨s1, s2, _, e ▸ hp, hi, rfl⟩)
  · rintro b' hb' ⟨i, s1, s2, q, a1, a2, a3⟩
    rcases get_set a2 with ⟨rfl, rfl⟩ | ⟨_, a4⟩
    · rw [hk] at a1; cases a1; exact ⟨i, hh⟩
    · exact ⟨i, s1, s2, q, a1, a4, a3⟩

/-! ### cells into a block -/
def aput (c : Array Value) (o : Nat) : List Value → Array Value
  | [] => c
  | v :: r => aput (c.setIfInBounds o v) (o + 1) r
theorem aput_size (c : Array Value) (o : Nat) (l : List Value) : (aput c o l).size = c.size := by
  induction l generalizing c o with
  | nil => rfl
  | cons v r ih => simp [aput, ih]
theorem aput_get (c : Array Value) (o : Nat) (l : List Value) (ho : o + l.length ≤ c.size) (i : Nat) : (aput c o l)[i]? = if o ≤ i ∧ i < o + l.length then l[i - o]? else c[i]? := by
  induction l generalizing c o with
  | nil => simp [aput]; omega
  | cons v r ih =>
    simp only [List.length_cons] at ho
    rw [aput, ih _ _ (by simp; omega)]
    by_cases h1 : o + 1 ≤ i ∧ i < o + 1 + r.length
    · rw [if_pos h1, if_pos (by simp; omega), show i - o = (i - (o + 1)) + 1 by omega]; simp
    · rw [if_neg h1]
      by_cases h2 : i = o
      · subst h2
        rw [if_pos (by simp), Array.getElem?_setIfInBounds_self]
        simp; omega
      · rw [if_neg (by simp; omega), Array.getElem?_setIfInBounds_ne (by omega)]
def World.blk (w : World) (b : Nat) (ob : Obj) : World := { w with heap := w.heap.setIfInBounds b ob }
theorem setCell_blk {b o : Nat} {c : Array Value} {T : TypeId} {f : Nat × Nat} (e : w.heap[b]? = some (.cells c T f)) (v : Value) : w.setCell ⟨b, o, none⟩ v = World.blk w b (.cells (c.setIfInBounds o v) T f) := by
  unfold Go.World.setCell World.blk
  congr 1
  apply Array.ext_getElem?
  intro i
  rw [Array.getElem?_modify, Array.getElem?_setIfInBounds]
  by_cases hi : b = i
  · subst hi
    have hlt := (Array.getElem?_eq_some_iff.1 e).1
    rw [if_pos rfl, if_pos rfl, if_pos hlt, e]
    simp
  · rw [if_neg hi, if_neg hi]
theorem blk_get {b : Nat} {ob : Obj} (hb : b < w.heap.size) : (World.blk w b ob).heap[b]? = some ob := by simp [World.blk, hb]
theorem blk_other {b i : Nat} {ob : Obj} (hi : i ≠ b) : (World.blk w b ob).heap[i]? = w.heap[i]? := by simp [World.blk, Array.getElem?_setIfInBounds_ne (Ne.symm hi)]
theorem run_puts {b : Nat} {T : TypeId} {lo hi : Nat} (xs : List Value) : ∀ (w : World) (c : Array Value) (o j : Nat), w.heap[b]? = some (.cells c T (lo, hi)) → (∀ i, i < c.size → ¬ (lo ≤ i ∧ i < hi)) → o + j + xs.length ≤ c.size → (∀ x ∈ xs, x.oneCell' = true) →
    (storeCells ⟨b, o, none⟩ xs j).run P w = .ok () (World.blk w b (.cells (aput c (o + j) xs) T (lo, hi))) := by
  induction xs with
  | nil =>
    intro w c o j e hf hs h1
    simp only [storeCells, Sem.run_pure, aput]
    have hset : w.heap.setIfInBounds b (.cells c T (lo, hi)) = w.heap := by
      apply Array.ext_getElem?
      intro i
      rw [Array.getElem?_setIfInBounds]
      split
      · rename_i hbi
        subst hbi
        rw [e, if_pos (Array.getElem?_eq_some_iff.1 e).1]
      · rfl
    unfold World.blk
    rw [hset]
  | cons x r ih =>
    intro w c o j e hf hs h1
    simp only [List.length_cons] at hs
    have hlt : o + j < c.size := by omega
    have hcell : w.cell? ⟨b, o + j, none⟩ = some c[o + j] := by rw [cell_at e]; exact Array.getElem?_eq_getElem hlt
    have hfr : w.frozen? ⟨b, o + j, none⟩ = false := by simp [World.frozen?, e]; have := hf _ hlt; omega
    simp only [storeCells, Sem.run_bind, add_at]
    rw [run_store P w _ x .plain (h1 x (by simp))]
    simp only [hcell, hfr, if_false, Bool.false_eq_true, Result.andThen_ok]
    rw [setCell_blk e]
    have hb : b < w.heap.size := (Array.getElem?_eq_some_iff.1 e).1
    rw [ih (World.blk w b (.cells (c.setIfInBounds (o + j) x) T (lo, hi))) (c.setIfInBounds (o + j) x) o (j + 1) (blk_get hb) (by simpa using hf) (by simp; omega) (fun y hy => h1 y (by simp [hy]))]
    congr 1
    simp [World.blk, aput, Nat.add_assoc]
theorem splice_len {α : Type} (cs : List α) (o : Nat) (l : List α) : (splice cs o l).length = cs.length := by
  induction l generalizing cs o with
  | nil => rfl
  | cons v r ih => simp [splice, ih]
theorem splice_get {α : Type} (cs : List α) (o : Nat) (l : List α) (ho : o + l.length ≤ cs.length) (i : Nat) : (splice cs o l)[i]? = if o ≤ i ∧ i < o + l.length then l[i - o]? else cs[i]? := by
  induction l generalizing cs o with
  | nil => simp [splice]; omega
  | cons v r ih =>
    simp only [List.length_cons] at ho
    rw [splice, ih _ _ (by simp; omega)]
    by_cases h1 : o + 1 ≤ i ∧ i < o + 1 + r.length
    · rw [if_pos h1, if_pos (by simp; omega), show i - o = (i - (o + 1)) + 1 by omega]; simp
    · rw [if_neg h1]
      by_cases h2 : i = o
      · subst h2
        rw [if_pos (by simp), List.getElem?_set]
        simp; omega
      · rw [if_neg (by simp; omega), List.getElem?_set_ne (by omega)]
theorem held_put {L : List V} {c : Array Value} {st off : Nat} {vs : List V} {xs : List Value} (hh : Held η ro L c st) (hr : VRels η ro vs xs) (h1 : ∀ x ∈ xs, x.oneCell' = true) (ho : off + vs.length ≤ L.length) (hs : st + L.length ≤ c.size) :
    Held η ro (splice L off vs) (aput c (st + off) xs) st := by
  intro j v hv
  have hl := hr.len
  rw [splice_get _ _ _ ho] at hv
  rw [aput_get _ _ _ (by omega)]
  split at hv
  · rename_i hj
    obtain ⟨x, hx, hvx⟩ := hr.get hv
    refine ⟨x, ?_, h1 x (List.mem_of_getElem? hx), hvx⟩
    rw [if_pos (by omega), show st + j - (st + off) = j - off by omega]; exact hx
  · rename_i hj
    obtain ⟨x, hx, h2, h3⟩ := hh j v hv
    exact ⟨x, by rw [if_neg (by omega)]; exact hx, h2, h3⟩
theorem toFs_eq : ∀ {l : List V} {m : List F}, toFs l = some m ↔ l = m.map .f
  | [], m => by cases m <;> simp [toFs]
  | v :: r, m => by
    simp only [toFs, Option.bind_eq_some_iff, V.f?_eq]
    constructor
    · rintro ⟨x, rfl, l, h1, h2⟩; cases h2; simp [toFs_eq.1 h1]
    · intro e
      cases m with
      | nil => cases e
      | cons x m => simp only [List.map_cons, List.cons.injEq] at e; exact ⟨x, e.1, m, toFs_eq.2 e.2, rfl⟩
theorem splice_map {cs : List F} {off : Nat} {m : List F} : (splice cs off m).map V.f = splice (cs.map .f) off (m.map .f) := by
  induction m generalizing cs off with
  | nil => rfl
  | cons x r ih => simp [splice, ih, List.map_set]
theorem cellsOf_ok {v : V} {cs : List V} {cv : Value} (e : cellsOf v = some cs) (hv : VRel η ro v cv) : VRels η ro cs cv.cells.toList ∧ ∀ x ∈ cv.cells.toList, x.oneCell' = true := by
  unfold cellsOf at e
  split at e
  · cases e
    obtain ⟨cvs, rfl, h1, h2⟩ := hv
    exact ⟨h1, h2⟩
  · cases e
  · cases e
  · cases e
  · cases e
  · rename_i h1 h2 h3 h5 h4
    cases e
    have one : cv.oneCell' = true := by
      cases v with
      | f x => exact FRel.one hv
      | ref k off n es => rcases hv with ⟨b, st, sz, c, o, _, rfl, _⟩ | ⟨_, _, _, rfl⟩ <;> rfl
      | ptr k off => obtain ⟨b, st, sz, _, rfl⟩ := hv; rfl
      | mp k => obtain ⟨b, _, rfl⟩ := hv; rfl
      | fn f cap => obtain ⟨cvs, rfl, _⟩ := hv; rfl
      | agg cs => exact absurd rfl (h1 cs)
      | tup cs => exact absurd rfl (h2 cs)
      | lit n cs => obtain ⟨A, c, rfl, _⟩ := hv; rfl
      | un => exact absurd rfl h4
      | any => exact absurd rfl h3
      | tf => exact absurd rfl h5
    have hc : cv.cells = #[cv] := by cases cv <;> first | rfl | cases one
    rw [hc]
    exact ⟨⟨hv, trivial⟩, by simp [one]⟩
/-- a store -/
theorem sim_store {t : TypeId} {a v : V} {ca cv : Value} {h' : H} {x : Out} (r : Rel η ro h w) (he : Go.Abs.store P t a v h idH = some (x, h')) (ha : VRel η ro a ca) (hv : VRel η ro v cv) :
    ∃ w', (Instr.storeAt t ca cv).run P w = .ok () w' ∧ Rel η ro h' w' ∧ Stp η ro h w η ro h' w' := by
  unfold Go.Abs.store at he
  rw [Option.bind_eq_some_iff] at he; obtain ⟨n, hn, he⟩ := he
  rw [Option.bind_eq_some_iff] at he; obtain ⟨cs, hcs, he⟩ := he
  split at he
  · rename_i k off
    split at he
    · rename_i hlen
      rw [wrK_eq, Option.bind_eq_some_iff] at he; obtain ⟨h2, hwr, he⟩ := he
      simp [idH] at he; obtain ⟨_, rfl⟩ := he
      obtain ⟨b, st, sz, hk, rfl⟩ := ha
      obtain ⟨hr, h1⟩ := cellsOf_ok hcs hv
      have hsz : cv.cells.size = n := by have := hr.len; simp at this; omega
      have main : ∀ (cs : List V), cs.length = n → VRels η ro cs cv.cells.toList → ∀ (o o' : Ob) (L : List V), h[k]? = some o → o.vl = some L → o'.vl = some (splice L off cs) → off + cs.length ≤ L.length →
          ∃ w', (Instr.storeAt t (.pointer (some ⟨b, st + off, none⟩)) cv).run P w = .ok () w' ∧ Rel η ro (h.set k o') w' ∧ Stp η ro h w η ro (h.set k o') w' := by
        intro cs hlen hr o o' L a1 a2 a3 a4
        obtain ⟨c, T, lo, hi, e1, e2, e3, e4, e5⟩ := r.at_ hk a1 a2
        have hb : b < w.heap.size := (Array.getElem?_eq_some_iff.1 e1).1
        have hrun := run_puts (P := P) (T := T) (lo := lo) (hi := hi) cv.cells.toList w c (st + off) 0 e1 (by rw [e2]; exact e3.no) (by simp [hsz]; omega) h1
        simp only [Nat.add_zero] at hrun
        have hlive : o.mine = true := by cases o <;> first | rfl | cases a2
        have hat : CellsAt η ro (World.blk w b (.cells (aput c (st + off) cv.cells.toList) T (lo, hi))) (splice L off cs) (.at_ b st sz) :=
          .inr ⟨b, st, sz, _, T, lo, hi, rfl, blk_get hb, by rw [aput_size, e2], e3, by rw [splice_len]; exact e4, held_put e5 hr h1 a4 (by rw [e2]; exact e4)⟩
        have := upd_step r hk a1 hlive (o' := o') (w' := World.blk w b (.cells (aput c (st + off) cv.cells.toList) T (lo, hi))) (fun i hi => blk_other hi) (by simp [World.blk]) rfl rfl rfl (by
          cases o' with
          | dead => cases a3
          | lent l => cases a3
          | map q es => cases a3
          | cells l => cases a3; exact hat
          | fz l => simp only [Ob.vl, Option.some.injEq] at a3; show CellsAt η ro _ (l.map .f) _; rw [a3]; exact hat)
        exact ⟨_, by simp [Instr.storeAt, Instr.sureAddr, storeVar, run_sz hn, hsz, hrun], this.1, this.2⟩
      unfold wr at hwr
      split at hwr
      · rename_i l hl
        split at hwr
        · rename_i hle
          cases hwr
          exact main _ hlen hr _ _ l hl rfl rfl hle
        · cases hwr
      · rename_i l hl
        split at hwr
        · rename_i hle
          cases hwr
          unfold wrF
          split
          · rename_i m hm
            have := toFs_eq.1 hm
            have hm1 : m.length = cs.length := by have := congrArg List.length this; simpa using this.symm
            exact main (m.map .f) (by simp; omega) (this ▸ hr) _ _ (l.map .f) hl rfl (by simp [Ob.vl, splice_map]) (by simp; omega)
          · exact main _ hlen hr _ _ (l.map .f) hl rfl rfl (by simpa using hle)
        · cases hwr
      · cases hwr
    · cases he
  · cases he
end
end Go.Abs
