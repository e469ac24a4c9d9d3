/-
  A small heap of a call's own, put back into the caller's.
-/
import Derived.Test.YtpchhblgilfejaaAbsCut
set_option autoImplicit false
set_option linter.unusedVariables false
set_option linter.unusedSimpArgs false
namespace Go.Abs
open Go
section
variable {η ηi η3 : Et} {ro : Ro} {h g h3 : H} {w : World} {m : Nat → Nat}

mutual
theorem VRel.ren (hm : ∀ i p, ηi i = some p → η3 (m i) = some p) : ∀ (v : V) (x : Value), VRel ηi ro v x → VRel η3 ro (ren m v) x
  | .f x, v, h => h
  | .ref k off n es, v, h => h.imp (fun ⟨b, st, sz, c, o, h1, h2⟩ => ⟨b, st, sz, c, o, hm _ _ h1, h2⟩) fun ⟨h1, h2⟩ => ⟨hm _ _ h1, h2⟩
  | .ptr k off, v, ⟨b, st, sz, h1, h2⟩ => ⟨b, st, sz, hm _ _ h1, h2⟩
  | .mp k, v, ⟨b, h1, h2⟩ => ⟨b, hm _ _ h1, h2⟩
  | .fn f cap, v, ⟨cvs, h1, h2⟩ => ⟨cvs, h1, VRels.ren hm cap _ h2⟩
  | .agg cs, v, ⟨cvs, h1, h2, h3⟩ => ⟨cvs, h1, VRels.ren hm cs _ h2, h3⟩
  | .tup cs, v, ⟨cvs, h1, h2⟩ => ⟨cvs, h1, VRels.ren hm cs _ h2⟩
  | .lit n cs, v, ⟨A, c, h1, h2, h3⟩ => by
    refine ⟨A, c, h1, h2, h3.imp ?_ fun ⟨b, o, h4, h5⟩ => ⟨b, o, h4, VCells.ren hm cs b o h5⟩⟩
    rintro ⟨h4, rfl⟩; exact ⟨h4, rfl⟩
  | .un, v, h => h
  | .any, _, _ => trivial
  | .tf, _, h => h
theorem VRels.ren (hm : ∀ i p, ηi i = some p → η3 (m i) = some p) : ∀ (l : List V) (x : List Value), VRels ηi ro l x → VRels η3 ro (rens m l) x
  | [], [], _ => trivial
  | x :: l, v :: y, h => ⟨VRel.ren hm x v h.1, VRels.ren hm l y h.2⟩
  | [], _ :: _, h => h.elim
  | _ :: _, [], h => h.elim
theorem VCells.ren (hm : ∀ i p, ηi i = some p → η3 (m i) = some p) : ∀ (l : List V) (b o : Nat), VCells ηi ro l b o → VCells η3 ro (rens m l) b o
  | [], _, _, _ => trivial
  | x :: l, b, o, ⟨⟨v, h1, h2, h3⟩, h4⟩ => ⟨⟨v, h1, h2, VRel.ren hm x v h3⟩, VCells.ren hm l b (o + 1) h4⟩
end
theorem rens_get : ∀ (l : List V) (j : Nat), (rens m l)[j]? = (l[j]?).map (Go.Abs.ren m)
  | [], j => by simp [rens]
  | v :: l, 0 => by simp [rens]
  | v :: l, j + 1 => by simp [rens, rens_get l j]
theorem rens_len : ∀ (l : List V), (rens m l).length = l.length
  | [] => rfl
  | v :: l => by simp [rens, rens_len l]
theorem rens_f : ∀ (l : List F), rens m (l.map .f) = l.map .f
  | [] => rfl
  | v :: l => by simp [rens, Go.Abs.ren, rens_f l]
theorem rens_weak : ∀ (l : List F), rens m (l.map weakF) = l.map weakF
  | [] => rfl
  | .s _ :: l => by simp [rens, Go.Abs.ren, weakF, rens_weak l]
  | .lst _ _ :: l => by simp [rens, Go.Abs.ren, weakF, rens_weak l]
  | .fp _ :: l => by simp [rens, Go.Abs.ren, weakF, rens_weak l]
theorem ORel.ren (hm : ∀ i p, ηi i = some p → η3 (m i) = some p) {o : Ob} {p : Pl} (h : ORel ηi ro w o p) : ORel η3 ro w (renO m o) p := by
  have cells : ∀ {cs : List V}, CellsAt ηi ro w cs p → CellsAt η3 ro w (rens m cs) p := by
    intro cs hc
    rcases hc with ⟨h1, rfl⟩ | ⟨b, st, sz, c, T, lo, hi, h1, h2, h3, h4, h5, h6⟩
    · exact .inl ⟨h1, rfl⟩
    · refine .inr ⟨b, st, sz, c, T, lo, hi, h1, h2, h3, h4, by rw [rens_len]; exact h5, fun j v hv => ?_⟩
      rw [rens_get, Option.map_eq_some_iff] at hv
      obtain ⟨v', hv', rfl⟩ := hv
      obtain ⟨x, a, b, c⟩ := h6 j v' hv'
      exact ⟨x, a, b, VRel.ren hm _ _ c⟩
  cases o with
  | dead => trivial
  | map q es => exact h
  | cells cs => exact cells h
  | fz cs => have := cells h; rw [rens_f] at this; exact this
  | lent cs => have := cells h; rw [rens_weak] at this; exact this
theorem renO_live {o : Ob} : (renO m o).live = o.live := by cases o <;> rfl

/-- two heaps in one -/
theorem Rel.join (rO : Rel η ro h w) (rI : Rel ηi ro g w) {src : Nat → Option Nat} (hA : ∀ j, src j = none → η3 j = η j ∧ h3[j]? = h[j]?) (hB : ∀ j i, src j = some i → η3 j = ηi i ∧ h3[j]? = (g[i]?).map (renO m) ∧ m i = j)
    (hm : ∀ i p, ηi i = some p → η3 (m i) = some p) (hle : η.le η3) (hd : ∀ b, Owned ηi g b → ¬ Owned η h b) :
    Rel η3 ro h3 w ∧ ∀ b, Owned η3 h3 b → Owned η h b ∨ Owned ηi g b := by
  have split : ∀ j b, Has η3 h3 j b → (src j = none ∧ Has η h j b) ∨ ∃ i, src j = some i ∧ Has ηi g i b := by
    rintro j b ⟨st, sz, o, h1, h2, h3⟩
    cases hs : src j with
    | none =>
      obtain ⟨a1, a2⟩ := hA j hs
      exact .inl ⟨rfl, st, sz, o, a1 ▸ h1, a2 ▸ h2, h3⟩
    | some i =>
      obtain ⟨a1, a2, a3⟩ := hB j i hs
      rw [a2, Option.map_eq_some_iff] at h2
      obtain ⟨o', h4, h5⟩ := h2
      refine .inr ⟨i, rfl, st, sz, o', a1 ▸ h1, h4, ?_⟩
      rw [← h5, renO_live] at h3; exact h3
  refine ⟨⟨rO.cells, fun k p hk => ?_, fun k k' b h1 h2 => ?_, fun k b h1 o => ?_, rO.glob⟩, ?_⟩
  · cases hs : src k with
    | none =>
      obtain ⟨a1, a2⟩ := hA k hs
      rw [a1] at hk
      obtain ⟨o, h1, h2⟩ := rO.obj k p hk
      exact ⟨o, by rw [a2]; exact h1, h2.mono hle (Ro.le_refl _)⟩
    | some i =>
      obtain ⟨a1, a2, a3⟩ := hB k i hs
      rw [a1] at hk
      obtain ⟨o, h1, h2⟩ := rI.obj i p hk
      exact ⟨renO m o, by rw [a2, h1]; rfl, ORel.ren hm h2⟩
  · rcases split k b h1 with ⟨_, a⟩ | ⟨i, e, a⟩ <;> rcases split k' b h2 with ⟨_, a'⟩ | ⟨i', e', a'⟩
    · exact rO.own k k' b a a'
    · exact absurd ⟨k, a⟩ (hd b ⟨i', a'⟩)
    · exact absurd ⟨k', a'⟩ (hd b ⟨i, a⟩)
    · have := rI.own i i' b a a'
      subst this
      rw [← (hB k i e).2.2, ← (hB k' i e').2.2]
  · rcases split k b h1 with ⟨_, a⟩ | ⟨i, e, a⟩
    · exact rO.roOwn k b a o
    · exact rI.roOwn i b a o
  · rintro b ⟨k, hh⟩
    rcases split k b hh with ⟨_, a⟩ | ⟨i, e, a⟩
    · exact .inl ⟨k, a⟩
    · exact .inr ⟨i, a⟩

/-- the caller's heap, with that put back -/
theorem graft_ok (rO : Rel η ro h w) (rI : Rel ηi ro g w) (hd : ∀ b, Owned ηi g b → ¬ Owned η h b) {pin : Option Nat} (hp : ∀ k, pin = some k → k < h.length ∧ ηi 0 = η k ∧ g ≠ [] ∧ (ηi 0).isSome = true) {v : V} {cv : Value} (hv : VRel ηi ro v cv) {o : Out} {h' : H}
    (e : graft h pin (some (.ret v, g)) = some (o, h')) :
    ∃ η3 v', o = .ret v' ∧ VRel η3 ro v' cv ∧ Rel η3 ro h' w ∧ (∀ b, Owned η3 h' b → Owned η h b ∨ Owned ηi g b) ∧ h.length ≤ h'.length ∧ (∀ k, k < h.length → η3 k = η k) ∧ ∀ k, k < h.length → pin ≠ some k → h'[k]? = h[k]? := by
  cases pin with
  | none =>
    simp only [graft, Option.bind_some] at e
    cases e
    let η3 : Et := fun j => if j < h.length then η j else ηi (j - h.length)
    have hm : ∀ i p, ηi i = some p → η3 (reId h.length none i) = some p := by
      intro i p hi
      simp only [reId, η3]
      rw [if_neg (by omega), Nat.add_sub_cancel_left]; exact hi
    have hle : η.le η3 := fun k p hk => by
      simp only [η3]; rw [if_pos (rO.lt hk)]; exact hk
    have := rO.join (η3 := η3) (h3 := h ++ g.map (renO (reId h.length none))) (m := reId h.length none) rI (src := fun j => if j < h.length then none else some (j - h.length)) (fun j hj => by
        have hj' : j < h.length := by
          by_cases hl : j < h.length
          · exact hl
          · rw [if_neg hl] at hj; cases hj
        exact ⟨if_pos hj', List.getElem?_append_left hj'⟩) (fun j i hj => by
        by_cases hl : j < h.length
        · rw [if_pos hl] at hj; cases hj
        · rw [if_neg hl] at hj; cases hj
          refine ⟨if_neg hl, ?_, by simp [reId]; omega⟩
          rw [List.getElem?_append_right (by omega), List.getElem?_map]) hm hle hd
    exact ⟨η3, _, rfl, VRel.ren hm _ _ hv, this.1, this.2, by simp, fun k hk => if_pos hk, fun k hk _ => List.getElem?_append_left hk⟩
  | some k =>
    obtain ⟨hk1, hk2, hk3, hk4⟩ := hp k rfl
    cases g with
    | nil => exact absurd rfl hk3
    | cons o0 g =>
      simp only [graft, Option.bind_some] at e
      cases e
      let η3 : Et := fun j => if j < h.length then η j else ηi (j - h.length + 1)
      have hm : ∀ i p, ηi i = some p → η3 (reId h.length (some k) i) = some p := by
        intro i p hi
        simp only [reId, η3]
        by_cases h0 : i = 0
        · subst h0; rw [if_pos rfl, if_pos hk1, ← hk2]; exact hi
        · rw [if_neg h0, if_neg (by omega), Nat.add_sub_cancel_left, Nat.sub_add_cancel (by omega)]; exact hi
      have hle : η.le η3 := fun k p hk => by
        simp only [η3]; rw [if_pos (rO.lt hk)]; exact hk
      have := rO.join (η3 := η3) (h3 := h.set k (renO (reId h.length (some k)) o0) ++ g.map (renO (reId h.length (some k)))) (m := reId h.length (some k)) rI
          (src := fun j => if j = k then some 0 else if j < h.length then none else some (j - h.length + 1)) (fun j hj => by
          by_cases hjk : j = k
          · rw [if_pos hjk] at hj; cases hj
          · rw [if_neg hjk] at hj
            have hj' : j < h.length := by
              by_cases hl : j < h.length
              · exact hl
              · rw [if_neg hl] at hj; cases hj
            refine ⟨if_pos hj', ?_⟩
            rw [List.getElem?_append_left (by simpa using hj'), List.getElem?_set_ne (Ne.symm hjk)]) (fun j i hj => by
          by_cases hjk : j = k
          · rw [if_pos hjk] at hj; cases hj
            subst hjk
            refine ⟨by simp only [η3]; rw [if_pos hk1, hk2], ?_, by simp [reId]⟩
            rw [List.getElem?_append_left (by simpa using hk1)]; simp [hk1]
          · rw [if_neg hjk] at hj
            by_cases hl : j < h.length
            · rw [if_pos hl] at hj; cases hj
            · rw [if_neg hl] at hj; cases hj
              refine ⟨if_neg hl, ?_, by simp [reId]; omega⟩
              rw [List.getElem?_append_right (by simp; omega), List.length_set, List.getElem?_map, List.getElem?_cons_succ]) hm hle hd
      exact ⟨η3, _, rfl, VRel.ren hm _ _ hv, this.1, this.2, by simp, fun k hk => if_pos hk, fun k' hk hne => by rw [List.getElem?_append_left (by simpa using hk), List.getElem?_set_ne (fun q => hne (by rw [q]))]⟩
end
end Go.Abs
