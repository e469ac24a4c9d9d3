/-
  Sorted, each once: there is one such row.
-/
import Derived.Test.YtjefolfbdohkcaaCanOf
import Derived.Sort.Walk0
set_option autoImplicit false
set_option linter.unusedVariables false
set_option linter.unusedSimpArgs false
namespace Go.Proofs.Ytjefolfbdohkcaa
open Go Go.Abs
abbrev dl (b : ByteArray) : List UInt8 := b.data.toList
def ltB (a b : ByteArray) : Prop := dl a < dl b
theorem less_eq (a b : ByteArray) : Op.bytesLess a.toList b.toList = decide (dl a < dl b) := by rw [Go.Proofs.bytesLess_eq, ByteArray.toList_eq, ByteArray.toList_eq]
theorem dl_inj {a b : ByteArray} (h : dl a = dl b) : a = b := by cases a; cases b; simp [dl] at h; rw [h]
theorem ltB_irrefl (a : ByteArray) : ¬ ltB a a := List.lt_irrefl _
theorem ltB_trans {a b c : ByteArray} (h : ltB a b) (h2 : ltB b c) : ltB a c := List.lt_trans h h2
theorem ltB_of {a b : ByteArray} (h : dl a ≤ dl b) (hn : a ≠ b) : ltB a b := by
  refine Classical.byContradiction fun h2 => hn (dl_inj (List.le_antisymm h ?_))
  exact List.not_lt.1 h2
theorem ltB_tri (a b : ByteArray) : a = b ∨ ltB a b ∨ ltB b a := by
  by_cases h : a = b
  · exact .inl h
  · rcases List.le_total (dl a) (dl b) with h1 | h1
    · exact .inr (.inl (ltB_of h1 h))
    · exact .inr (.inr (ltB_of h1 (Ne.symm h)))
theorem uniq : ∀ l k : List ByteArray, l.Pairwise ltB → k.Pairwise ltB → (∀ x, x ∈ l ↔ x ∈ k) → l = k
  | [], [], _, _, _ => rfl
  | [], b :: s, _, _, h => by have := (h b).2 (by simp); simp at this
  | a :: r, [], _, _, h => by have := (h a).1 (by simp); simp at this
  | a :: r, b :: s, h1, h2, h => by
    obtain ⟨p1, p2⟩ := List.pairwise_cons.1 h1
    obtain ⟨q1, q2⟩ := List.pairwise_cons.1 h2
    have hab : a = b := by
      refine Classical.byContradiction fun hn => ?_
      have ha : a ∈ s := by
        have := (h a).1 (by simp)
        rcases List.mem_cons.1 this with e | e
        · exact absurd e hn
        · exact e
      have hb : b ∈ r := by
        have := (h b).2 (by simp)
        rcases List.mem_cons.1 this with e | e
        · exact absurd e.symm hn
        · exact e
      exact ltB_irrefl a (ltB_trans (p1 b hb) (q1 a ha))
    subst hab
    congr 1
    refine uniq r s p2 q2 fun x => ⟨fun hx => ?_, fun hx => ?_⟩
    · rcases List.mem_cons.1 ((h x).1 (by simp [hx])) with e | e
      · subst e; exact absurd (p1 x hx) (ltB_irrefl x)
      · exact e
    · rcases List.mem_cons.1 ((h x).2 (by simp [hx])) with e | e
      · subst e; exact absurd (q1 x hx) (ltB_irrefl x)
      · exact e
def leB' (a b : ByteArray) : Prop := dl a ≤ dl b
theorem cmpA_spec : ∀ (l : List ByteArray) (p : ByteArray), (p :: l).Pairwise leB' → (∀ x ∈ cmpA p l, ltB p x) ∧ (cmpA p l).Pairwise ltB ∧ ∀ x, (x = p ∨ x ∈ cmpA p l) ↔ (x = p ∨ x ∈ l)
  | [], p, _ => ⟨by simp [cmpA], by simp [cmpA], by simp [cmpA]⟩
  | y :: r, p, h => by
    obtain ⟨h1, h2⟩ := List.pairwise_cons.1 h
    obtain ⟨h3, h4⟩ := List.pairwise_cons.1 h2
    by_cases hy : y = p
    · subst hy
      obtain ⟨a, b, c⟩ := cmpA_spec r y h2
      simp only [cmpA, if_true]
      refine ⟨a, b, fun x => ?_⟩
      rw [c x, List.mem_cons]
      constructor
      · rintro (e | e)
        · exact .inl e
        · exact .inr (.inr e)
      · rintro (e | e | e)
        · exact .inl e
        · exact .inl e
        · exact .inr e
    · obtain ⟨a, b, c⟩ := cmpA_spec r y h2
      have hpy : ltB p y := ltB_of (h1 y (by simp)) (fun e => hy e.symm)
      simp only [cmpA, hy, if_false]
      refine ⟨fun x hx => ?_, List.pairwise_cons.2 ⟨a, b⟩, fun x => ?_⟩
      · rcases List.mem_cons.1 hx with e | e
        · subst e; exact hpy
        · exact ltB_trans hpy (a x e)
      · rw [List.mem_cons, List.mem_cons, c x]
theorem compL_spec : ∀ l : List ByteArray, l.Pairwise leB' → (compL l).Pairwise ltB ∧ ∀ x, x ∈ compL l ↔ x ∈ l
  | [], _ => ⟨by simp [compL], by simp [compL]⟩
  | y :: r, h => by
    obtain ⟨a, b, c⟩ := cmpA_spec r y h
    exact ⟨List.pairwise_cons.2 ⟨a, b⟩, fun x => by simp only [compL, List.mem_cons]; exact c x⟩
theorem srtB_sorted (l : List ByteArray) : (srtB l).Pairwise leB' := by
  unfold srtB sortL
  rw [List.pairwise_map]
  have := List.pairwise_mergeSort (le := fun x y : List UInt8 => decide (x ≤ y)) (fun a b c h1 h2 => by simp only [decide_eq_true_eq] at *; exact List.le_trans h1 h2) (fun a b => by simp only [Bool.or_eq_true, decide_eq_true_eq]; exact List.le_total a b) (l.map dl)
  refine List.Pairwise.imp ?_ this
  intro a b h
  simpa [leB', dl] using h
theorem srtB_mem (l : List ByteArray) (x : ByteArray) : x ∈ srtB l ↔ x ∈ l := by
  unfold srtB sortL
  simp only [List.mem_map, List.mem_mergeSort]
  constructor
  · rintro ⟨a, ⟨b, hb, rfl⟩, rfl⟩
    exact hb
  · intro h
    exact ⟨dl x, ⟨x, h, rfl⟩, rfl⟩
/-! ### the document's own row -/
theorem gtB_iff (a b : ByteArray) : gtB a b = true ↔ ltB b a := by
  unfold gtB
  rw [less_eq, ba_eq_iff]
  simp only [Bool.not_eq_true', Bool.or_eq_false_iff, decide_eq_false_iff_not]
  constructor
  · rintro ⟨h1, h2⟩
    rcases ltB_tri a b with h | h | h
    · exact absurd h h2
    · exact absurd h h1
    · exact h
  · intro h
    exact ⟨fun h2 => ltB_irrefl a (ltB_trans h2 h), fun e => by subst e; exact ltB_irrefl a h⟩
theorem insB_spec (s : ByteArray) : ∀ l : List ByteArray, l.Pairwise (fun a b => ltB b a) → s ∉ l → (insB s l).Pairwise (fun a b => ltB b a) ∧ ∀ x, x ∈ insB s l ↔ x = s ∨ x ∈ l
  | [], _, _ => by simp [insB]
  | a :: r, h, hs => by
    obtain ⟨h1, h2⟩ := List.pairwise_cons.1 h
    simp only [List.mem_cons, not_or] at hs
    unfold insB
    by_cases hg : gtB a s = true
    · rw [if_pos hg]
      obtain ⟨p, q⟩ := insB_spec s r h2 hs.2
      have hg' := (gtB_iff a s).1 hg
      refine ⟨List.pairwise_cons.2 ⟨fun x hx => ?_, p⟩, fun x => ?_⟩
      · rcases (q x).1 hx with e | e
        · subst e; exact hg'
        · exact h1 x e
      · rw [List.mem_cons, List.mem_cons, q x]
        constructor
        · rintro (e | e | e)
          · exact .inr (.inl e)
          · exact .inl e
          · exact .inr (.inr e)
        · rintro (e | e | e)
          · exact .inr (.inl e)
          · exact .inl e
          · exact .inr (.inr e)
    · rw [if_neg hg]
      have hlt : ltB a s := by
        rcases ltB_tri a s with e | e | e
        · exact absurd e.symm hs.1
        · exact e
        · exact absurd ((gtB_iff a s).2 e) hg
      refine ⟨List.pairwise_cons.2 ⟨fun x hx => ?_, h⟩, fun x => by rw [List.mem_cons]⟩
      rcases List.mem_cons.1 hx with e | e
      · subst e; exact hlt
      · exact ltB_trans (h1 x e) hlt
theorem canonL_spec (used : List Int) : ∀ (l : List ByteArray) (i : Nat) (acc : List ByteArray), acc.Pairwise ltB → (canonL used i l acc).Pairwise ltB ∧ ∀ x, x ∈ canonL used i l acc ↔ x ∈ acc ∨ ∃ k : Nat, l[k]? = some x ∧ ((i + k : Nat) : Int) ∈ used
  | [], i, acc, h => ⟨h, fun x => by simp [canonL]⟩
  | s :: r, i, acc, h => by
    unfold canonL
    have hacc : (if (i : Int) ∈ used ∧ s ∉ acc then (insB s acc.reverse).reverse else acc).Pairwise ltB ∧ ∀ x, x ∈ (if (i : Int) ∈ used ∧ s ∉ acc then (insB s acc.reverse).reverse else acc) ↔ x ∈ acc ∨ (x = s ∧ (i : Int) ∈ used) := by
      by_cases hc : (i : Int) ∈ used ∧ s ∉ acc
      · rw [if_pos hc]
        obtain ⟨p, q⟩ := insB_spec s acc.reverse (List.pairwise_reverse.2 h) (by simpa using hc.2)
        refine ⟨List.pairwise_reverse.2 p, fun x => ?_⟩
        rw [List.mem_reverse, q x, List.mem_reverse]
        constructor
        · rintro (e | e)
          · exact .inr ⟨e, hc.1⟩
          · exact .inl e
        · rintro (e | e)
          · exact .inr e
          · exact .inl e.1
      · rw [if_neg hc]
        refine ⟨h, fun x => ⟨.inl, ?_⟩⟩
        rintro (e | ⟨e, e2⟩)
        · exact e
        · subst e
          exact Classical.byContradiction fun h2 => hc ⟨e2, h2⟩
    obtain ⟨p, q⟩ := canonL_spec used r (i + 1) _ hacc.1
    refine ⟨p, fun x => ?_⟩
    rw [q x, hacc.2 x]
    constructor
    · rintro ((e | ⟨e, e2⟩) | ⟨k, e, e2⟩)
      · exact .inl e
      · exact .inr ⟨0, by simp [e], by simpa using e2⟩
      · exact .inr ⟨k + 1, by simpa using e, by rw [show i + (k + 1) = i + 1 + k by omega]; exact e2⟩
    · rintro (e | ⟨k, e, e2⟩)
      · exact .inl (.inl e)
      · cases k with
        | zero => exact .inl (.inr ⟨by simpa using e.symm, by simpa using e2⟩)
        | succ k => exact .inr ⟨k, by simpa using e, by rw [show i + 1 + k = i + (k + 1) by omega]; exact e2⟩
theorem canonS_sorted (m : Abs.Mod) : (canonS m).Pairwise ltB := (canonL_spec (usedR m) m.strings 0 [] (by simp)).1
theorem canonS_mem (m : Abs.Mod) (x : ByteArray) : x ∈ canonS m ↔ ∃ k : Nat, m.strings[k]? = some x ∧ ((k : Nat) : Int) ∈ usedR m := by
  have := (canonL_spec (usedR m) m.strings 0 [] (by simp)).2 x
  rw [canonS, this]
  simp
theorem numB_at {s : ByteArray} : ∀ (l : List ByteArray) (i p : Nat), l[p]? = some s → (∀ q, q < p → l[q]? ≠ some s) → numB s i l = ((i + p : Nat) : Int)
  | [], i, p, h, _ => by simp at h
  | a :: r, i, p, h, hn => by
    unfold numB
    cases p with
    | zero => rw [if_pos (by simpa using h)]; rfl
    | succ p =>
      rw [if_neg (fun e => hn 0 (by omega) (by simp [e])), numB_at r (i + 1) p (by simpa using h) (fun q hq e => hn (q + 1) (by omega) (by simpa using e))]
      congr 1; omega
theorem found_of {l : List ByteArray} (hl : l.Pairwise ltB) {s : ByteArray} {p : Nat} (hp : l[p]? = some s) : Found l s p := by
  have key := List.pairwise_iff_getElem.1 hl
  have hlt : ∀ (a b : Nat) (x y : ByteArray), a < b → l[a]? = some x → l[b]? = some y → ltB x y := by
    intro a b x y hab ha hb
    obtain ⟨a1, rfl⟩ := List.getElem?_eq_some_iff.1 ha
    obtain ⟨b1, rfl⟩ := List.getElem?_eq_some_iff.1 hb
    exact key a b a1 b1 hab
  refine ⟨hp, fun a x ha hx => ?_, fun a x ha hx => ?_⟩
  · rw [less_eq]; exact decide_eq_true (hlt a p x s ha hx hp)
  · rw [less_eq]
    refine decide_eq_false fun h => ?_
    rcases Nat.lt_or_ge p a with h2 | h2
    · exact ltB_irrefl s (ltB_trans (hlt p a s x h2 hp hx) h)
    · have : a = p := by omega
      subst this
      rw [hp] at hx; cases hx
      exact ltB_irrefl _ h
theorem sorted_first {l : List ByteArray} (hl : l.Pairwise ltB) {s : ByteArray} {p q : Nat} (hp : l[p]? = some s) (hq : q < p) : l[q]? ≠ some s := fun h => by
  have := (found_of hl hp).lt q s hq h
  rw [less_eq] at this
  exact ltB_irrefl s (show dl s < dl s from of_decide_eq_true this)
theorem val_of {m : Abs.Mod} {x : Int} (hx : x ∈ usedR m) (hu : 0 ≤ x ∧ x < m.strings.length) : Val m.strings (canonS m) (numI (canonS m) m.strings) x := by
  obtain ⟨i, rfl⟩ : ∃ i : Nat, x = i := ⟨x.toNat, by omega⟩
  have hi : i < m.strings.length := by omega
  have hs : m.strings[i]? = some (m.strings[i]) := List.getElem?_eq_getElem hi
  have hm : m.strings[i] ∈ canonS m := (canonS_mem m _).2 ⟨i, hs, hx⟩
  obtain ⟨p, hp, he⟩ := List.getElem_of_mem hm
  have hp' : (canonS m)[p]? = some m.strings[i] := by rw [List.getElem?_eq_getElem hp, he]
  refine ⟨i, p, m.strings[i], rfl, hs, found_of (canonS_sorted m) hp', ?_⟩
  have hg : m.strings.getD ((i : Nat) : Int).toNat default = m.strings[i] := by simp [hi]
  rw [numI, hg, numB_at _ 0 p hp' (fun q hq => sorted_first (canonS_sorted m) hp' hq), Nat.zero_add]
theorem same_row {m : Abs.Mod} (hu : ∀ x ∈ usedR m, 0 ≤ x ∧ x < m.strings.length) : compL (srtB ((usedR m).map (strM m.strings))) = canonS m := by
  obtain ⟨a, b⟩ := compL_spec _ (srtB_sorted ((usedR m).map (strM m.strings)))
  refine uniq _ _ a (canonS_sorted m) fun x => ?_
  rw [b x, srtB_mem, canonS_mem, List.mem_map]
  constructor
  · rintro ⟨n, hn, rfl⟩
    obtain ⟨h1, h2⟩ := hu n hn
    obtain ⟨i, rfl⟩ : ∃ i : Nat, n = i := ⟨n.toNat, by omega⟩
    exact ⟨i, by have hi : i < m.strings.length := by omega
                 simp [strM, hi], hn⟩
  · rintro ⟨k, hk, hn⟩
    exact ⟨k, hn, by simp [strM, hk]⟩
/-- canon.Of of a module without a fault -/
theorem canonOf_said {vs : List V} {m : Abs.Mod} (hA : ArgM vs m) (hm : okC m) (ha : argsOk m) (ht : treeR m = none) (h : H) :
    ∃ h' v, run w0 10 [.agg vs] h = some (.ret (.tup [.agg (saidV (h.length + 4) v (canonM m)), .agg okV]), h') ∧ Said h' (h.length + 4) v (canonM m) ∧ Ext h h' := by
  have hu := (tree_used ht).2
  exact canonOf_fine hA hm ha ht (fun x hx => ⟨x.toNat, by have := hu x hx; omega, by have := hu x hx; omega⟩) (same_row hu) (fun x hx => val_of hx (hu x hx)) h
end Go.Proofs.Ytjefolfbdohkcaa
