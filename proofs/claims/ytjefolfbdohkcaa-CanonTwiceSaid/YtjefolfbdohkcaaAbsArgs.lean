/-
  Arguments that are structures, and slices of them.
-/
import Derived.Test.YtjefolfbdohkcaaAbsRow3
import Derived.Test.YtjefolfbdohkcaaAbsWords
set_option autoImplicit false
namespace Go.Abs
open Go
/-- the types of a structure's fields -/
def structTs : TypeDesc → Option (List TypeId)
  | .struct fs => some (fs.toList.map (·.type))
  | _ => none
theorem args_of_parts {P : Program} : ∀ {ts : List TypeId} {parts : List (List F)}, parts.length = ts.length → (∀ (i : Nat) (t : TypeId) (p : List F), ts[i]? = some t → parts[i]? = some p → Ty P t p) → Args P ts parts
  | [], [], _, _ => .nil
  | t :: ts, p :: parts, hl, h => .cons (h 0 t p rfl rfl) (args_of_parts (by simpa using hl) fun i t p h1 h2 => h (i + 1) t p (by simpa using h1) (by simpa using h2))
  | [], _ :: _, hl, _ => by simp at hl
  | _ :: _, [], hl, _ => by simp at hl
theorem Ty.struct_args {P : Program} {t : TypeId} {xs : List F} {ts : List TypeId} (h : Ty P t xs) (hu : (P.underlying t).bind structTs = some ts) : ∃ parts, xs = parts.flatten ∧ Args P ts parts := by
  cases hd : P.underlying t with
  | none => rw [hd] at hu; cases hu
  | some d =>
    rw [hd] at hu
    cases d <;> simp [structTs] at hu
    rename_i fs
    obtain ⟨parts, rfl, h1, h2⟩ := h.of_struct hd
    refine ⟨parts, rfl, args_of_parts (by rw [← hu]; simpa using h1) fun i t p h3 h4 => ?_⟩
    rw [← hu] at h3
    simp at h3
    obtain ⟨f, h5, rfl⟩ := h3
    exact h2 i f p (by simpa using h5) h4
theorem parts_of {α : Type} {f : α → List F} {ok : α → Prop} : ∀ {parts : List (List F)}, (∀ p ∈ parts, ∃ a, p = f a ∧ ok a) → ∃ l : List α, parts.flatten = l.flatMap f ∧ l.length = parts.length ∧ ∀ a ∈ l, ok a
  | [], _ => ⟨[], rfl, rfl, fun a ha => (List.not_mem_nil ha).elim⟩
  | p :: parts, h => by
    obtain ⟨a, rfl, ha⟩ := h p (by simp)
    obtain ⟨l, h1, h2, h3⟩ := parts_of (parts := parts) fun p hp => h p (by simp [hp])
    exact ⟨a :: l, by simp [h1], by simp [h2], fun b hb => by
      rcases List.mem_cons.1 hb with rfl | hb
      · exact ha
      · exact h3 b hb⟩
theorem Ty.slice_of {P : Program} {t e : TypeId} {xs : List F} {α : Type} {f : α → List F} {ok : α → Prop} (h : Ty P t xs) (ht : P.underlying t = some (.slice e)) (he : ∀ p, Ty P e p → ∃ a, p = f a ∧ ok a) :
    ∃ l : List α, xs = [.lst l.length (l.flatMap f)] ∧ l.length ≤ maxLen ∧ ∀ a ∈ l, ok a := by
  obtain ⟨parts, rfl, h1, h2, h3⟩ := h.of_slice ht
  obtain ⟨l, a, b, c⟩ := parts_of fun p hp => he p (h3 p hp)
  exact ⟨l, by rw [a, b], by omega, c⟩
end Go.Abs
