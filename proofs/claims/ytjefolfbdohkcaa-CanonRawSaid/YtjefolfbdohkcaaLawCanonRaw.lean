/-
  The law CanonRaw returns true, whatever its arguments are.
-/
import Derived.Test.YtjefolfbdohkcaaRows
import Derived.Test.YtjefolfbdohkcaaCanLaw
import Derived.Test.YtjefolfbdohkcaaAbsRow3
import Derived.Test.YtjefolfbdohkcaaCanSort
import Derived.Test.YtjefolfbdohkcaaAbsRowS
import Derived.ProofKit
namespace Go.Proofs.Ytjefolfbdohkcaa
open Go Go.Abs Go.ChangeShapes Go.WideShapes Go.ChangeAt Go.RowKit
namespace CanonRawRow
theorem own : ownKnob Try.prog.godebug = none := by kernel_rfl
theorem laid : laidOutB Try.prog = true := by kernel_rfl
theorem types : ∀ t ∈ Try.f4.params.toList, Try.prog.readableRec t = true ∧ t < Try.prog.types.size := by
  rw [show Try.f4.params.toList = [30] from rfl]
  intro t ht
  simp only [List.mem_cons, List.not_mem_nil, or_false] at ht; rcases ht with rfl <;> exact ⟨by kernel_rfl, of_decide_eq_true (by kernel_rfl)⟩
theorem simple : ∀ t ∈ Try.f4.params.toList, t ∈ ([3, 5, 9, 25, 27, 28, 30, 40, 42, 44, 45, 47] : List TypeId) := by
  rw [show Try.f4.params.toList = [30] from rfl]
  intro t ht
  simp only [List.mem_cons, List.not_mem_nil, or_false] at ht; rcases ht with rfl <;> decide
set_option maxRecDepth 100000 in
theorem lifted (os : Os) (started : os.Started) (H : Type) (enc : TypeId × Value → H) :
    ReturnsInHanded {} Try.checked os 4 .any (Rows.canonRawSpec.pre6 enc Try.prog Try.f4 Rows.canonRawRow.domain false) (Rows.canonRawSpec.post enc Try.prog Try.f4 false true false false) := by
  refine returnsInHanded_of_change (C := Try.checked) own started (by kernel_rfl) Try.func4
    (ChangeSpec.witness6 (enc := enc) (C := Try.checked) false ⟨#[], #[(Value.agg #[(Value.slice none 0 0), (Value.slice none 0 0), (Value.slice none 0 0), (Value.slice none 0 0)])], []⟩ 8 (by kernel_rfl) (by kernel_rfl) (by kernel_rfl) (by kernel_rfl)) ?_
  intro W base args ds gs before hval hW hcnd _
  refine law_stepS (w0 := w0) (S := [3, 5, 9, 25, 27, 28, 30, 40, 42, 44, 45, 47]) (by kernel_rfl) (canon_ext) (tb := 4) rfl laid types simple rfl (by kernel_rfl) (fun ds hds => ?_) hval hW (fun g cs e => by cases e) CanonRaw_all
  match ds, hds with
  | [d0], _ => rfl
theorem proved : Rows.CanonRawSaid :=
  OpenClaim.holds_of_wide 4 Try.f4 rfl rfl rfl rfl rfl rfl rfl ⟨rfl, rfl, rfl, rfl, rfl⟩ rfl rfl rfl rfl rfl (by kernel_rfl) Try.func4 (by kernel_rfl)
    (of_decide_eq_true (by kernel_rfl)) (by unfold Func.isWrapper; first | (rw [if_pos (by decide +kernel)]; kernel_rfl) | (rw [if_neg (by decide +kernel)]; exact ⟨rfl, rfl⟩))
    (fun os started H enc _ => lifted os started H enc)
end CanonRawRow
theorem CanonRaw_holds : Rows.CanonRawSaid := CanonRawRow.proved

end Go.Proofs.Ytjefolfbdohkcaa
