/-
  The law ParseTwice returns true, whatever its arguments are.
-/
import Derived.Test.YtpchhblgilfejaaRows
import Derived.Test.YtpchhblgilfejaaParTwice
import Derived.Test.YtpchhblgilfejaaAbsRow3
import Derived.Test.YtpchhblgilfejaaParExt
import Derived.ProofKit
namespace Go.Proofs.Ytpchhblgilfejaa
open Go Go.Abs Go.ChangeShapes Go.WideShapes Go.ChangeAt Go.RowKit
namespace ParseTwiceRow
theorem own : ownKnob Try.prog.godebug = none := by kernel_rfl
theorem laid : laidOutB Try.prog = true := by kernel_rfl
theorem types : ∀ t ∈ Try.f6.params.toList, Try.prog.readableRec t = true ∧ t < Try.prog.types.size := by
  rw [show Try.f6.params.toList = [5] from rfl]
  intro t ht
  simp only [List.mem_cons, List.not_mem_nil, or_false] at ht; rcases ht with rfl <;> exact ⟨by kernel_rfl, of_decide_eq_true (by kernel_rfl)⟩
theorem simple : ∀ t ∈ Try.f6.params.toList, simpleT Try.prog 20 t = true := by
  rw [show Try.f6.params.toList = [5] from rfl]
  intro t ht
  simp only [List.mem_cons, List.not_mem_nil, or_false] at ht; rcases ht with rfl <;> kernel_rfl
set_option maxRecDepth 100000 in
theorem lifted (os : Os) (started : os.Started) (H : Type) (enc : TypeId × Value → H) :
    ReturnsInHanded {} Try.checked os 6 .any (Rows.parseTwiceSpec.pre6 enc Try.prog Try.f6 Rows.parseTwiceRow.domain false) (Rows.parseTwiceSpec.post enc Try.prog Try.f6 false true false false) := by
  refine returnsInHanded_of_change (C := Try.checked) own started (by kernel_rfl) Try.func6
    (ChangeSpec.witness6 (enc := enc) (C := Try.checked) false ⟨#[], #[(Value.int IntKind.u8 0)], []⟩ 8 (by kernel_rfl) (by kernel_rfl) (by kernel_rfl) (by kernel_rfl)) ?_
  intro W base args ds gs before hval hW hcnd _
  refine law_step (w0 := w0) (par_ext) (n := 20) (tb := 4) rfl laid types simple rfl (by kernel_rfl) (fun ds hds => ?_) hval hW (fun g cs e => by cases e) ParseTwice_all
  match ds, hds with
  | [d0], _ => rfl
theorem proved : Rows.ParseTwiceSaid :=
  OpenClaim.holds_of_wide 6 Try.f6 rfl rfl rfl rfl rfl rfl rfl ⟨rfl, rfl, rfl, rfl, rfl⟩ rfl rfl rfl rfl rfl (by kernel_rfl) Try.func6 (by kernel_rfl)
    (of_decide_eq_true (by kernel_rfl)) (by unfold Func.isWrapper; first | (rw [if_pos (by decide +kernel)]; kernel_rfl) | (rw [if_neg (by decide +kernel)]; exact ⟨rfl, rfl⟩))
    (fun os started H enc _ => lifted os started H enc)
end ParseTwiceRow
theorem ParseTwice_holds : Rows.ParseTwiceSaid := ParseTwiceRow.proved

end Go.Proofs.Ytpchhblgilfejaa
