/-
  The law CanonTables returns true, whatever its arguments are.
-/
import Derived.Test.YtjefolfbdohkcaaRows
import Derived.Test.YtjefolfbdohkcaaCanTabL
import Derived.Test.YtjefolfbdohkcaaAbsRow3
import Derived.Test.YtjefolfbdohkcaaCanSort
import Derived.ProofKit
namespace Go.Proofs.Ytjefolfbdohkcaa
open Go Go.Abs Go.ChangeShapes Go.WideShapes Go.ChangeAt Go.RowKit
namespace CanonTablesRow
theorem own : ownKnob Try.prog.godebug = none := by kernel_rfl
theorem laid : laidOutB Try.prog = true := by kernel_rfl
theorem types : ∀ t ∈ Try.f7.params.toList, Try.prog.readableRec t = true ∧ t < Try.prog.types.size := by
  rw [show Try.f7.params.toList = [25] from rfl]
  intro t ht
  simp only [List.mem_cons, List.not_mem_nil, or_false] at ht; rcases ht with rfl <;> exact ⟨by kernel_rfl, of_decide_eq_true (by kernel_rfl)⟩
theorem simple : ∀ t ∈ Try.f7.params.toList, simpleT Try.prog 20 t = true := by
  rw [show Try.f7.params.toList = [25] from rfl]
  intro t ht
  simp only [List.mem_cons, List.not_mem_nil, or_false] at ht; rcases ht with rfl <;> kernel_rfl
set_option maxRecDepth 100000 in
theorem lifted (os : Os) (started : os.Started) (H : Type) (enc : TypeId × Value → H) :
    ReturnsInHanded {} Try.checked os 7 .any (Rows.canonTablesSpec.pre6 enc Try.prog Try.f7 Rows.canonTablesRow.domain false) (Rows.canonTablesSpec.post enc Try.prog Try.f7 false true false false) := by
  refine returnsInHanded_of_change (C := Try.checked) own started (by kernel_rfl) Try.func7
    (ChangeSpec.witness6 (enc := enc) (C := Try.checked) false ⟨#[], #[(Value.slice none 0 0)], []⟩ 8 (by kernel_rfl) (by kernel_rfl) (by kernel_rfl) (by kernel_rfl)) ?_
  intro W base args ds gs before hval hW hcnd _
  refine law_step (w0 := w0) (canon_ext) (n := 20) (tb := 4) rfl laid types simple rfl (by kernel_rfl) (fun ds hds => ?_) hval hW (fun g cs e => by cases e) CanonTables_all
  match ds, hds with
  | [d0], _ => rfl
theorem proved : Rows.CanonTablesSaid :=
  OpenClaim.holds_of_wide 7 Try.f7 rfl rfl rfl rfl rfl rfl rfl ⟨rfl, rfl, rfl, rfl, rfl⟩ rfl rfl rfl rfl rfl (by kernel_rfl) Try.func7 (by kernel_rfl)
    (of_decide_eq_true (by kernel_rfl)) (by unfold Func.isWrapper; first | (rw [if_pos (by decide +kernel)]; kernel_rfl) | (rw [if_neg (by decide +kernel)]; exact ⟨rfl, rfl⟩))
    (fun os started H enc _ => lifted os started H enc)
end CanonTablesRow
theorem CanonTables_holds : Rows.CanonTablesSaid := CanonTablesRow.proved

end Go.Proofs.Ytjefolfbdohkcaa
