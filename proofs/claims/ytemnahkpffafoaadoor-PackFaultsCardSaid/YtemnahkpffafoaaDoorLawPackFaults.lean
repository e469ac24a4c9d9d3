/-
  The law PackFaults returns true, whatever its arguments are, where the package-level variables it reads lie as the program's text lays them (the tied card).
-/
import Derived.Test.YtemnahkpffafoaaDoorRows
import Derived.Test.YtemnahkpffafoaaDoorTie
import Derived.Test.YtemnahkpffafoaaDoorCards
import Derived.Test.YtemnahkpffafoaaDoorPackFaultLaw
import Derived.Test.YtemnahkpffafoaaDoorAbsRow3
import Derived.ProofKit
import Derived.LaidMore
import Derived.OpenShut
import Derived.Stop.Joined
import Derived.SevenTiedAt
namespace Go.Proofs.YtemnahkpffafoaaDoor
open Go Go.Abs Go.ChangeShapes Go.WideShapes Go.ChangeAt Go.RowKit
namespace PackFaultsRow
theorem own : ownKnob Tryd.prog.godebug = none := by kernel_rfl
theorem laidOut : laidOutB Tryd.prog = true := by kernel_rfl
theorem types : ∀ t ∈ Tryd.f5.params.toList, Tryd.prog.readableRec t = true ∧ t < Tryd.prog.types.size := by
  rw [show Tryd.f5.params.toList = [24, 5, 5] from rfl]
  intro t ht
  simp only [List.mem_cons, List.not_mem_nil, or_false] at ht; rcases ht with rfl | rfl | rfl <;> exact ⟨by kernel_rfl, of_decide_eq_true (by kernel_rfl)⟩
theorem simple : ∀ t ∈ Tryd.f5.params.toList, simpleT Tryd.prog 20 t = true := by
  rw [show Tryd.f5.params.toList = [24, 5, 5] from rfl]
  intro t ht
  simp only [List.mem_cons, List.not_mem_nil, or_false] at ht; rcases ht with rfl | rfl | rfl <;> kernel_rfl
abbrev table : List (String × DataW Unit) := [("weathervane/sum.lines", Rows.laid_weathervane_sum_lines)]
/-- The door's own heap meets the condition. -/
theorem door_met (os : Os) (args : Array Value) : laidMetH Tryd.prog table ((World.doorLaid Tryd.prog 400 os).forCall (fun _ _ => 0) ⟨#[], args, []⟩).memory :=
  laidMetH_of_parts3 (fuel := 8) (laidMet_of_run' 8 (by kernel_rfl) (by kernel_rfl)) (by kernel_rfl) (by kernel_rfl)
set_option maxRecDepth 100000 in
theorem lifted (os : Os) (started : os.Started) (H : Type) (enc : TypeId × Value → H) :
    ReturnsInHanded {} Tryd.checked os 5 .any (fun w args => (Rows.packFaultsSpec.pre enc Tryd.prog Tryd.f5 [] false w args ∧ laidMetH Tryd.prog table w) ∧ sizedMet enc Tryd.prog Tryd.f5 (OpenSpec.ofChange Rows.packFaultsSpec) false w args)
      (Rows.packFaultsSpec.post enc Tryd.prog Tryd.f5 false true false false) := by
  refine returnsInHanded_of_change_and (C := Tryd.checked) (X := fun w _ => laidMetH Tryd.prog table w) (fun _ _ _ hh h => h.of_heap hh) own started (by kernel_rfl) Tryd.func5
    (ChangeSpec.witness_shaped (enc := enc) (C := Tryd.checked) (os := os) (X := fun w _ => laidMetH Tryd.prog table w) false (World.doorLaid Tryd.prog 400 os) #[(Value.agg #[(Value.int IntKind.u8 0), (Value.int IntKind.u8 0), (Value.int IntKind.u8 0), (Value.slice none 0 0)]), (Value.int IntKind.u8 0), (Value.int IntKind.u8 0)] 8 rfl (World.shaped_of_RefB (by kernel_rfl) (by kernel_rfl)) (by kernel_rfl) (by kernel_rfl) (by kernel_rfl) (door_met os _)) ?_
  intro W base args ds gs before hval hW _ _ hL _
  refine law_step (w0 := w0) (no_ext fun _ => rfl) (n := 20) (tb := 4) rfl laidOut types simple rfl (by kernel_rfl) (fun ds hds => ?_) hval hW (glob_ok hL) PackFaults_all
  match ds, hds with
  | [d0, d1, d2], _ => rfl
theorem proved : Rows.PackFaultsSaid :=
  OpenClaim.holds_of_wide 5 Tryd.f5 rfl rfl rfl rfl rfl rfl rfl ⟨rfl, rfl, rfl, rfl, rfl⟩ rfl rfl rfl rfl rfl (by kernel_rfl) Tryd.func5 (by kernel_rfl)
    (of_decide_eq_true (by kernel_rfl)) (by unfold Func.isWrapper; first | (rw [if_pos (by decide +kernel)]; kernel_rfl) | (rw [if_neg (by decide +kernel)]; exact ⟨rfl, rfl⟩))
    (fun os started H enc _ => lifted os started H enc)
theorem tied : Rows.PackFaultsCardSaid :=
  Claim7.holds_tied_plain_at .later [] [.data] true (true, "245bdcade3ac4d9c5ac37e69903479bd29274de92f7fcc9d29f5735a0378a5e9") false
    proved (fun _ h => by cases h) (by kernel_rfl) (fun _ h => by cases h) packFaults_row_tie rfl ⟨rfl, rfl⟩ (by kernel_rfl) rfl
    (fun f fn hf hfn => by
      obtain rfl : f = 5 := Option.some.inj ((show Tryd.prog.funcNamed "weathervane/weathervanelaw11.PackFaults" = some 5 by kernel_rfl).symm.trans hf) |>.symm
      obtain rfl : fn = Tryd.f5 := (Option.some.inj (Tryd.func5.symm.trans hfn)).symm
      exact ⟨by kernel_rfl, fun j t ht => by
        have hm : t ∈ [24, 5, 5] := by
          have h0 : t ∈ Tryd.f5.params.toList := by simpa using Array.mem_of_getElem? ht
          rwa [show Tryd.f5.params.toList = [24, 5, 5] from rfl] at h0
        have hall : ([24, 5, 5].all fun u => !Tryd.prog.wantsStandIn u) = true := by kernel_rfl
        exact (show Tryd.prog.wantsStandIn t = false by simpa using List.all_eq_true.1 hall t hm)⟩)
    (by kernel_rfl)
end PackFaultsRow
theorem PackFaults_holds : Rows.PackFaultsCardSaid := PackFaultsRow.tied

end Go.Proofs.YtemnahkpffafoaaDoor
