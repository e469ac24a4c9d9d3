/-
  The document's example of layer 14.
-/
import Derived.Test.YtlddnplflakmiaaGenSpec7
import Derived.Test.YtlddnplflakmiaaAbsRow3
set_option autoImplicit false
set_option linter.unusedVariables false
set_option linter.unusedSimpArgs false
namespace Go.Proofs.Ytlddnplflakmiaa
open Go Go.Abs
def modA : Abs.Mod := ⟨[⟨#[103]⟩], [0], [], []⟩
theorem gSystem_core (m : Abs.Mod) (hg : okG m) (hs : m.strings.length ≤ big) (ha : argsOk m) (hc : checkR m = none) : withH true [] (mL m gSystem_0) = some (.ret (.tup [.agg (sysV (sysT m)), .agg (faultV none)]), []) := (gSystem_run ..).symm.trans (gSystem_spec m hg hs ha hc [])
theorem gawake_core : gawake_0 = some (.ret (B true), []) := by
  have hf : ∀ f ∈ modA.funcs, False := fun f hf => by simp [modA] at hf
  have hc : checkR modA = none := by decide +kernel
  have hA := gSystem_core modA ⟨⟨by simp [modA], by simp [modA], fun f h => (hf f h).elim⟩, fun f h => (hf f h).elim, fun f h => (hf f h).elim⟩ (by simp [modA, big]) (fun f h => (hf f h).elim) hc
  rw [gawake_eq, gSystem_v_]
  have hA' : withH true [] (gSystem_0 1 ([F.s (.string ⟨#[103]⟩)]) 1 ([F.s (.int .i64 0)]) 0 ([]) 0 ([])) = _ := hA
  rw [hA', pT_some]
  have e1 : (sysT modA).vars = 1 := by decide +kernel
  have e2 : (sysT modA).cells.length = 1 := by decide +kernel
  simp only [cA, cI, cL, faultV, V.agg?, V.int?, V.lst?, V.f?, F.int?, F.lst?, List.getElem?_cons_zero, List.getElem?_cons_succ, Option.bind_some, if_true, List.length_cons, List.length_nil, e1, e2]
  rfl
theorem gawake_spec (h0 : H) : run w0 8 [] h0 = some (.ret (B true), h0) := by rw [gawake_run, gawake_core, withH_true]
end Go.Proofs.Ytlddnplflakmiaa
