/-
  The example of layer 6; whether a fault is told.
-/
import Derived.Test.YtojnkpaholkpnaaRuleSpec
set_option autoImplicit false
set_option linter.unusedVariables false
set_option linter.unusedSimpArgs false
namespace Go.Proofs.Ytojnkpaholkpnaa
open Go Go.Abs

theorem argsOk_nil (ss : List ByteArray) (g e : List Int) : argsOk ⟨ss, g, [], e⟩ := by intro f (hf : f ∈ []); cases hf
theorem awake_spec (h0 : H) : run w0 8 [] h0 = some (.ret (B true), h0) := by
  have e1 : run w0 11 [.agg [nilS, nilS, nilS, nilS]] [] = some (.ret (.agg (faultV none)), []) := by
    refine Eq.trans ?_ (ruleCheck_spec ⟨[], [], [], []⟩ (by simp [big]) (by simp [big]) (argsOk_nil _ _ _) [])
    exact run_norm rfl (by kernel_rfl) rfl rfl rfl
  rw [rawake_run, rawake_eq, e1, pA_some]
  simp only [faultV, cI, List.getElem?_cons_zero, List.getElem?_cons_succ, Option.bind_some, V.int?, V.f?, F.int?, if_true, List.length_cons, List.length_nil]
  have e2 := ruleCheck_core ⟨[], [3], [], []⟩ (by simp [big]) (by simp [big]) (argsOk_nil _ _ _)
  have e3 : ruleCheck_0 0 [] 1 [F.s (.int .i64 3)] 0 [] 0 [] = some (.ret (.agg (faultV (some (1, -1, -1)))), []) := e2
  rw [ruleCheck_v_c7, e3, withH_fault, pA_some]
  simp only [faultV, cI, List.getElem?_cons_zero, List.getElem?_cons_succ, Option.bind_some, V.int?, V.f?, F.int?, if_true, List.length_cons, List.length_nil]
  rw [if_pos (by simp), if_pos (by simp), if_pos (by simp), withH_true]
  simp
theorem rtold_spec (x : Option (Int × Int × Int)) (n f s : Int) (h0 : H) : run w0 10 [.agg (faultV x), I n, I f, I s] h0 = some (.ret (B (decide (x = if n = 0 then none else some (n, f, s)))), h0) := by
  cases x with
  | none =>
    rw [faultV, rtold_run, rtold_eq]
    by_cases h : n = 0
    · rw [if_pos (by simp [h]), withH_true]; simp [h]
    · rw [if_neg (by simpa using h), withH_true]; simp [h]
  | some y =>
    obtain ⟨a, b, c⟩ := y
    rw [faultV, rtold_run, rtold_eq]
    by_cases h : n = 0
    · rw [if_pos (by simp [h]), withH_true]; simp [h]
    · rw [if_neg (by simpa using h), withH_true]; simp [h, ibeq]

end Go.Proofs.Ytojnkpaholkpnaa
