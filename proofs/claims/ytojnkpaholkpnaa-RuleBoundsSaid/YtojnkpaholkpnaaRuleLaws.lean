/-
  The laws of layer 6.
-/
import Derived.Test.YtojnkpaholkpnaaRuleSpec
set_option autoImplicit false
set_option linter.unusedVariables false
set_option linter.unusedSimpArgs false
namespace Go.Proofs.Ytojnkpaholkpnaa
open Go Go.Abs

theorem argsOk_nil (ss : List ByteArray) (g e : List Int) : argsOk ⟨ss, g, [], e⟩ := by intro f (hf : f ∈ []); cases hf
theorem awake_spec (h0 : H) : run w0 8 [] h0 = some (.ret (B true), h0) := by
  have e1 : run w0 11 [.agg [nilS, nilS, nilS, nilS]] [] = some (.ret (.agg (faultV none)), []) := by
    refine Eq.trans ?_ (ruleCheck_spec ⟨[], [], [], []⟩ (by simp [big]) (by simp [big]) (argsOk_nil _ _ _) [])
    exact run_norm rfl (by kernel_rfl) rfl rfl rfl
  rw [rawake_run, rawake_eq, e1, pA_some]
  simp only [faultV, cI, List.getElem?_cons_zero, List.getElem?_cons_succ, Option.bind_some, V.int?, V.f?, F.int?, if_true, List.length_cons, List.length_nil]
  have e2 := ruleCheck_core ⟨[], [3], [], []⟩ (by simp [big]) (by simp [big]) (argsOk_nil _ _ _)
  have e3 : ruleCheck_0 0 [] 1 [F.s (.int .i64 3)] 0 [] 0 [] = some (.ret (.agg (faultV (some (1, -1, -1)))), []) := e2
  rw [ruleCheck_v_c7, e3, withH_fault, pA_some]
  simp only [faultV, cI, List.getElem?_cons_zero, List.getElem?_cons_succ, Option.bind_some, V.int?, V.f?, F.int?, if_true, List.length_cons, List.length_nil]
  rw [if_pos (by simp), if_pos (by simp), if_pos (by simp), withH_true]
  simp
theorem rtold_spec (x : Option (Int × Int × Int)) (n f s : Int) (h0 : H) : run w0 10 [.agg (faultV x), I n, I f, I s] h0 = some (.ret (B (decide (x = if n = 0 then none else some (n, f, s)))), h0) := by
  cases x with
  | none =>
    rw [faultV, rtold_run, rtold_eq]
    by_cases h : n = 0
    · rw [if_pos (by simp [h]), withH_true]; simp [h]
    · rw [if_neg (by simpa using h), withH_true]; simp [h]
  | some y =>
    obtain ⟨a, b, c⟩ := y
    rw [faultV, rtold_run, rtold_eq]
    by_cases h : n = 0
    · rw [if_pos (by simp [h]), withH_true]; simp [h]
    · rw [if_neg (by simpa using h), withH_true]; simp [h, ibeq]

/-! ### how many arguments -/
def arityM (p n : Nat) (d : Bool) : Mod := ⟨[⟨#[102]⟩, ⟨#[108, 48]⟩, ⟨#[108, 49]⟩, ⟨#[108, 50]⟩, ⟨#[108, 51]⟩, ⟨#[108, 52]⟩, ⟨#[108, 53]⟩, ⟨#[108, 54]⟩], [],
  [⟨0, p, [1, 2, 3, 4, 5, 6, 7], [], [.mk 5 ⟨0, 0⟩ ⟨if d = true then 3 else 1, 0⟩ ((List.range n).map fun i => ⟨1, ((i % 7 : Nat) : Int)⟩) []]⟩], []⟩
theorem arity_check (p n : Nat) (hp : p < 7) (hn : n < 9) (d : Bool) : checkR (arityM p n d) = if 6 < n ∨ d = true ∧ n ≠ p then some (9, 0, 0) else none := by
  have all : ∀ p : Fin 7, ∀ n : Fin 9, ∀ d : Bool, checkR (arityM p n d) = if 6 < (n : Nat) ∨ d = true ∧ (n : Nat) ≠ (p : Nat) then some (9, 0, 0) else none := by decide +kernel
  exact all ⟨p, hp⟩ ⟨n, hn⟩ d

def arityS : List ByteArray := [⟨#[102]⟩, ⟨#[108, 48]⟩, ⟨#[108, 49]⟩, ⟨#[108, 50]⟩, ⟨#[108, 51]⟩, ⟨#[108, 52]⟩, ⟨#[108, 53]⟩, ⟨#[108, 54]⟩]
def arityA (n : Nat) : List MRef := (List.range n).map fun i => ⟨1, ((i % 7 : Nat) : Int)⟩
theorem arity_loop (d : Bool) (p n : Nat) (hn : n < 9) (kb : Int) : ∀ (k i : Nat), i + k = n → RuleArity_1 d p n i 8 (sF arityS) 5 0 0 kb 0 i (refsF (arityA i)) = RuleArity_2 d p n 8 (sF arityS) 5 0 0 kb 0 n (refsF (arityA n))
  | 0, i, h => by
    have hl : (refsF (arityA i)).length = i * 2 := by rw [flat_len MRef.F_len]; simp [arityA]
    have : i = n := by omega
    subst this
    rw [RuleArity_1_eq, if_neg (by simp), if_pos (by omega), List.drop_zero, List.take_of_length_le (by omega)]
  | k + 1, i, h => by
    have hl : (refsF (arityA i)).length = i * 2 := by rw [flat_len MRef.F_len]; simp [arityA]
    have hm : Int.tmod (i : Int) 7 = ((i % 7 : Nat) : Int) := rfl
    have hs : refsF (arityA i) ++ [F.s (.int .u8 1), F.s (.int .i64 ((i % 7 : Nat) : Int))] = refsF (arityA (i + 1)) := by
      simp [arityA, List.range_succ, MRef.F]
    have hl1 : (refsF (arityA (i + 1))).length = (i + 1) * 2 := by rw [flat_len MRef.F_len]; simp [arityA]
    rw [RuleArity_1_eq, if_pos (by simp; omega), if_pos ⟨rfl, by omega⟩, if_pos (by omega), List.drop_zero, List.take_of_length_le (by omega), hm, hs, if_pos (by omega), List.drop_zero, List.take_of_length_le (by omega), wrap_i64 (by omega) (by omega)]
    have := arity_loop d p n hn kb k (i + 1) (by omega)
    rw [show ((i : Int) + 1) = ((i + 1 : Nat) : Int) by omega, this]
theorem arity_core (p n : Nat) (hp : p < 7) (hn : n < 9) (d : Bool) : ruleCheck_0 8 (sF arityS) 0 [] 1 [F.s (.int .i64 0), F.s (.int .i64 p), F.lst 7 [F.s (.int .i64 1), F.s (.int .i64 2), F.s (.int .i64 3), F.s (.int .i64 4), F.s (.int .i64 5), F.s (.int .i64 6), F.s (.int .i64 7)], F.lst 0 [], F.lst 1 [F.s (.int .u8 5), F.s (.int .u8 0), F.s (.int .i64 0), F.s (.int .u8 (if d = true then 3 else 1)), F.s (.int .i64 0), F.lst n (refsF (arityA n)), F.lst 0 []]] 0 [] =
    some (.ret (.agg (faultV (if 6 < n ∨ d = true ∧ n ≠ p then some (9, 0, 0) else none))), []) := by
  have hal : (arityA n).length = n := by simp [arityA]
  rw [← arity_check p n hp hn d, ← ruleCheck_core (arityM p n d) (by simp [arityM, big]) (by simp [arityM, big]) (by
    intro f hf
    have : f = ⟨0, p, [1, 2, 3, 4, 5, 6, 7], [], [.mk 5 ⟨0, 0⟩ ⟨if d = true then 3 else 1, 0⟩ (arityA n) []]⟩ := by simpa [arityM, arityA] using hf
    subst this
    have e : flats 0 0 [MStmt.mk 5 ⟨0, 0⟩ ⟨if d = true then 3 else 1, 0⟩ (arityA n) []] = [⟨0, 0, .mk 5 ⟨0, 0⟩ ⟨if d = true then 3 else 1, 0⟩ (arityA n) []⟩] := by
      rw [flats_cons, if_neg (by simp [MStmt.kind]), flats_nil]
    dsimp only
    rw [e]
    refine ⟨by simp [big], fun x hx => ?_⟩
    simp at hx
    subst hx
    simp [MStmt.args, hal]; omega)]
  simp only [arityM, MFun.F, funsF, List.flatMap_cons, List.flatMap_nil, List.append_nil, stmtsF, MStmt.F]
  have : (List.range n).map (fun i => (⟨1, ((i % 7 : Nat) : Int)⟩ : MRef)) = arityA n := rfl
  rw [this, hal]
  rfl
theorem RuleArity_law (a b : Nat) (ha : a < 256) (hb : b < 256) (d : Bool) : run w0 7 [N .u8 a, N .u8 b, B d] [] = some (.ret (B true), []) := by
  have h1 : Int.tmod (a : Int) 7 = ((a % 7 : Nat) : Int) := rfl
  have h2 : Int.tmod (b : Int) 9 = ((b % 9 : Nat) : Int) := rfl
  have hp : a % 7 < 7 := Nat.mod_lt _ (by omega)
  have hn : b % 9 < 9 := Nat.mod_lt _ (by omega)
  rw [RuleArity_run, RuleArity_eq, awake_spec, pB_some, if_neg (by simp), h1, h2, wrap_i64 (by omega) (by omega), wrap_i64 (by omega) (by omega)]
  generalize a % 7 = p at *
  generalize b % 9 = n at *
  have hc := arity_core p n hp hn d
  have fin : ∀ kb : Int, kb = (if d = true then 3 else 1) → RuleArity_1 d p n 0 8 (sF arityS) 5 0 0 kb 0 0 [] = some (.ret (B true), []) := by
    rintro kb rfl
    have hl := arity_loop d p n hn (if d = true then 3 else 1) n 0 (by omega)
    have hl' : RuleArity_1 d p n 0 8 (sF arityS) 5 0 0 (if d = true then 3 else 1) 0 0 [] = _ := hl
    rw [hl', RuleArity_2_eq, ruleCheck_v_c4c7, hc, withH_fault]
    by_cases h6 : 6 < n
    · rw [if_neg (by simp; omega), if_pos (.inl h6)]
      simp only [pA_some, faultV, cI, List.getElem?_cons_zero, List.getElem?_cons_succ, Option.bind_some, V.int?, V.f?, F.int?, if_true, List.length_cons, List.length_nil]
      rw [show ([I 8, I 0, I 0, I 0, I 9, I 0, I 0] : List V) = faultV (some (9, 0, 0)) from rfl, rtold_spec, pB_some]
      simp
    · rw [if_pos (by simp; omega)]
      cases d
      · rw [if_neg (by simp), if_neg (by simp; omega)]
        simp only [pA_some, faultV, cI, List.getElem?_cons_zero, List.getElem?_cons_succ, Option.bind_some, V.int?, V.f?, F.int?, if_true, List.length_cons, List.length_nil]
        rw [show ([I 0, I 0, I 0, I 0, I 0, I (-1), I (-1)] : List V) = faultV none from rfl, rtold_spec, pB_some]
        simp
      · rw [if_pos rfl]
        by_cases hnp : n = p
        · rw [if_neg (by simp [hnp]), if_neg (by simp [hnp]; omega)]
          simp only [pA_some, faultV, cI, List.getElem?_cons_zero, List.getElem?_cons_succ, Option.bind_some, V.int?, V.f?, F.int?, if_true, List.length_cons, List.length_nil]
          rw [show ([I 0, I 0, I 0, I 0, I 0, I (-1), I (-1)] : List V) = faultV none from rfl, rtold_spec, pB_some]
          simp
        · rw [if_pos (by simp; omega), if_pos (.inr ⟨rfl, hnp⟩)]
          simp only [pA_some, faultV, cI, List.getElem?_cons_zero, List.getElem?_cons_succ, Option.bind_some, V.int?, V.f?, F.int?, if_true, List.length_cons, List.length_nil]
          rw [show ([I 8, I 0, I 0, I 0, I 9, I 0, I 0] : List V) = faultV (some (9, 0, 0)) from rfl, rtold_spec, pB_some]
          simp
  cases d
  · rw [if_neg (by simp)]
    have := fin 1 rfl
    exact (congrArg (withH true []) this).trans (withH_true _ _ _)
  · rw [if_pos rfl]
    have := fin 3 rfl
    exact (congrArg (withH true []) this).trans (withH_true _ _ _)
theorem RuleArity_all (l : List (List F)) (h : Args Try.prog Try.f7.params.toList l) : ∃ h', run w0 7 (argVs Try.prog Try.f7.params.toList l) [] = some (.ret (B true), h') := by
  obtain ⟨x1, l1, rfl, h1, h⟩ := h.cons_inv
  obtain ⟨x2, l2, rfl, h2, h⟩ := h.cons_inv
  obtain ⟨x3, l3, rfl, h3, h⟩ := h.cons_inv
  obtain rfl := h.nil_inv
  obtain ⟨n, rfl, hn⟩ := h1.of_int (k := .u8) (by kernel_rfl)
  obtain ⟨u, rfl, hw⟩ := h2.of_int (k := .u8) (by kernel_rfl)
  obtain ⟨b, rfl⟩ := h3.of_bool (by kernel_rfl)
  obtain ⟨n, rfl, hn'⟩ := wf_u8 hn
  obtain ⟨u, rfl, hu⟩ := wf_u8 hw
  exact ⟨_, RuleArity_law n u hn' hu b⟩
end Go.Proofs.Ytojnkpaholkpnaa
