/-
  Laws of layer 6 over modules that are made of numbers: they break no rule; which strings they use.
-/
import Derived.Test.YtojnkpaholkpnaaRuleTold
import Derived.Test.YtojnkpaholkpnaaMakeOk3
import Derived.Test.YtojnkpaholkpnaaDraftArgs
set_option autoImplicit false
set_option linter.unusedVariables false
set_option linter.unusedSimpArgs false
namespace Go.Proofs.Ytojnkpaholkpnaa
open Go Go.Abs

theorem make_args (g f e : Nat) (acts : List MAct) (hn : acts.length ≤ 60) : argsOk (makeM g f e acts) := by
  intro q hq
  obtain ⟨_, h2, h3, _⟩ := (make_small g f e acts).bodies q hq
  exact ⟨by unfold big; omega, fun x hx => by have := h3 x hx; omega⟩
theorem told_go (x : Option (Int × Int × Int)) (n f s : Int) (h0 h1 : H) (K : Bool → R) :
    (pA (some (.ret (.agg (faultV x)), h0)) fun l => cI .i64 l 0 fun n0 => cI .i64 l 1 fun n1 => cI .i64 l 2 fun n2 => cI .i64 l 3 fun n3 => cI .i64 l 4 fun n4 => cI .i64 l 5 fun n5 => cI .i64 l 6 fun n6 => if l.length = 7 then pB (run w0 10 [.agg [N .i64 n0, N .i64 n1, N .i64 n2, N .i64 n3, N .i64 n4, N .i64 n5, N .i64 n6], N .i64 n, N .i64 f, N .i64 s] h1) K else none) =
      K (decide (x = if n = 0 then none else some (n, f, s))) := by
  have : (pB (run w0 10 [.agg (faultV x), I n, I f, I s] h1) K) = K (decide (x = if n = 0 then none else some (n, f, s))) := by rw [rtold_spec, pB_some]
  rw [← this, pA_some]
  rcases x with _ | ⟨a, b, c⟩ <;> rfl
theorem RuleDrafts_law (g f e : Nat) (hg : g < 256) (hf : f < 256) (he : e < 256) (acts : List MAct) (hx : ∀ x ∈ acts, x.ok) : RuleDrafts_0 g f e acts.length (actsF acts) = some (.ret (B true), []) := by
  rw [RuleDrafts_eq, awake_spec, pB_some, if_pos (show (!true) = false from rfl)]
  by_cases hn : acts.length ≤ 60
  · have hc := make_check g f e acts (by omega)
    have ht := make_tree g f e acts (by omega)
    have hs := make_small g f e acts
    have ha := make_args g f e acts hn
    rw [if_neg (by simp; omega), make_go g f e hg hf he acts hn hx]
    have h1 := hs.strings
    have h2 := hs.funcs
    clear hs
    generalize makeM g f e acts = m at hc ht ha h1 h2
    have e1 : ∀ h0 : H, run w0 11 [.agg [.f (.lst m.strings.length (sF m.strings)), .f (.lst m.globals.length (kF .i64 m.globals)), .f (.lst m.funcs.length (funsF m.funcs)), .f (.lst m.entries.length (kF .i64 m.entries))]] h0 = some (.ret (.agg (faultV none)), h0) := fun h0 => by
      have := ruleCheck_spec m (by unfold big; omega) (by unfold big; omega) ha h0
      rw [hc] at this; exact this
    have e2 : ∀ h0 : H, run w0 12 [.agg [.f (.lst m.strings.length (sF m.strings)), .f (.lst m.globals.length (kF .i64 m.globals)), .f (.lst m.funcs.length (funsF m.funcs)), .f (.lst m.entries.length (kF .i64 m.entries))]] h0 = some (.ret (.agg (faultV none)), h0) := fun h0 => by
      have := ruleTree_spec m (by unfold big; omega) ha h0
      rw [ht] at this; exact this
    rw [e1, told_go none 0 0 0, e2, told_go none 0 0 0]
    rfl
  · rw [if_pos (by simp; omega), pB_some]
set_option maxRecDepth 100000 in
theorem RuleDrafts_all (l : List (List F)) (h : Args Try.prog Try.f3.params.toList l) : ∃ h', run w0 3 (argVs Try.prog Try.f3.params.toList l) [] = some (.ret (B true), h') := by
  obtain ⟨x1, l1, rfl, h1, h⟩ := h.cons_inv
  obtain rfl := h.nil_inv
  obtain ⟨g, f, e, acts, rfl, hg, hf, he, _, hx⟩ := draft_of h1
  have h : run w0 3 [.agg [N .u8 g, N .u8 f, N .u8 e, .f (.lst acts.length (actsF acts))]] [] = some (.ret (B true), []) := by rw [RuleDrafts_run, RuleDrafts_law g f e hg hf he acts hx, withH_true]
  exact ⟨[], h⟩

/-! ### which strings are used -/
theorem fun_name {l rest : List MFun} {f : MFun} {i : Nat} (h : l.drop i = f :: rest) (K : Int → R) : (elem (.lst l.length (funsF l)) (i : Int) 5 fun c => atI .i64 (c.drop 0) 0 K) = K f.name := by
  rw [elem_next MFun.F_len h, MFun.F]; simp
theorem fun_locals {l rest : List MFun} {f : MFun} {i : Nat} (h : l.drop i = f :: rest) (K : Nat → List F → R) : (elem (.lst l.length (funsF l)) (i : Int) 5 fun c => atL (c.drop 2) 0 K) = K f.locals.length (kF .i64 f.locals) := by
  rw [elem_next MFun.F_len h, MFun.F]; simp
theorem fun_sites {l rest : List MFun} {f : MFun} {i : Nat} (h : l.drop i = f :: rest) (K : Nat → List F → R) : (elem (.lst l.length (funsF l)) (i : Int) 5 fun c => atL (c.drop 3) 0 K) = K f.sites.length (kF .i64 f.sites) := by
  rw [elem_next MFun.F_len h, MFun.F]; simp
theorem keep_kF (l : List Int) (K : List F → R) : (if 0 + l.length * 1 ≤ (kF .i64 l).length then K (((kF .i64 l).drop 0).take (l.length * 1)) else none) = K (kF .i64 l) := by
  rw [if_pos (by simp), List.drop_zero, List.take_of_length_le (by simp)]
theorem keep_kF' (l : List Int) (n : Nat) (hn : n = l.length) (c : List F) (hc : c = kF .i64 l) (K : List F → R) : (if 0 + n * 1 ≤ c.length then K ((c.drop 0).take (n * 1)) else none) = K (kF .i64 l) := by
  subst hn hc; exact keep_kF l K
theorem used_law1 (m : Mod) (r : MRef) (hf : m.funcs.length ≤ big) (K : R) (hK : ∀ l : List Int, l = usedR m → RuleUsed_1 r.k r.id m.strings.length (sF m.strings) m.globals.length (kF .i64 m.globals) m.funcs.length (funsF m.funcs) m.entries.length (kF .i64 m.entries) l.length m.funcs.length (kF .i64 l) = K) :
    ∀ (rest : List MFun) (i : Nat) (pre : List Int), m.funcs.drop i = rest → i ≤ m.funcs.length → pre ++ usedOf rest = usedR m → (usedR m).length ≤ 4000 →
    RuleUsed_1 r.k r.id m.strings.length (sF m.strings) m.globals.length (kF .i64 m.globals) m.funcs.length (funsF m.funcs) m.entries.length (kF .i64 m.entries) pre.length i (kF .i64 pre) = K
  | [], i, pre, hd, hi, hp, hu => by
    have := done_of_drop hd
    obtain rfl : i = m.funcs.length := by omega
    exact hK pre (by rw [← hp]; simp [usedOf])
  | f :: rest, i, pre, hd, hi, hp, hu => by
    have hlt := lt_of_drop hd
    have e : usedOf (f :: rest) = f.name :: (f.locals ++ f.sites) ++ usedOf rest := by simp [usedOf]
    rw [e] at hp
    have hl : (pre ++ (f.name :: (f.locals ++ f.sites) ++ usedOf rest)).length ≤ 4000 := by rw [hp]; exact hu
    simp only [List.length_append, List.length_cons] at hl
    unfold big at hf
    have k1 : kF .i64 pre ++ [F.s (.int .i64 f.name)] = kF .i64 (pre ++ [f.name]) := by simp [kF]
    have k2 : kF .i64 (pre ++ [f.name]) ++ kF .i64 f.locals = kF .i64 (pre ++ [f.name] ++ f.locals) := by simp [kF]
    have k3 : kF .i64 (pre ++ [f.name] ++ f.locals) ++ kF .i64 f.sites = kF .i64 (pre ++ [f.name] ++ f.locals ++ f.sites) := by simp [kF]
    have t1 : (((kF .i64 pre).drop 0).take (pre.length * 1)) = kF .i64 pre := by rw [List.drop_zero, List.take_of_length_le (by simp)]
    have t2 : (((kF .i64 (pre ++ [f.name])).drop 0).take ((pre.length + 1) * 1)) = kF .i64 (pre ++ [f.name]) := by rw [List.drop_zero, List.take_of_length_le (by simp)]
    have t3 : (((kF .i64 (pre ++ [f.name] ++ f.locals)).drop 0).take ((pre.length + 1 + f.locals.length) * 1)) = kF .i64 (pre ++ [f.name] ++ f.locals) := by rw [List.drop_zero, List.take_of_length_le (by simp; omega)]
    have t4 : (((kF .i64 (pre ++ [f.name] ++ f.locals ++ f.sites)).drop 0).take ((pre.length + 1 + f.locals.length + f.sites.length) * 1)) = kF .i64 (pre ++ [f.name] ++ f.locals ++ f.sites) := by rw [List.drop_zero, List.take_of_length_le (by simp; omega)]
    rw [RuleUsed_1_eq, if_pos (decide_eq_true (by omega)), fun_name hd, if_pos ⟨rfl, by omega⟩, if_pos (by simp), fun_locals hd, if_pos ⟨by omega, by simp, by omega⟩, if_pos ⟨rfl, by omega⟩, t1, k1, if_pos (by simp), fun_sites hd, if_pos ⟨by omega, by simp, by omega⟩, if_pos ⟨rfl, by omega⟩, t2, k2, if_pos (by simp; omega), t3, k3, if_pos (by simp; omega), t4, show ((i : Nat) : Int) + 1 = ((i + 1 : Nat) : Int) by omega, wrap_i64 (by omega) (by omega)]
    have ih := used_law1 m r (by unfold big; omega) K hK rest (i + 1) (pre ++ [f.name] ++ f.locals ++ f.sites) (drop_next hd) (by omega) (by rw [← hp]; simp) hu
    rw [← ih]
    congr 1
    simp only [List.length_append, List.length_singleton]
theorem used_law2 (r : MRef) (l : List Int) (hl : l.length ≤ big) : ∀ (rest : List Int) (i : Nat), l.drop i = rest → i ≤ l.length → RuleUsed_2 r.k r.id l.length (kF .i64 l) l.length (kF .i64 l) i = some (.ret (B true), [])
  | [], i, hd, hi => by
    have := done_of_drop hd
    rw [RuleUsed_2_eq, if_neg (by simp; omega)]
    have e : ∀ h0 : H, run w0 16 [.agg [N .u8 r.k, N .i64 r.id]] h0 = some (.ret (B (varR r)), h0) := fun h0 => ruleVariable_spec r h0
    rw [e, pB_some, ibeq, ibeq]
    unfold varR
    by_cases h : r.k = 1
    · rw [if_neg (by simp [h])]; simp [h]
    · rw [if_pos (by simpa using h)]; simp [h]
  | x :: rest, i, hd, hi => by
    have hlt := lt_of_drop hd
    have ih := used_law2 r l hl rest (i + 1) (drop_next hd) (by omega)
    unfold big at hl
    rw [RuleUsed_2_eq, if_pos (decide_eq_true (by omega)), elem_kF hd, atI_zero, elem_kF hd, atI_zero, if_neg (by simp), show ((i : Nat) : Int) + 1 = ((i + 1 : Nat) : Int) by omega, wrap_i64 (by omega) (by omega), ih]
theorem RuleUsed_law (g f e : Nat) (hg : g < 256) (hf : f < 256) (he : e < 256) (acts : List MAct) (hx : ∀ x ∈ acts, x.ok) (r : MRef) : RuleUsed_0 g f e acts.length (actsF acts) r.k r.id = some (.ret (B true), []) := by
  rw [RuleUsed_eq, awake_spec, pB_some, if_pos (show (!true) = false from rfl)]
  by_cases hn : acts.length ≤ 60
  · have ht := make_tree g f e acts (by omega)
    have hs := make_small g f e acts
    rw [if_neg (by simp; omega), make_go g f e hg hf he acts hn hx]
    have h2 := hs.funcs
    have h3 := hs.globals
    clear hs
    generalize makeM g f e acts = m at ht h2 h3
    obtain ⟨hu, _⟩ := tree_used ht
    rw [if_pos ⟨by omega, by simp, by omega⟩, if_pos (by omega), keep_kF]
    have h := used_law1 m r (by unfold big; omega) (some (.ret (B true), [])) (fun l hl => by
      subst hl
      have e : ∀ h0 : H, run w0 15 [.agg [.f (.lst m.strings.length (sF m.strings)), .f (.lst m.globals.length (kF .i64 m.globals)), .f (.lst m.funcs.length (funsF m.funcs)), .f (.lst m.entries.length (kF .i64 m.entries))]] h0 = some (.ret (.f (.lst (usedR m).length (kF .i64 (usedR m)))), h0) := fun h0 => ruleUsed_spec m (by unfold big; omega) h0
      rw [RuleUsed_1_eq, if_neg (by simp), e, pL_some, if_neg (by simp), if_pos (by simp), List.drop_zero, List.take_of_length_le (by simp)]
      exact used_law2 r (usedR m) (by unfold big; omega) (usedR m) 0 rfl (by omega)) m.funcs 0 m.globals rfl (by omega) rfl hu
    exact h
  · rw [if_pos (by simp; omega), pB_some]
set_option maxRecDepth 100000 in
theorem RuleUsed_all (l : List (List F)) (h : Args Try.prog Try.f6.params.toList l) : ∃ h', run w0 6 (argVs Try.prog Try.f6.params.toList l) [] = some (.ret (B true), h') := by
  obtain ⟨x1, l1, rfl, h1, h⟩ := h.cons_inv
  obtain ⟨x2, l2, rfl, h2, h⟩ := h.cons_inv
  obtain rfl := h.nil_inv
  obtain ⟨g, f, e, acts, rfl, hg, hf, he, _, hx⟩ := draft_of h1
  obtain ⟨r, rfl, _⟩ := ref_of h2
  have h : run w0 6 [.agg [N .u8 g, N .u8 f, N .u8 e, .f (.lst acts.length (actsF acts))], .agg [N .u8 r.k, N .i64 r.id]] [] = some (.ret (B true), []) := by rw [RuleUsed_run, RuleUsed_law g f e hg hf he acts hx r, withH_true]
  exact ⟨[], h⟩
end Go.Proofs.Ytojnkpaholkpnaa
