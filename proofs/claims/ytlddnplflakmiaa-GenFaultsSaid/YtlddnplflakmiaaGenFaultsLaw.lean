/-
  The law GenFaults: a module that breaks a rule has no constraints.
-/
import Derived.Test.YtlddnplflakmiaaGenOk
import Derived.Test.YtlddnplflakmiaaDocSpec2
import Derived.Test.YtlddnplflakmiaaDraftArgs
set_option autoImplicit false
set_option linter.unusedVariables false
set_option linter.unusedSimpArgs false
namespace Go.Proofs.Ytlddnplflakmiaa
open Go Go.Abs

theorem gSystem_fault (m : Abs.Mod) (hs : m.strings.length ≤ big) (hl : m.funcs.length ≤ big) (ha : argsOk m) {a b c : Int} (hc : checkR m = some (a, b, c)) :
    mL m gSystem_0 = some (.ret (.tup [.agg [I 0, .f (.lst 0 []), .f (.lst 0 [])], .agg (faultV (some (a, b, c)))]), []) := by
  unfold mL
  rw [gSystem_eq, ruleCheck_spec m hs hl ha, hc, pA_some]
  simp only [faultV, cI, List.getElem?_cons_zero, List.getElem?_cons_succ, Option.bind_some, V.int?, V.f?, F.int?, if_true, List.length_cons, List.length_nil]
  rw [if_pos (by rfl)]
/-- one entry more -/
def moreE (m : Abs.Mod) (n : Int) : Abs.Mod := { m with entries := m.entries ++ [n] }
theorem tup3_go (x : Option (Int × Int × Int)) (h0 : H) (K : Int → Int → Int → R) : (pT (some (.ret (.tup (tupV x)), h0)) fun l => cI .i64 l 0 fun a => cI .i64 l 1 fun b => cI .i64 l 2 fun c => if l.length = 3 then K a b c else none) = match x with
    | none => K 0 (-1) (-1)
    | some (a, b, c) => K a b c := by
  rw [pT_some]
  rcases x with _ | ⟨a, b, c⟩ <;> rfl
theorem check_pos {m : Abs.Mod} {x : Int × Int × Int} (h : checkR m = some x) : 0 < x.1 := by
  have hf : ∀ {fs : List MFun} {i : Nat} {x}, funsR m i fs = some x → 0 < x.1 := by
    intro fs
    induction fs with
    | nil => intro i x hx; cases hx
    | cons f l ih =>
      intro i x hx
      unfold funsR at hx
      split at hx
      · cases hx; assumption
      · split at hx
        · rename_i n s hh
          cases hx
          have : ∀ its : List MItem, stmtsR m f its = some (n, s) → 0 < n := fun its => by
            induction its with
            | nil => intro h; cases h
            | cons y its ih2 =>
              intro h
              unfold stmtsR at h
              split at h
              · cases h; assumption
              · exact ih2 h
          exact this _ hh
        · exact ih hx
  unfold checkR at h
  split at h
  · rename_i y hy
    cases h
    unfold treeR at hy
    split at hy
    · cases hy; assumption
    · exact hf hy
  · split at h
    · cases h
    · cases h; decide
theorem sys_vars {m : Abs.Mod} (hm : okM m) (h1 : 1 ≤ m.funcs.length) : 0 < ((sysT m).vars : Int) := by
  show 0 < (((varsR m).length : Nat) : Int)
  have := (mem_fun (List.getElem?_eq_getElem (show 0 < m.funcs.length by omega))).1
  have := List.length_pos_of_mem this
  omega
theorem withG_ret (h : H) (l : List V) (g : H) : withG false h (some (.ret (.tup l), g)) = some (.ret (.tup l), deadAll h) := rfl
theorem faults_end (m : Abs.Mod) (hs : m.strings.length ≤ big) (hN : m.funcs.length ≤ big) (h1 : 1 ≤ m.funcs.length) (ha : argsOk m) (h : H) :
    (pT (withG false h (mL m gSystem_0)) fun l18 => cA l18 0 fun l19 => cI .i64 l19 0 fun n20 => cL l19 1 fun m21 c21 => cL l19 2 fun m22 c22 => if l19.length = 3 then cA l18 1 fun l23 => cI .i64 l23 0 fun n24 => cI .i64 l23 1 fun n25 => cI .i64 l23 2 fun n26 => cI .i64 l23 3 fun n27 => cI .i64 l23 4 fun n28 => cI .i64 l23 5 fun n29 => cI .i64 l23 6 fun n30 => if l23.length = 7 then if l18.length = 2 then if (decide ((match checkR m with | none => (0 : Int) | some x => x.1) > 0)) = true then if ((n24 == 8) && ((n25 == 0) && ((n26 == 0) && ((n27 == 0) && ((n28 == (match checkR m with | none => (0 : Int) | some x => x.1)) && ((n29 == (match checkR m with | none => (-1 : Int) | some x => x.2.1)) && ((n30 == (match checkR m with | none => (-1 : Int) | some x => x.2.2)) && true))))))) = true then some (.ret (B ((IntKind.wrap .i64 ((IntKind.wrap .i64 (n20 + ((m21 : Nat) : Int))) + ((m22 : Nat) : Int))) == 0)), []) else some (.ret (B false), []) else if (n24 == 0) = true then some (.ret (B (decide (n20 > 0))), []) else some (.ret (B false), []) else none else none else none) = some (.ret (B true), ([] : H)) := by
  rcases hc : checkR m with _ | ⟨a, b, c⟩
  · have ht := check_tree hc
    have hv := sys_vars (okG_of ht).1 h1
    have e := gSystem_core m (okG_of ht) hs ha hc
    have e2 : mL m gSystem_0 = some (.ret (.tup [.agg (sysV (sysT m)), .agg (faultV none)]), []) ∨ ∃ g, mL m gSystem_0 = some (.ret (.tup [.agg (sysV (sysT m)), .agg (faultV none)]), g) := by
      unfold withH at e
      split at e
      · rename_i v g hq
        split at e
        · cases e; exact .inr ⟨g, hq⟩
        · cases e
      · cases e
    obtain ⟨g, e3⟩ : ∃ g, mL m gSystem_0 = some (.ret (.tup [.agg (sysV (sysT m)), .agg (faultV none)]), g) := e2.elim (fun h => ⟨_, h⟩) id
    rw [e3, withG_ret, pT_some]
    generalize sysT m = S at hv
    simp [cA, cI, cL, V.int?, V.lst?, V.f?, F.int?, F.lst?, V.agg?, faultV, hv]
  · have hp := check_pos hc
    dsimp only at hp
    rw [gSystem_fault m hs hN ha hc, withG_ret, pT_some]
    simp [cA, cI, cL, V.int?, V.lst?, V.f?, F.int?, F.lst?, V.agg?, faultV, hp]
    rfl
theorem GenFaults_law (g f e : Nat) (hg : g < 256) (hf : f < 256) (he : e < 256) (acts : List MAct) (hx : ∀ x ∈ acts, x.ok) (n : Int) : GenFaults_0 g f e acts.length (actsF acts) n = some (.ret (B true), []) := by
  rw [GenFaults_eq, gawake_spec, pB_some, if_pos (show (!true) = false from rfl)]
  by_cases hn : acts.length ≤ 60
  · have hsm := make_small g f e acts
    have ht := make_tree g f e acts (by omega)
    rw [if_neg (by simp; omega), make_go g f e hg hf he acts hn hx]
    have h1 := hsm.strings
    have h2 := hsm.globals
    have h3 := hsm.funcs1
    have h4 := hsm.funcs
    have h5 := hsm.entries
    have h6 := hsm.rows
    clear hsm
    have ha := argsOk_of ht
    generalize makeM g f e acts = m at ht h1 h2 h3 h4 h5 h6 ha
    have hrows : ∀ q ∈ (moreE m n).funcs, q.locals.length ≤ big ∧ q.sites.length ≤ big := fun q hq => by
      obtain ⟨r1, r2, r3, r4, _⟩ := h6 q hq
      unfold big; omega
    have ha' : argsOk (moreE m n) := ha
    have hk : kF .i64 m.entries ++ [F.s (.int .i64 n)] = kF .i64 (m.entries ++ [n]) := by simp [kF]
    have t1 : ((kF .i64 m.entries).drop 0).take (m.entries.length * 1) = kF .i64 m.entries := by rw [List.drop_zero, List.take_of_length_le (by simp)]
    rw [if_pos ⟨by omega, by simp, by omega⟩, if_pos (by omega), if_pos ⟨rfl, by omega⟩, if_pos (by simp), t1, hk]
    have hl : m.entries.length + 1 = (m.entries ++ [n]).length := by simp
    rw [hl, dCheck_v_c4c4dz, if_pos (by simp), List.drop_zero, List.take_of_length_le (by simp), gSystem_v_c4c4dz, if_pos (by simp), List.drop_zero, List.take_of_length_le (by simp)]
    have e1 := dCheck_core (moreE m n) (by unfold big moreE; dsimp only; omega) (by unfold big moreE; dsimp only; omega) (by unfold big moreE; dsimp only; omega) ha' hrows
    have e2 : ∀ h : H, withH false h (dCheck_0 m.strings.length (sF m.strings) m.globals.length (kF .i64 m.globals) m.funcs.length (funsF m.funcs) (m.entries ++ [n]).length (kF .i64 (m.entries ++ [n]))) = some (.ret (.tup (tupV (checkR (moreE m n)))), h) := fun h => by
      refine (congrArg (withH false h) e1).trans ?_
      rcases checkR (moreE m n) with _ | ⟨a, b, c⟩ <;> rfl
    rw [e2, tup3_go]
    have fin := faults_end (moreE m n) (by unfold big moreE; dsimp only; omega) (by unfold big moreE; dsimp only; omega) h3 ha'
    rcases hc : checkR (moreE m n) with _ | ⟨a, b, c⟩
    · rw [hc] at fin; exact fin _
    · rw [hc] at fin; exact fin _
  · rw [if_pos (by simp; omega), pB_some]
set_option maxRecDepth 100000 in
theorem GenFaults_all (l : List (List F)) (h : Args Try.prog Try.f4.params.toList l) : ∃ h', run w0 4 (argVs Try.prog Try.f4.params.toList l) [] = some (.ret (B true), h') := by
  obtain ⟨x1, l1, rfl, h1, h⟩ := h.cons_inv
  obtain ⟨x2, l2, rfl, h2, h⟩ := h.cons_inv
  obtain rfl := h.nil_inv
  obtain ⟨g, f, e, acts, rfl, hg, hf, he, _, hx⟩ := draft_of h1
  obtain ⟨n, rfl, _⟩ := h2.of_int (k := .i64) (by kernel_rfl)
  have h : run w0 4 [.agg [N .u8 g, N .u8 f, N .u8 e, .f (.lst acts.length (actsF acts))], N .i64 n] [] = some (.ret (B true), []) := by rw [GenFaults_run, GenFaults_law g f e hg hf he acts hx n, withH_true]
  exact ⟨[], h⟩
end Go.Proofs.Ytlddnplflakmiaa
