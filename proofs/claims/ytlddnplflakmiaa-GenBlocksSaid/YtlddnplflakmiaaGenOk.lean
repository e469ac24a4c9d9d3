/-
  A module that breaks no rule is as the functions of layer 14 ask.
-/
import Derived.Test.YtlddnplflakmiaaGenAwake
import Derived.Test.YtlddnplflakmiaaRightGen
set_option autoImplicit false
set_option linter.unusedVariables false
set_option linter.unusedSimpArgs false
namespace Go.Proofs.Ytlddnplflakmiaa
open Go Go.Abs
theorem getF_at {m : Mod} {j : Int} (h : 0 ≤ j ∧ j < m.funcs.length) : ∃ g, getF m j = some g ∧ g ∈ m.funcs ∧ m.funcs[j.toNat]? = some g := by
  have hl : j.toNat < m.funcs.length := by omega
  refine ⟨m.funcs[j.toNat], ?_, List.getElem_mem _, List.getElem?_eq_getElem hl⟩
  unfold getF; rw [if_pos h.1, List.getElem?_eq_getElem hl]
/-- a module that breaks no rule, of few: as the functions ask -/
theorem okG_of {m : Mod} (h : treeR m = none) : okG m := by
  have hm := tree_fine h
  refine ⟨⟨by have := hm.globals; omega, by have := hm.funcs; omega, fun f hf => ?_⟩, fun f hf => ?_, fun f hf x hx => ?_⟩
  · have q := hm.fns f hf
    exact ⟨by have := q.locals; omega, by have := q.sites; omega, q.params0, q.paramsL⟩
  · have q := hm.fns f hf
    refine ⟨by have := q.flats; omega, fun x hx => ?_⟩
    have s := stmt_fine (q.stmts x hx)
    by_cases h5 : x.s.kind = 5
    · have := (s.call h5).1; omega
    · have hk := s.kinds
      have : x.s.args = [] := by
        unfold kindsR at hk
        repeat' split at hk
        all_goals (first | (simp only [decide_eq_true_eq] at hk; first | exact hk.1 | exact hk.2.2) | (exact absurd (by assumption) h5) | cases hk)
      rw [this]; simp
  · have q := hm.fns f hf
    have s := stmt_fine (q.stmts x hx)
    refine ⟨s.kinds, ?_, fun h5 h3 => ?_⟩
    · by_cases h5 : x.s.kind = 5
      · have := (s.call h5).1; omega
      · have hk := s.kinds
        have : x.s.args = [] := by
          unfold kindsR at hk
          repeat' split at hk
          all_goals (first | (simp only [decide_eq_true_eq] at hk; first | exact hk.1 | exact hk.2.2) | (exact absurd (by assumption) h5) | cases hk)
        rw [this]; simp
    · have hl := there_lt s.b (by omega)
      rw [if_neg (by omega), if_neg (by omega), if_pos h3] at hl
      obtain ⟨g, g1, g2, g3⟩ := getF_at hl
      have hp := (s.call h5).2 h3
      rw [g3] at hp
      simp only [Option.getD_some] at hp
      have := (hm.fns g g2).paramsL
      exact ⟨g, g1, by omega⟩
theorem argsOk_of {m : Mod} (h : treeR m = none) : argsOk m := by
  have hg := (okG_of h).2.1
  exact fun f hf => ⟨by have := (hg f hf).1; unfold big; omega, fun x hx => by have := (hg f hf).2 x hx; omega⟩
theorem sys_go (m : Mod) (h : checkR m = none) (hs : m.strings.length ≤ big) (h0 : H) (K : Int → Nat → List F → Nat → List F → Int → Int → Int → Int → Int → Int → Int → R) :
    (pT (run w0 10 [.agg (modV m)] h0) fun l => cA l 0 fun a => cI .i64 a 0 fun v => cL a 1 fun m1 c1 => cL a 2 fun m2 c2 => if a.length = 3 then cA l 1 fun b => cI .i64 b 0 fun x0 => cI .i64 b 1 fun x1 => cI .i64 b 2 fun x2 => cI .i64 b 3 fun x3 => cI .i64 b 4 fun x4 => cI .i64 b 5 fun x5 => cI .i64 b 6 fun x6 => if b.length = 7 then if l.length = 2 then K v m1 c1 m2 c2 x0 x1 x2 x3 x4 x5 x6 else none else none else none) =
      K (sysT m).vars (sysT m).cells.length (cellsF (sysT m).cells) (sysT m).cons.length (consF (sysT m).cons) 0 0 0 0 0 (-1) (-1) := by
  rw [gSystem_spec m (okG_of (check_tree h)) hs (argsOk_of (check_tree h)) h h0, pT_some]
  generalize sysT m = S
  simp [cA, cI, cL, V.int?, V.lst?, V.f?, F.int?, F.lst?, V.agg?, faultV]
end Go.Proofs.Ytlddnplflakmiaa
