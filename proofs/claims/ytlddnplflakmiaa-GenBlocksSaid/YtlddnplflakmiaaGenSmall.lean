/-
  A module's constraints are few; the document's example.
-/
import Derived.Test.YtlddnplflakmiaaGenSpec7
import Derived.Test.YtlddnplflakmiaaSameSpec
set_option autoImplicit false
set_option linter.unusedVariables false
set_option linter.unusedSimpArgs false
namespace Go.Proofs.Ytlddnplflakmiaa
open Go Go.Abs
/-! ### constraints are few -/
theorem consT_args (m : Abs.Mod) (f : Nat) (s : MStmt) (hs : s.args.length ≤ 100) : ∀ c ∈ consT m f s, c.args.length ≤ 100 := by
  have hp : ∀ (l : List Int) (b : Int) (k : Nat), ∀ c ∈ parT m b k l, c.args.length ≤ 100 := by
    intro l b
    induction l with
    | nil => intro k c hc; simp [parT] at hc
    | cons n l ih =>
      intro k c hc
      rw [parT, List.mem_cons] at hc
      rcases hc with rfl | hc
      · simp
      · exact ih _ c hc
  intro c hc
  unfold consT at hc
  repeat' split at hc
  all_goals first
    | (simp at hc; subst hc; simp; try omega)
    | (rcases List.mem_append.1 hc with hc | hc
       · exact hp _ _ _ c hc
       · first
         | (simp at hc; subst hc; simp)
         | (simp at hc))
    | simp at hc
theorem consFrom_len (m : Abs.Mod) : ∀ (fs : List MFun) (f : Nat), (∀ g ∈ fs, (flats 0 0 g.body).length ≤ 1000 ∧ ∀ x ∈ flats 0 0 g.body, x.s.args.length ≤ 100) → (consFrom m f fs).length ≤ fs.length * 102000
  | [], _, _ => by simp [consFrom]
  | g :: r, f, h => by
    have ih := consFrom_len m r (f + 1) fun g hg => h g (by simp [hg])
    obtain ⟨b1, b2⟩ := h g (by simp)
    have hlen : ((flats 0 0 g.body).flatMap fun x => consT m f x.s).length ≤ (flats 0 0 g.body).length * 101 := by
      generalize flats 0 0 g.body = l at b2
      clear b1
      induction l with
      | nil => simp
      | cons x l ih =>
        have h1 := consT_len m f x.s
        have h2 := b2 x (by simp)
        have h3 := ih fun y hy => b2 y (by simp [hy])
        simp only [List.flatMap_cons, List.length_append, List.length_cons]
        omega
    simp only [consFrom, List.length_append, List.length_cons]
    omega
theorem consFrom_args (m : Abs.Mod) : ∀ (fs : List MFun) (f : Nat), (∀ g ∈ fs, ∀ x ∈ flats 0 0 g.body, x.s.args.length ≤ 100) → ∀ c ∈ consFrom m f fs, c.args.length ≤ 100
  | [], _, _, c, hc => by simp [consFrom] at hc
  | g :: r, f, h, c, hc => by
    rw [consFrom, List.mem_append] at hc
    rcases hc with hc | hc
    · obtain ⟨x, hx, hc⟩ := List.mem_flatMap.1 hc
      exact consT_args m f x.s (h g (by simp) x hx) c hc
    · exact consFrom_args m r (f + 1) (fun g hg => h g (by simp [hg])) c hc
theorem sysT_small (m : Abs.Mod) (hg : okG m) : smallS (sysT m) := by
  obtain ⟨hm, hb, hs⟩ := hg
  have h1 := cells_le m hm
  have h2 := consFrom_len m m.funcs 0 hb
  have h3 := hm.2.1
  refine ⟨?_, ?_, fun c hc => ?_, fun c hc => ?_⟩
  · show ((cellsR m).map (cellT m)).length < _; rw [List.length_map]; omega
  · show (consFrom m 0 m.funcs).length < _; omega
  · obtain ⟨t, _, rfl⟩ := List.mem_map.1 hc
    have : (cellT m t).args.length ≤ 100 := by
      unfold cellT
      split
      · show (argsT m t.2.1 0 _).length ≤ 100
        rw [argsT_len]
        split
        · rename_i g hgf
          obtain ⟨n, _, h5, _⟩ := getF_some m hgf
          obtain ⟨q1, _, q3, q4⟩ := hm.2.2 g (List.mem_of_getElem? h5)
          omega
        · omega
      · simp
    omega
  · have := consFrom_args m m.funcs 0 (fun g hg => (hb g hg).2) c hc
    omega
/-! ### awake -/
end Go.Proofs.Ytlddnplflakmiaa
