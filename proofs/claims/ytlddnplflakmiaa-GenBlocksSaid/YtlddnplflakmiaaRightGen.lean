/-
  A module that breaks no rule has a system that may be.
-/
import Derived.Test.YtlddnplflakmiaaGenDef
set_option autoImplicit false
set_option linter.unusedVariables false
set_option linter.unusedSimpArgs false
namespace Go.Proofs.Ytlddnplflakmiaa
open Go Go.Abs
/-! ### what the rules say -/
structure FineF (m : Mod) (f : MFun) : Prop where
  locals : f.locals.length ≤ 40
  sites : f.sites.length ≤ 40
  flats : (flats 0 0 f.body).length ≤ 400
  params0 : 0 ≤ f.params
  paramsL : f.params ≤ f.locals.length
  params6 : f.params ≤ 6
  stmts : ∀ x ∈ Go.Abs.flats 0 0 f.body, ¬ 0 < stmtR m f x.deep x.s
structure FineT (m : Mod) : Prop where
  globals : m.globals.length ≤ 40
  funcs : m.funcs.length ≤ 40
  entries : m.entries.length ≤ 40
  fns : ∀ f ∈ m.funcs, FineF m f
theorem stmtsR_none {m : Mod} {f : MFun} : ∀ {l : List MItem}, stmtsR m f l = none → ∀ x ∈ l, ¬ 0 < stmtR m f x.deep x.s
  | [], _, x, hx => by cases hx
  | y :: l, h, x, hx => by
    unfold stmtsR at h
    split at h
    · cases h
    · rename_i hy
      rcases List.mem_cons.1 hx with rfl | hx
      · exact hy
      · exact stmtsR_none h x hx
theorem tree_fine {m : Mod} (h : treeR m = none) : FineT m := by
  unfold treeR at h
  split at h
  · cases h
  rename_i hw
  have hb : m.globals.length ≤ 40 ∧ m.funcs.length ≤ 40 ∧ m.entries.length ≤ 40 := by
    unfold wholeR at hw
    split at hw
    · omega
    · omega
  refine ⟨hb.1, hb.2.1, hb.2.2, fun f hf => ?_⟩
  obtain ⟨h1, h2⟩ := funsR_none h f hf
  unfold funR at h1
  split at h1
  · omega
  rename_i g1
  split at h1
  · omega
  rename_i g2
  exact ⟨by omega, by omega, by omega, by omega, by omega, by omega, stmtsR_none h2⟩
theorem check_tree {m : Mod} (h : checkR m = none) : treeR m = none := by
  unfold checkR at h
  cases ht : treeR m with
  | none => rfl
  | some x => rw [ht] at h; cases h
structure FineS (m : Mod) (f : MFun) (s : MStmt) : Prop where
  kinds : kindsR s = true
  a : thereR m f s.a = true
  b : thereR m f s.b = true
  args : ∀ r ∈ s.args, thereR m f r = true
  call : s.kind = 5 → s.args.length ≤ 6 ∧ (s.b.k = 3 → (s.args.length : Int) = (m.funcs[s.b.id.toNat]?.getD default).params)
theorem stmt_fine {m : Mod} {f : MFun} {d : Nat} {s : MStmt} (h : ¬ 0 < stmtR m f d s) : FineS m f s := by
  unfold stmtR at h
  split at h
  · omega
  split at h
  · omega
  rename_i h1
  split at h
  · omega
  rename_i h2
  split at h
  · omega
  rename_i h3
  refine ⟨by simpa using h1, ?_, ?_, fun r hr => ?_, fun h5 => ⟨?_, fun h6 => ?_⟩⟩
  · cases q : thereR m f s.a with
    | true => rfl
    | false => exact absurd (.inl q) h2
  · cases q : thereR m f s.b with
    | true => rfl
    | false => exact absurd (.inr (.inl q)) h2
  · cases q : thereR m f r with
    | true => rfl
    | false => exact absurd (.inr (.inr ⟨r, hr, q⟩)) h2
  · rcases Nat.lt_or_ge 6 s.args.length with q | q
    · exact absurd ⟨h5, .inl q⟩ h3
    · exact q
  · by_cases q : (s.args.length : Int) = (m.funcs[s.b.id.toNat]?.getD default).params
    · exact q
    · exact absurd ⟨h5, .inr ⟨h6, q⟩⟩ h3
/-! ### places -/
section
variable {m : Mod}
theorem there_lt {f : MFun} {r : MRef} (h : thereR m f r = true) (hk : r.k ≠ 0) : 0 ≤ r.id ∧ r.id < (if r.k = 1 then f.locals.length else if r.k = 2 then m.globals.length else if r.k = 3 then m.funcs.length else f.sites.length : Nat) := by
  unfold thereR at h
  rw [if_neg hk] at h
  simpa using h
/-! ### constraints -/
end
end Go.Proofs.Ytlddnplflakmiaa
