/-
  Arguments by their types; a law's row out of what the abstract machine answers.
-/
import Derived.Test.YtpchhblgilfejaaAbsRow2
set_option autoImplicit false
set_option linter.unusedVariables false
namespace Go.Abs
open Go Go.ChangeShapes Go.WideShapes Go.RowKit

section
variable {P : Program} {t e : TypeId} {xs : List F}
theorem Ty.of_bool (h : Ty P t xs) (hu : P.underlying t = some .bool) : ∃ b, xs = [.s (.bool b)] := by
  cases h <;> simp_all
theorem Ty.of_int {k : IntKind} (h : Ty P t xs) (hu : P.underlying t = some (.int k)) : ∃ n, xs = [.s (.int k n)] ∧ (Lit.int k n).wf = true := by
  cases h <;> simp_all
theorem Ty.of_str (h : Ty P t xs) (hu : P.underlying t = some .string) : ∃ s, xs = [.s (.string s)] ∧ s.size ≤ maxLen := by
  cases h <;> simp_all
theorem Ty.of_slice (h : Ty P t xs) (hu : P.underlying t = some (.slice e)) : ∃ parts : List (List F), xs = [.lst parts.length parts.flatten] ∧ parts.length ≤ maxLen ∧ (∀ p ∈ parts, p.length = P.cellsOf e) ∧ (∀ p ∈ parts, Ty P e p) := by
  cases h with
  | slice parts h h1 h2 h3 =>
    rw [hu] at h; cases h
    exact ⟨parts, rfl, h1, h2, h3⟩
  | _ => simp_all
theorem Ty.of_struct {fs : Array Field} (h : Ty P t xs) (hu : P.underlying t = some (.struct fs)) : ∃ parts : List (List F), xs = parts.flatten ∧ parts.length = fs.size ∧ ∀ (i : Nat) f p, fs[i]? = some f → parts[i]? = some p → Ty P f.type p := by
  cases h with
  | struct parts h h1 h2 h3 =>
    rw [hu] at h; cases h
    exact ⟨parts, rfl, h1, h3⟩
  | _ => simp_all
theorem Ty.of_array {n : Nat} (h : Ty P t xs) (hu : P.underlying t = some (.array n e)) : ∃ parts : List (List F), xs = parts.flatten ∧ parts.length = n ∧ ∀ p ∈ parts, Ty P e p := by
  cases h with
  | array parts h h1 h2 h3 =>
    rw [hu] at h; cases h
    exact ⟨parts, rfl, h1, h3⟩
  | _ => simp_all
end
theorem Args.cons_inv {P : Program} {t : TypeId} {ts : List TypeId} {l : List (List F)} (h : Args P (t :: ts) l) : ∃ xs l', l = xs :: l' ∧ Ty P t xs ∧ Args P ts l' := by
  cases h with
  | cons h1 h2 => exact ⟨_, _, rfl, h1, h2⟩
theorem Args.nil_inv {P : Program} {l : List (List F)} (h : Args P [] l) : l = [] := by
  cases h; rfl
theorem trodAll_len {H : Type} {enc : TypeId × Value → H} {P : Program} {W : World} {b : Nat} {sp : Nat → Bool} {hd : Bool} : ∀ {ts : List TypeId} {vs : List Value} {ds : List (DataW H)} {ps : List MemPlace}, DataW.TrodAll enc P W b sp hd ts vs ds ps → ds.length = ts.length
  | [], [], [], _, _ => rfl
  | t :: ts, v :: vs, d :: ds, ps, ⟨p, q, _, h, _⟩ => by simp [trodAll_len h]
  | [], _ :: _, _, _, h => by cases h
  | [], [], _ :: _, _, h => by cases h
  | _ :: _, [], _, _, h => by cases h
  | _ :: _, _ :: _, [], _, h => by cases h
/-- THE LAW's STEP: out of what the abstract machine answers. -/
theorem law_step {w0 : World0} (hx : ExtSim w0) {H : Type} {enc : TypeId × Value → H} {n : Nat} {f : FuncId} {fn : Func} {s : ChangeSpec} {W : World} {base : Nat} {args : Array Value} {ds gs : List (DataW H)} {before : List MemPlace} {apart fresh handsOn again : Bool}
    (hv : s.vars = []) (hl : laidOutB w0.P = true) (hts : ∀ t ∈ fn.params.toList, w0.P.readableRec t = true ∧ t < w0.P.types.size) (hsm : ∀ t ∈ fn.params.toList, simpleT w0.P n t = true)
    {tb : TypeId} (hres : fn.resultTypes = #[tb]) (htb : w0.P.underlying tb = some .bool)
    (hfn : ∀ ds : List (DataW H), ds.length = fn.params.toList.length → s.fn H (ds ++ []) = { results := [.lit (.bool true)], args := ds })
    (hval : ∀ (j : Nat) t v, fn.params[j]? = some t → args[j]? = some v → Value.okWide w0.P W .any base t v)
    (hW : DataW.Whole enc w0.P fn.params.toList s.vars apart W args.toList ds gs before)
    (hg : GOk (roOf W)) (hlaw : ∀ l, Args w0.P fn.params.toList l → ∃ h', run w0 f (argVs w0.P fn.params.toList l) [] = some (.ret (B true), h')) :
    Calls w0.P f args W fun e W' => ∃ v, e = .returned v ∧ s.post enc w0.P fn apart fresh handsOn again W args v W' := by
  have hW0 := hW
  obtain ⟨p, q, hA, hV, _, _, _⟩ := hW0
  have hg : gs = [] := by
    rw [hv] at hV
    cases gs with
    | nil => rfl
    | cons g gs => cases hV
  subst hg
  obtain ⟨l, hl1, hr⟩ := args_ok (n := n) hsm (fun j t v h1 h2 => hval j t v (by simpa using h1) (by simpa using h2)) hA
  obtain ⟨h', e⟩ := hlaw l hl1
  refine (top_ok hx hg e hr).mono ?_
  rintro e W' ⟨η', ro', cv, rfl, hvv, _, _, hold, hos, _, hout⟩
  have hcv : cv = .bool true := rel_s hvv
  subst hcv
  exact ⟨_, rfl, post_true hW hv hl hts hres htb (hfn ds (trodAll_len hA)) hold hos hout⟩
end Go.Abs
