/-
  Calls of functions that are handed rows of one's own, in any heap.
-/
import Derived.Test.YtjefolfbdohkcaaAbsWords
set_option autoImplicit false
set_option linter.unusedVariables false
namespace Go.Abs
open Go
/-- what is closed about a function that is handed things of one's own -/
structure OwnFn (w : World0) (f : FuncId) (fn : Func) (sh rs : List Sh) : Prop where
  ext : w.ext f = none
  func : w.P.funcs[f]? = some fn
  body : fn.body.isSome = true
  name : (fn.name == "runtime.NumGoroutine") = false
  pol : ∃ zp zr, (w.an f).pol = .own sh rs zp zr
theorem own_call {w : World0} {f : FuncId} {fn : Func} {sh rs : List Sh} (ho : OwnFn w f fn sh rs) (args : List V) (h : H) (hlen : args.length ≤ fn.ntmps) :
    run w f args h =
      let pin := pinOf sh args
      let sh' := if pin.isSome then sh else sh.map unpin
      let tk := takesL h sh' args
      let gv := givs sh' args
      canonsK h (only gv tk 0 (noLent h)) tk sh' args [] [] fun args' nh _ => graft (kill (tk ++ gv) 0 h) (pin.map (·.2)) (coreOf w f fn rs (pin.map (·.1)) args' nh) := by
  obtain ⟨h1, h2, h3, h4, zp, zr, h5⟩ := ho
  obtain ⟨c, hc⟩ := Option.isSome_iff_exists.1 h3
  rw [run_eq]
  unfold runF
  simp only [h1, h2, hc, h4, h5, hlen, if_true, Bool.false_eq_true, if_false]
  unfold core coreOf cxOf
  simp only [hc, Option.getD_some]
/-- values with no object behind them, where shapes say so -/
def vals : List Sh → List V → Bool
  | [], [] => true
  | .val :: l, v :: vs => flat v && vals l vs
  | _, _ => false
theorem refsOf_flat {v : V} (h : flat v = true) : refsOf v = [] := by
  cases v <;> simp [flat] at h <;> simp [refsOf]
  intro x hx
  have := h x hx
  cases x <;> simp at this <;> rfl
theorem takesL_vals (h : H) : ∀ {l : List Sh} {vs : List V}, vals l vs = true → takesL h l vs = [] ∧ givs l vs = [] ∧ l.map unpin = l
  | [], [], _ => ⟨rfl, rfl, rfl⟩
  | s :: l, v :: vs, hv => by
    cases s <;> simp [vals] at hv
    obtain ⟨a, b, c⟩ := takesL_vals h hv.2
    refine ⟨?_, ?_, ?_⟩
    · simp [takesL, takes, a]
    · simp [givs, refsOf_flat hv.1, b]
    · simp [unpin, c]
  | [], _ :: _, h => by simp [vals] at h
  | _ :: _, [], h => by simp [vals] at h
theorem canonsK_vals (h hk : H) (tk : List Nat) : ∀ {l : List Sh} {vs : List V}, vals l vs = true → ∀ (nh : H) (us : List Nat) (k : List V → H → List Nat → R), canonsK h hk tk l vs nh us k = k vs nh us
  | [], [], _, nh, us, k => rfl
  | s :: l, v :: vs, hv, nh, us, k => by
    cases s <;> simp [vals] at hv
    unfold canonsK canonK
    rw [if_pos hv.1]
    exact canonsK_vals h hk tk hv.2 _ _ _
  | [], _ :: _, h, _, _, _ => by simp [vals] at h
  | _ :: _, [], h, _, _, _ => by simp [vals] at h
theorem kill_nil (i : Nat) : ∀ (h : H), kill [] i h = h
  | [] => rfl
  | o :: h => by simp [kill, kill_nil (i + 1) h]
theorem kill_one (k : Nat) : ∀ (i : Nat) (h : H), i ≤ k → (∀ cs, h[k - i]? ≠ some (.lent cs)) → kill [k] i h = h.set (k - i) .dead
  | i, [], _, _ => by simp [kill]
  | i, o :: h, hi, hn => by
    unfold kill
    by_cases e : i = k
    · subst e
      have ho : o.isLent = false := by
        cases o with
        | lent cs => exact absurd (by simp) (hn cs)
        | _ => rfl
      simp [ho]
      have : ∀ (j : Nat) (h : H), i < j → kill [i] j h = h := by
        intro j h
        induction h generalizing j with
        | nil => intro _; rfl
        | cons o h ih =>
          intro hj
          unfold kill
          rw [ih (j + 1) (by omega)]
          simp; omega
      rw [this (i + 1) h (by omega)]
    · rw [kill_one k (i + 1) h (by omega) (fun cs hc => hn cs (by rw [show k - i = (k - (i + 1)) + 1 by omega, List.getElem?_cons_succ]; exact hc)), if_neg (by simp; intro q; exact absurd q e), show k - i = (k - (i + 1)) + 1 by omega, List.set_cons_succ]
theorem only_one (k : Nat) : ∀ (i : Nat) (h : H) (o : Ob), h[k - i]? = some o → i ≤ k → (only [k] [] i h)[k - i]? = some o
  | i, [], o, ho, _ => by simp at ho
  | i, p :: h, o, ho, hi => by
    unfold only
    by_cases e : i = k
    · subst e; simp at ho ⊢; exact ho
    · rw [show k - i = (k - (i + 1)) + 1 by omega] at ho ⊢
      rw [List.getElem?_cons_succ] at ho ⊢
      exact only_one k (i + 1) h o ho (by omega)
/-- just values -/
theorem call_vals {w : World0} {f : FuncId} {fn : Func} {sh rs : List Sh} (ho : OwnFn w f fn sh rs) {args : List V} {h : H} (hlen : args.length ≤ fn.ntmps) (hv : vals sh args = true) :
    run w f args h = graft h none (coreOf w f fn rs none args []) := by
  rw [own_call ho args h hlen]
  have hp : pinOf sh args = none := by
    cases sh with
    | nil => rfl
    | cons s l =>
      cases args with
      | nil => simp [vals] at hv
      | cons v vs => cases s <;> simp [vals] at hv; rfl
  obtain ⟨a, b, c⟩ := takesL_vals h hv
  simp only [hp, Option.isSome_none, Bool.false_eq_true, if_false, c, a, b, Option.map_none, List.append_nil]
  rw [canonsK_vals _ _ _ hv, kill_nil]
/-- a row of frozen cells, handed over as a value -/
theorem call_give {w : World0} {f : FuncId} {fn : Func} {l rs : List Sh} (ho : OwnFn w f fn (.val :: l) rs) {k off m es : Nat} {xs : List V} {h : H} {cs : List F} (hk : h[k]? = some (.fz cs)) (hm : off + m * es ≤ cs.length) (hlen : xs.length + 1 ≤ fn.ntmps) (hv : vals l xs = true) :
    run w f (.ref k off m es :: xs) h = graft (h.set k .dead) none (coreOf w f fn rs none (.f (.lst m ((cs.drop off).take (m * es))) :: xs) []) := by
  rw [own_call ho _ h (by simpa using hlen)]
  obtain ⟨a, b, c⟩ := takesL_vals h hv
  have hp : pinOf (.val :: l) (.ref k off m es :: xs) = none := rfl
  have ht : takesL h (.val :: l) (.ref k off m es :: xs) = [] := by simp [takesL, takes, a]
  have hg : givs (.val :: l) (.ref k off m es :: xs) = [k] := by simp [givs, refsOf, b]
  have h1 : (only [k] [] 0 (noLent h))[k]? = some (.fz cs) := by
    have := only_one k 0 (noLent h) (.fz cs) (by rw [Nat.sub_zero, noLent_get, hk]; rfl) (by omega)
    simpa using this
  simp only [hp, Option.isSome_none, Bool.false_eq_true, if_false, List.map_cons, unpin, c, ht, hg, Option.map_none, List.nil_append]
  unfold canonsK canonK
  rw [if_neg (by simp [flat])]
  unfold frz1K
  simp only [h1]
  rw [if_pos hm, canonsK_vals _ _ _ hv, kill_one k 0 h (by omega) (fun cs hc => by rw [Nat.sub_zero, hk] at hc; cases hc)]
  simp
end Go.Abs
