/-
  Calls of functions that are handed rows of one's own, in any heap.
-/
import Derived.Test.YtjefolfbdohkcaaAbsWords
set_option autoImplicit false
set_option linter.unusedVariables false
namespace Go.Abs
open Go
/-- what is closed about a function that is handed things of one's own -/
structure OwnFn (w : World0) (f : FuncId) (fn : Func) (sh rs : List Sh) : Prop where
  ext : w.ext f = none
  func : w.P.funcs[f]? = some fn
  body : fn.body.isSome = true
  name : (fn.name == "runtime.NumGoroutine") = false
  pol : ∃ zp zr, (w.an f).pol = .own sh rs zp zr
theorem own_call {w : World0} {f : FuncId} {fn : Func} {sh rs : List Sh} (ho : OwnFn w f fn sh rs) (args : List V) (h : H) (hlen : args.length ≤ fn.ntmps) :
    run w f args h =
      let pin := pinOf sh args
      let sh' := if pin.isSome then sh else sh.map unpin
      let tk := takesL h sh' args
      let gv := givs sh' args
      canonsK h (only gv tk 0 (noLent h)) tk sh' args [] [] fun args' nh _ => graft (kill (tk ++ gv) 0 h) (pin.map (·.2)) (coreOf w f fn rs (pin.map (·.1)) args' nh) := by
  obtain ⟨h1, h2, h3, h4, zp, zr, h5⟩ := ho
  obtain ⟨c, hc⟩ := Option.isSome_iff_exists.1 h3
  rw [run_eq]
  unfold runF
  simp only [h1, h2, hc, h4, h5, hlen, if_true, Bool.false_eq_true, if_false]
  unfold core coreOf cxOf
  simp only [hc, Option.getD_some]
/-- values with no object behind them, where shapes say so -/
def vals : List Sh → List V → Bool
  | [], [] => true
  | .val :: l, v :: vs => flat v && vals l vs
  | _, _ => false
theorem refsOf_flat {v : V} (h : flat v = true) : refsOf v = [] := by
  cases v <;> simp [flat] at h <;> simp [refsOf]
  intro x hx
  have := h x hx
  cases x <;> simp at this <;> rfl
theorem takesL_vals (h : H) : ∀ {l : List Sh} {vs : List V}, vals l vs = true → takesL h l vs = [] ∧ givs l vs = [] ∧ l.map unpin = l
  | [], [], _ => ⟨rfl, rfl, rfl⟩
  | s :: l, v :: vs, hv => by
    cases s <;> simp [vals] at hv
    obtain ⟨a, b, c⟩ := takesL_vals h hv.2
    refine ⟨?_, ?_, ?_⟩
    · simp [takesL, takes, a]
    · simp [givs, refsOf_flat hv.1, b]
    · simp [unpin, c]
  | [], _ :: _, h => by simp [vals] at h
  | _ :: _, [], h => by simp [vals] at h
theorem canonsK_vals (h hk : H) (tk : List Nat) : ∀ {l : List Sh} {vs : List V}, vals l vs = true → ∀ (nh : H) (us : List Nat) (k : List V → H → List Nat → R), canonsK h hk tk l vs nh us k = k vs nh us
  | [], [], _, nh, us, k => rfl
  | s :: l, v :: vs, hv, nh, us, k => by
    cases s <;> simp [vals] at hv
    unfold canonsK canonK
    rw [if_pos hv.1]
    exact canonsK_vals h hk tk hv.2 _ _ _
  | [], _ :: _, h, _, _, _ => by simp [vals] at h
  | _ :: _, [], h, _, _, _ => by simp [vals] at h
theorem kill_nil (i : Nat) : ∀ (h : H), kill [] i h = h
  | [] => rfl
  | o :: h => by simp [kill, kill_nil (i + 1) h]
/-- just values -/
theorem call_vals {w : World0} {f : FuncId} {fn : Func} {sh rs : List Sh} (ho : OwnFn w f fn sh rs) {args : List V} {h : H} (hlen : args.length ≤ fn.ntmps) (hv : vals sh args = true) :
    run w f args h = graft h none (coreOf w f fn rs none args []) := by
  rw [own_call ho args h hlen]
  have hp : pinOf sh args = none := by
    cases sh with
    | nil => rfl
    | cons s l =>
      cases args with
      | nil => simp [vals] at hv
      | cons v vs => cases s <;> simp [vals] at hv; rfl
  obtain ⟨a, b, c⟩ := takesL_vals h hv
  simp only [hp, Option.isSome_none, Bool.false_eq_true, if_false, c, a, b, Option.map_none, List.append_nil]
  rw [canonsK_vals _ _ _ hv, kill_nil]
end Go.Abs
