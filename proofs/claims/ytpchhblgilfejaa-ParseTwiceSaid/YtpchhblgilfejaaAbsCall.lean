/-
  Calls of functions that are handed rows of one's own, in any heap.
-/
import Derived.Test.YtpchhblgilfejaaAbsWords
set_option autoImplicit false
set_option linter.unusedVariables false
namespace Go.Abs
open Go

/-- what is closed about a function that is handed things of one's own -/
structure OwnFn (w : World0) (f : FuncId) (fn : Func) (sh rs : List Sh) : Prop where
  ext : w.ext f = none
  func : w.P.funcs[f]? = some fn
  body : fn.body.isSome = true
  name : (fn.name == "runtime.NumGoroutine") = false
  pol : ∃ zp zr, (w.an f).pol = .own sh rs zp zr
theorem own_call {w : World0} {f : FuncId} {fn : Func} {sh rs : List Sh} (ho : OwnFn w f fn sh rs) (args : List V) (h : H) (hlen : args.length ≤ fn.ntmps) :
    run w f args h =
      let pin := pinOf sh args
      let sh' := if pin.isSome then sh else sh.map unpin
      let tk := takesL h sh' args
      let gv := givs sh' args
      canonsK h (only gv tk 0 (noLent h)) tk sh' args [] [] fun args' nh _ => graft (kill (tk ++ gv) 0 h) (pin.map (·.2)) (coreOf w f fn rs (pin.map (·.1)) args' nh) := by
  obtain ⟨h1, h2, h3, h4, zp, zr, h5⟩ := ho
  obtain ⟨c, hc⟩ := Option.isSome_iff_exists.1 h3
  rw [run_eq]
  unfold runF
  simp only [h1, h2, hc, h4, h5, hlen, if_true, Bool.false_eq_true, if_false]
  unfold core coreOf cxOf
  simp only [hc, Option.getD_some]
/-- values with no object behind them, where shapes say so -/
def vals : List Sh → List V → Bool
  | [], [] => true
  | .val :: l, v :: vs => flat v && vals l vs
  | _, _ => false
theorem refsOf_flat {v : V} (h : flat v = true) : refsOf v = [] := by
  cases v <;> simp [flat] at h <;> simp [refsOf]
  intro x hx
  have := h x hx
  cases x <;> simp at this <;> rfl
theorem takesL_vals (h : H) : ∀ {l : List Sh} {vs : List V}, vals l vs = true → takesL h l vs = [] ∧ givs l vs = [] ∧ l.map unpin = l
  | [], [], _ => ⟨rfl, rfl, rfl⟩
  | s :: l, v :: vs, hv => by
    cases s <;> simp [vals] at hv
    obtain ⟨a, b, c⟩ := takesL_vals h hv.2
    refine ⟨?_, ?_, ?_⟩
    · simp [takesL, takes, a]
    · simp [givs, refsOf_flat hv.1, b]
    · simp [unpin, c]
  | [], _ :: _, h => by simp [vals] at h
  | _ :: _, [], h => by simp [vals] at h
theorem canonsK_vals (h hk : H) (tk : List Nat) : ∀ {l : List Sh} {vs : List V}, vals l vs = true → ∀ (nh : H) (us : List Nat) (k : List V → H → List Nat → R), canonsK h hk tk l vs nh us k = k vs nh us
  | [], [], _, nh, us, k => rfl
  | s :: l, v :: vs, hv, nh, us, k => by
    cases s <;> simp [vals] at hv
    unfold canonsK canonK
    rw [if_pos hv.1]
    exact canonsK_vals h hk tk hv.2 _ _ _
  | [], _ :: _, h, _, _, _ => by simp [vals] at h
  | _ :: _, [], h, _, _, _ => by simp [vals] at h
theorem kill_nil (i : Nat) : ∀ (h : H), kill [] i h = h
  | [] => rfl
  | o :: h => by simp [kill, kill_nil (i + 1) h]
theorem kill_one (k : Nat) : ∀ (i : Nat) (h : H), i ≤ k → (∀ cs, h[k - i]? ≠ some (.lent cs)) → kill [k] i h = h.set (k - i) .dead
  | i, [], _, _ => by simp [kill]
  | i, o :: h, hi, hn => by
    unfold kill
    by_cases e : i = k
    · subst e
      have ho : o.isLent = false := by
        cases o with
        | lent cs => exact absurd (by simp) (hn cs)
        | _ => rfl
      simp [ho]
      have : ∀ (j : Nat) (h : H), i < j → kill [i] j h = h := by
        intro j h
        induction h generalizing j with
        | nil => intro _; rfl
        | cons o h ih =>
          intro hj
          unfold kill
          rw [ih (j + 1) (by omega)]
          simp; omega
      rw [this (i + 1) h (by omega)]
    · rw [kill_one k (i + 1) h (by omega) (fun cs hc => hn cs (by rw [show k - i = (k - (i + 1)) + 1 by omega, List.getElem?_cons_succ]; exact hc)), if_neg (by simp; intro q; exact absurd q e), show k - i = (k - (i + 1)) + 1 by omega, List.set_cons_succ]
theorem only_one (k : Nat) : ∀ (i : Nat) (h : H) (o : Ob), h[k - i]? = some o → i ≤ k → (only [k] [] i h)[k - i]? = some o
  | i, [], o, ho, _ => by simp at ho
  | i, p :: h, o, ho, hi => by
    unfold only
    by_cases e : i = k
    · subst e; simp at ho ⊢; exact ho
    · rw [show k - i = (k - (i + 1)) + 1 by omega] at ho ⊢
      rw [List.getElem?_cons_succ] at ho ⊢
      exact only_one k (i + 1) h o ho (by omega)

/-- just values -/
theorem call_vals {w : World0} {f : FuncId} {fn : Func} {sh rs : List Sh} (ho : OwnFn w f fn sh rs) {args : List V} {h : H} (hlen : args.length ≤ fn.ntmps) (hv : vals sh args = true) :
    run w f args h = graft h none (coreOf w f fn rs none args []) := by
  rw [own_call ho args h hlen]
  have hp : pinOf sh args = none := by
    cases sh with
    | nil => rfl
    | cons s l =>
      cases args with
      | nil => simp [vals] at hv
      | cons v vs => cases s <;> simp [vals] at hv; rfl
  obtain ⟨a, b, c⟩ := takesL_vals h hv
  simp only [hp, Option.isSome_none, Bool.false_eq_true, if_false, c, a, b, Option.map_none, List.append_nil]
  rw [canonsK_vals _ _ _ hv, kill_nil]
/-- a row of frozen cells, and values: the row goes over -/
theorem call_row {w : World0} {f : FuncId} {fn : Func} {es : Nat} {l rs : List Sh} (ho : OwnFn w f fn (.own es :: l) rs) {k off m : Nat} {xs : List V} {h : H} {cs : List F} (hk : h[k]? = some (.fz cs)) (hm : off + m * es ≤ cs.length) (hlen : xs.length + 1 ≤ fn.ntmps) (hv : vals l xs = true) :
    run w f (.ref k off m es :: xs) h = graft (h.set k .dead) none (coreOf w f fn rs none (.ref 0 0 m es :: xs) [.fz ((cs.drop off).take (m * es))]) := by
  rw [own_call ho _ h (by simpa using hlen)]
  obtain ⟨a, b, c⟩ := takesL_vals h hv
  have hp : pinOf (.own es :: l) (.ref k off m es :: xs) = none := rfl
  have ht : takesL h (.own es :: l) (.ref k off m es :: xs) = [k] := by simp [takesL, takes, a]
  have hg : givs (.own es :: l) (.ref k off m es :: xs) = [] := by simp [givs, b]
  simp only [hp, Option.isSome_none, Bool.false_eq_true, if_false, List.map_cons, unpin, c, ht, hg, Option.map_none, List.append_nil]
  unfold canonsK canonK
  simp only [hk]
  rw [if_pos (by simp), if_pos hm, canonsK_vals _ _ _ hv, kill_one k 0 h (by omega) (fun cs hc => by rw [Nat.sub_zero, hk] at hc; cases hc)]
  simp
/-- a row of frozen cells, handed over as a value -/
theorem call_give {w : World0} {f : FuncId} {fn : Func} {l rs : List Sh} (ho : OwnFn w f fn (.val :: l) rs) {k off m es : Nat} {xs : List V} {h : H} {cs : List F} (hk : h[k]? = some (.fz cs)) (hm : off + m * es ≤ cs.length) (hlen : xs.length + 1 ≤ fn.ntmps) (hv : vals l xs = true) :
    run w f (.ref k off m es :: xs) h = graft (h.set k .dead) none (coreOf w f fn rs none (.f (.lst m ((cs.drop off).take (m * es))) :: xs) []) := by
  rw [own_call ho _ h (by simpa using hlen)]
  obtain ⟨a, b, c⟩ := takesL_vals h hv
  have hp : pinOf (.val :: l) (.ref k off m es :: xs) = none := rfl
  have ht : takesL h (.val :: l) (.ref k off m es :: xs) = [] := by simp [takesL, takes, a]
  have hg : givs (.val :: l) (.ref k off m es :: xs) = [k] := by simp [givs, refsOf, b]
  have h1 : (only [k] [] 0 (noLent h))[k]? = some (.fz cs) := by
    have := only_one k 0 (noLent h) (.fz cs) (by rw [Nat.sub_zero, noLent_get, hk]; rfl) (by omega)
    simpa using this
  simp only [hp, Option.isSome_none, Bool.false_eq_true, if_false, List.map_cons, unpin, c, ht, hg, Option.map_none, List.nil_append]
  unfold canonsK canonK
  rw [if_neg (by simp [flat])]
  unfold frz1K
  simp only [h1]
  rw [if_pos hm, canonsK_vals _ _ _ hv, kill_one k 0 h (by omega) (fun cs hc => by rw [Nat.sub_zero, hk] at hc; cases hc)]
  simp
theorem canonsK_cells (h hk : H) (tk : List Nat) : ∀ {l : List Sh} {cs : List V}, vals l cs = true → ∀ (nh : H) (us : List Nat) (k : List V → H → List Nat → R), canonsK h hk tk l cs nh us k = k cs nh us := fun hv => canonsK_vals h hk tk hv
theorem takes_cells (h : H) : ∀ {l : List Sh} {cs : List V}, vals l cs = true → takes.takesL h l cs = []
  | [], [], _ => rfl
  | s :: l, v :: vs, hv => by
    cases s <;> simp [vals] at hv
    simp [takes.takesL, takes, takes_cells h hv.2]
  | [], _ :: _, h => by simp [vals] at h
  | _ :: _, [], h => by simp [vals] at h
/-- a pointer to cells that are values: pinned -/
theorem call_pin {w : World0} {f : FuncId} {fn : Func} {q l rs : List Sh} (ho : OwnFn w f fn (.pin q :: l) rs) {k : Nat} {xs : List V} {h : H} {cs : List V} (hk : h[k]? = some (.cells cs)) (hq : vals q cs = true) (hlen : xs.length + 1 ≤ fn.ntmps) (hv : vals l xs = true) :
    run w f (.ptr k 0 :: xs) h = graft (h.set k .dead) (some k) (coreOf w f fn rs (some q) (.ptr 0 0 :: xs) [.cells cs]) := by
  rw [own_call ho _ h (by simpa using hlen)]
  obtain ⟨a, b, c⟩ := takesL_vals h hv
  have hp : pinOf (.pin q :: l) (.ptr k 0 :: xs) = some (q, k) := rfl
  have ht : takesL h (.pin q :: l) (.ptr k 0 :: xs) = [k] := by simp [takesL, takes, hk, takes_cells h hq, a]
  have hg : givs (.pin q :: l) (.ptr k 0 :: xs) = [] := by simp [givs, b]
  simp only [hp, Option.isSome_some, if_true, ht, hg, Option.map_some, List.append_nil]
  unfold canonsK canonK
  simp only [hk]
  rw [if_pos (by simp), canonsK_vals _ _ _ hq, canonsK_vals _ _ _ hv, kill_one k 0 h (by omega) (fun cs hc => by rw [Nat.sub_zero, hk] at hc; cases hc)]
  simp
/-- likewise, where the pointer stands in a structure of its own -/
theorem call_apin {w : World0} {f : FuncId} {fn : Func} {q l rs : List Sh} (ho : OwnFn w f fn (.apin q :: l) rs) {k : Nat} {xs : List V} {h : H} {cs : List V} (hk : h[k]? = some (.cells cs)) (hq : vals q cs = true) (hlen : xs.length + 1 ≤ fn.ntmps) (hv : vals l xs = true) :
    run w f (.agg [.ptr k 0] :: xs) h = graft (h.set k .dead) (some k) (coreOf w f fn rs (some q) (.agg [.ptr 0 0] :: xs) [.cells cs]) := by
  rw [own_call ho _ h (by simpa using hlen)]
  obtain ⟨a, b, c⟩ := takesL_vals h hv
  have hp : pinOf (.apin q :: l) (.agg [.ptr k 0] :: xs) = some (q, k) := rfl
  have ht : takesL h (.apin q :: l) (.agg [.ptr k 0] :: xs) = [k] := by simp [takesL, takes, hk, takes_cells h hq, a]
  have hg : givs (.apin q :: l) (.agg [.ptr k 0] :: xs) = [] := by simp [givs, b]
  simp only [hp, Option.isSome_some, if_true, ht, hg, Option.map_some, List.append_nil]
  unfold canonsK canonK
  have hcn : canons h (only [] [k] 0 (noLent h)) [k] q cs [.dead] [k] = some (cs, [.dead], [k]) := by
    have : ∀ (q : List Sh) (cs : List V), vals q cs = true → ∀ nh us, canons h (only [] [k] 0 (noLent h)) [k] q cs nh us = some (cs, nh, us) := by
      intro q
      induction q with
      | nil => intro cs hv nh us; cases cs with
        | nil => rfl
        | cons c cs => simp [vals] at hv
      | cons s q ih => intro cs hv nh us; cases cs with
        | nil => simp [vals] at hv
        | cons c cs =>
          cases s <;> simp [vals] at hv
          unfold canons canon
          rw [if_pos hv.1]
          simp only [Option.bind_some, ih cs hv.2]
    exact this q cs hq _ _
  unfold canon
  simp only [hk]
  rw [if_pos (by simp), hcn]
  simp only [Option.bind_some]
  rw [canonsK_vals _ _ _ hv, kill_one k 0 h (by omega) (fun cs hc => by rw [Nat.sub_zero, hk] at hc; cases hc)]
  simp
theorem graft_ref' (h : H) (m es : Nat) (c : List F) : graft h none (some (.ret (.ref 0 0 m es), [.fz c])) = some (.ret (.ref h.length 0 m es), h ++ [.fz c]) := graft_ref h m es c
theorem graft_f (h : H) (x : F) : graft h none (some (.ret (.f x), [])) = some (.ret (.f x), h) := by simp [graft, ren]
theorem ren_fs (m : Nat → Nat) : ∀ l : List F, rens m (l.map .f) = l.map .f
  | [] => rfl
  | x :: l => by simp [rens, ren, ren_fs m l]
theorem graft_pin (h : H) (k : Nat) (x : V) (cs : List V) (hx : ∀ m, ren m x = x) (hcs : ∀ m, rens m cs = cs) : graft h (some k) (some (.ret x, [.cells cs])) = some (.ret x, h.set k (.cells cs)) := by
  simp [graft, hx, renO, hcs]
end Go.Abs
