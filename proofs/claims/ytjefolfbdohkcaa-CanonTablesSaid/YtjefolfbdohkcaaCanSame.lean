/-
  The document's Same of a module and itself.
-/
import Derived.Test.YtjefolfbdohkcaaCanMath
import Derived.Test.YtjefolfbdohkcaaDocSpec2
import Derived.Test.YtjefolfbdohkcaaMakeSpec5
set_option autoImplicit false
set_option linter.unusedVariables false
set_option linter.unusedSimpArgs false
namespace Go.Proofs.Ytjefolfbdohkcaa
open Go Go.Abs
section
variable {l rest : List MStmt} {s : MStmt} {i : Nat} (h : l.drop i = s :: rest)
include h
end
section
variable (m : Abs.Mod)
end
end Go.Proofs.Ytjefolfbdohkcaa
/-
  A module that one owns, as it's handed to functions that only read it; the program is awake.
-/
namespace Go.Proofs.Ytjefolfbdohkcaa
open Go Go.Abs
theorem frz_f (h : H) (d : Nat) (x : F) (hx : frzF x = x) : frz h (d + 1) (.f x) = some x := by simp [frz, hx]
theorem frzK_eq (h : H) (d : Nat) (v : V) {x : F} (e : frz h (d + 1) v = some x) (k : F → R) : frzK h (d + 1) v k = k x := by
  unfold frzK
  split
  · simp [frz] at e; rw [e]
  · rename_i i off n es
    simp only [frz] at e ⊢
    split
    · rename_i cs hc
      simp only [hc] at e
      split at e
      · cases e; rename_i q; rw [if_pos q]
      · cases e
    · rw [e]; rfl
  · rw [e]; rfl
end Go.Proofs.Ytjefolfbdohkcaa
/-
  What the statements of canon run first.
-/
namespace Go.Proofs.Ytjefolfbdohkcaa
open Go Go.Abs
/-- two boxes: the module, and the fault -/
theorem got (h' : H) {x y : List V} (hx : x.length = 4) (hy : y.length = 7) (K : Nat → Nat → H → R) :
    (newO (.cells [nilS, nilS, nilS, nilS]) h' fun k5 h6 => newO (.cells [N .i64 0, N .i64 0, N .i64 0, N .i64 0, N .i64 0, N .i64 0, N .i64 0]) h6 fun k7 h8 => stV (.ptr k5 0) (.agg x) 4 h8 fun h9 => stV (.ptr k7 0) (.agg y) 7 h9 fun h10 => K k5 k7 h10) = K h'.length (h'.length + 1) (h' ++ [.cells x, .cells y]) := by
  simp only [newO_eq, List.append_assoc, List.cons_append, List.nil_append, List.length_append, List.length_cons, List.length_nil, Nat.zero_add]
  have g0 : ∀ (t : H) (j : Nat) (a : Ob), t[j]? = some a → (h' ++ t)[h'.length + j]? = some a := fun t j a e => by rw [get_tail]; exact e
  have g00 : ∀ (a : Ob) (t : H), (h' ++ a :: t)[h'.length]? = some a := fun a t => by simp
  rw [stV_c (n := 4) (off := 0) (l := x) rfl (g00 _ _) hx (by simp), splice_all (by rw [hx]; rfl)]
  have e1 : (h' ++ [Ob.cells [nilS, nilS, nilS, nilS], Ob.cells [N .i64 0, N .i64 0, N .i64 0, N .i64 0, N .i64 0, N .i64 0, N .i64 0]]).set h'.length (.cells x) = h' ++ [Ob.cells x, Ob.cells [N .i64 0, N .i64 0, N .i64 0, N .i64 0, N .i64 0, N .i64 0, N .i64 0]] := by
    simp
  rw [e1]
  rw [stV_c (n := 7) (off := 0) (l := y) rfl (g0 _ 1 _ rfl) hy (by simp), splice_all (by rw [hy]; rfl), set_tail]
  rfl
theorem got0 (h' : H) (a b : Ob) : (h' ++ [a, b])[h'.length]? = some a := by simp
theorem got1 (h' : H) (a b : Ob) : (h' ++ [a, b])[h'.length + 1]? = some b := by simp
/-! ### awake -/
def mA : Abs.Mod := ⟨[⟨#[98]⟩, ⟨#[99]⟩, ⟨#[97]⟩], [2, 0], [], []⟩
def vA : List V := [.lit 3 [S (⟨#[98]⟩ : ByteArray), S (⟨#[99]⟩ : ByteArray), S (⟨#[97]⟩ : ByteArray)], .lit 2 [N .i64 2, N .i64 0], nilS, nilS]
theorem argA : ArgM vA mA := ⟨⟨_, _, _, _, rfl, ⟨_, fun K => rfl, rfl, fun h K => rfl⟩, ⟨_, fun K => rfl, rfl, fun h K => rfl⟩, arg_nil, arg_nil⟩, fun h K => rfl, rfl⟩
theorem treeA : treeR mA = none := by decide +kernel
theorem stringsA : (canonM mA).strings = [⟨#[97]⟩, ⟨#[98]⟩] := by decide +kernel
theorem globalsA : (canonM mA).globals = [0, 1] := by decide +kernel
theorem okA : okC mA := ⟨by decide, by decide, by decide, by decide, fun f hf => by cases hf⟩
theorem argsA : argsOk mA := fun f hf => by cases hf
theorem cawake_core : cawake_0 = some (.ret (B true), []) := by
  obtain ⟨h', v, e1, e2, e3⟩ := canonOf_said argA okA argsA treeA []
  have hs := e2.s
  have hg := e2.g
  rw [globalsA] at hg
  have hsv : saidV (([] : H).length + 4) v (canonM mA) = [v, .ref (([] : H).length + 4 + 3) 0 2 1, .ref (([] : H).length + 4 + 5) 0 0 5, .ref (([] : H).length + 4 + 4) 0 0 1] := by
    unfold saidV; rw [globalsA]; rfl
  rcases hs with ⟨h1, _⟩ | ⟨kA, cs, rfl, h2, h3⟩
  · rw [stringsA] at h1; cases h1
  rw [stringsA] at h3 hsv e1
  rw [cawake_eq]
  rw [show [V.agg [.lit 3 [S (⟨#[98]⟩ : ByteArray), S (⟨#[99]⟩ : ByteArray), S (⟨#[97]⟩ : ByteArray)], .lit 2 [N .i64 2, N .i64 0], nilS, nilS]] = [.agg vA] from rfl]
  rw [e1, kV_some]
  simp only [tpV_tup, List.getElem?_cons_zero, List.getElem?_cons_succ, Option.bind_some]
  rw [got h' (by rw [hsv]; rfl) rfl, hsv]
  rw [gI_c (got1 _ _ _) rfl, if_pos (by rfl)]
  rw [gL_c (got0 _ _ _) rfl]
  simp only [coeSl_ref, lnV_ref]
  rw [if_pos (by rfl), gL_c (got0 _ _ _) rfl]
  simp only [coeSl_ref, lnV_ref]
  rw [idx_ref u25 s9 (by omega) (by decide)]
  have h0 : cs[0]? = some (.s (.string ⟨#[97]⟩)) := by
    have := congrArg (fun l => l[0]?) h3
    simpa [sF] using this
  rw [gS_z (get_app h2 _) (s := ⟨#[97]⟩) (by simpa using h0), if_pos (by simp)]
  rw [gL_c (got0 _ _ _) rfl]
  simp only [coeSl_ref, lnV_ref]
  rw [if_pos (by rfl), gL_c (got0 _ _ _) rfl]
  simp only [coeSl_ref, lnV_ref]
  rw [idx_ref u27 s3 (by omega) (by decide)]
  rw [gI_z (i := 1) (get_app hg _) rfl]
  rfl
theorem cawake_spec (h : H) : run w0 8 [] h = some (.ret (B true), h) := by
  rw [cawake_run]
  show withH true h cawake_0 = _
  rw [cawake_core, withH_true]
end Go.Proofs.Ytjefolfbdohkcaa
