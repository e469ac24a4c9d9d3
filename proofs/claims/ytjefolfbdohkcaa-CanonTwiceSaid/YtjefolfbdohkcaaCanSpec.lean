/-
  Copies of lists, of statements.
-/
import Derived.Test.YtjefolfbdohkcaaEqCanon
import Derived.Test.YtjefolfbdohkcaaMods
import Derived.Test.YtjefolfbdohkcaaAbsFoldL
set_option autoImplicit false
set_option linter.unusedVariables false
set_option linter.unusedSimpArgs false
namespace Go.Proofs.Ytjefolfbdohkcaa
open Go Go.Abs
theorem both_one (r : Out × H) : both (some r) (some r) = some r := by
  unfold both
  split
  · rename_i x y h1 h2
    cases h1; cases h2
    split
    · rfl
    · exact if_pos rfl
  · rename_i h; exact absurd rfl (h _ _ rfl)
theorem own_cloneI : OwnFn w0 46 Try.f46 [.val] [.own 1] := ⟨rfl, by kernel_rfl, rfl, by kernel_rfl, _, _, rfl⟩
theorem own_cloneS : OwnFn w0 38 Try.f38 [.val] [.own 1] := ⟨rfl, by kernel_rfl, rfl, by kernel_rfl, _, _, rfl⟩
theorem own_cloneF : OwnFn w0 47 Try.f47 [.val] [.own 5] := ⟨rfl, by kernel_rfl, rfl, by kernel_rfl, _, _, rfl⟩
theorem own_cloneB : OwnFn w0 61 Try.f61 [.val] [.own 7] := ⟨rfl, by kernel_rfl, rfl, by kernel_rfl, _, _, rfl⟩
theorem clone_lem {es by_ n : Nat} {c : List F} (hc : c.length = n * es) (hb : n * by_ ≤ 140737488355328) (h0 : 0 < es) (h1 : 0 < by_) (f : Nat → List F → Out × H) :
    (if n = 0 then both (some (f 0 [])) (if 0 < es ∧ c.length = n * es ∧ 0 < by_ then if es = es ∧ (0 + n) * by_ ≤ 140737488355328 then if 0 + ((0 + n) * es) ≤ (([]) ++ c).length then some (f (0 + n) (((([]) ++ c).drop 0).take ((0 + n) * es))) else none else none else none)
      else if 0 < es ∧ c.length = n * es ∧ 0 < by_ then if es = es ∧ (0 + n) * by_ ≤ 140737488355328 then if 0 + ((0 + n) * es) ≤ (([]) ++ c).length then some (f (0 + n) (((([]) ++ c).drop 0).take ((0 + n) * es))) else none else none else none) = some (f n c) := by
  have e1 : (if 0 < es ∧ c.length = n * es ∧ 0 < by_ then if es = es ∧ (0 + n) * by_ ≤ 140737488355328 then if 0 + ((0 + n) * es) ≤ (([]) ++ c).length then some (f (0 + n) (((([]) ++ c).drop 0).take ((0 + n) * es))) else none else none else none) = some (f n c) := by
    simp only [Nat.zero_add, List.nil_append, List.drop_zero]
    rw [if_pos ⟨h0, hc, h1⟩, if_pos ⟨trivial, hb⟩, if_pos (by omega)]
    rw [List.take_of_length_le (by omega)]
  rw [e1]
  by_cases hn : n = 0
  · subst hn
    have : c = [] := by simpa using hc
    subst this
    rw [if_pos rfl, both_one]
  · rw [if_neg hn]
theorem cloneI_any {n : Nat} {c : List F} (h : H) (hc : c.length = n) (hb : n ≤ 1000000000000) : run w0 46 [.f (.lst n c)] h = some (.ret (.ref h.length 0 n 1), h ++ [.fz c]) := by
  rw [call_vals own_cloneI (of_decide_eq_true (by kernel_rfl)) rfl]
  rw [show coreOf w0 46 Try.f46 [.own 1] none [.f (.lst n c)] [] = cloneI_0 n c from rfl, cloneI_eq]
  rw [clone_lem (es := 1) (by_ := 8) (by omega) (by omega) (by omega) (by omega) (fun m l => (.ret (.ref 0 0 m 1), [.fz l])), graft_ref]
theorem cloneS_any {n : Nat} {c : List F} (h : H) (hc : c.length = n) (hb : n ≤ 1000000000000) : run w0 38 [.f (.lst n c)] h = some (.ret (.ref h.length 0 n 1), h ++ [.fz c]) := by
  rw [call_vals own_cloneS (of_decide_eq_true (by kernel_rfl)) rfl]
  rw [show coreOf w0 38 Try.f38 [.own 1] none [.f (.lst n c)] [] = cloneS_0 n c from rfl, cloneS_eq]
  rw [clone_lem (es := 1) (by_ := 16) (by omega) (by omega) (by omega) (by omega) (fun m l => (.ret (.ref 0 0 m 1), [.fz l])), graft_ref]
theorem cloneF_any {n : Nat} {c : List F} (h : H) (hc : c.length = n * 5) (hb : n ≤ 1000000000) : run w0 47 [.f (.lst n c)] h = some (.ret (.ref h.length 0 n 5), h ++ [.fz c]) := by
  rw [call_vals own_cloneF (of_decide_eq_true (by kernel_rfl)) rfl]
  rw [show coreOf w0 47 Try.f47 [.own 5] none [.f (.lst n c)] [] = cloneF_0 n c from rfl, cloneF_eq]
  rw [clone_lem (es := 5) (by_ := 88) hc (by omega) (by omega) (by omega) (fun m l => (.ret (.ref 0 0 m 5), [.fz l])), graft_ref]
theorem cloneB_any {n : Nat} {c : List F} (h : H) (hc : c.length = n * 7) (hb : n ≤ 1000000000) : run w0 61 [.f (.lst n c)] h = some (.ret (.ref h.length 0 n 7), h ++ [.fz c]) := by
  rw [call_vals own_cloneB (of_decide_eq_true (by kernel_rfl)) rfl]
  rw [show coreOf w0 61 Try.f61 [.own 7] none [.f (.lst n c)] [] = cloneB_0 n c from rfl, cloneB_eq]
  rw [clone_lem (es := 7) (by_ := 88) hc (by omega) (by omega) (by omega) (fun m l => (.ret (.ref 0 0 m 7), [.fz l])), graft_ref]
theorem cloneR_any {n : Nat} {c : List F} (h : H) (hc : c.length = n * 2) (hb : n ≤ 1000000000) : run w0 62 [.f (.lst n c)] h = some (.ret (.f (.lst n c)), h) := by
  rw [cloneR_run, cloneR_eq]
  rw [clone_lem (es := 2) (by_ := 16) hc (by omega) (by omega) (by omega) (fun m l => (.ret (.f (.lst m l)), [])), withH_true]
/-! ### statements -/
mutual
/-- lists of no more than a thousand, whatever stands in whatever -/
def okS : MStmt → Prop
  | .mk _ _ _ args body => args.length ≤ 1000 ∧ body.length ≤ 1000 ∧ okB body
def okB : List MStmt → Prop
  | [] => True
  | s :: r => okS s ∧ okB r
end
theorem okB_mem : ∀ {l : List MStmt} {s : MStmt}, okB l → s ∈ l → okS s
  | a :: l, s, h, hm => by
    unfold okB at h
    rcases List.mem_cons.1 hm with rfl | hm
    · exact h.1
    · exact okB_mem h.2 hm
theorem okS_parts {s : MStmt} (h : okS s) : s.args.length ≤ 1000 ∧ s.body.length ≤ 1000 ∧ okB s.body := by
  cases s; unfold okS at h; exact h
theorem sz_mem : ∀ {l : List MStmt} {s : MStmt}, s ∈ l → SizeOf.sizeOf s.body < SizeOf.sizeOf l := by
  intro l s hm
  have h1 : SizeOf.sizeOf s < SizeOf.sizeOf l := List.sizeOf_lt_of_mem hm
  have h2 : SizeOf.sizeOf s.body < SizeOf.sizeOf s := by cases s; simp [MStmt.body]; omega
  omega
theorem refs_len (l : List MRef) : (refsF l).length = l.length * 2 := flat_len MRef.F_len l
theorem stmts_len (l : List MStmt) : (stmtsF l).length = l.length * 7 := flat_len MStmt.F_len l
theorem stmts_get {l rest : List MStmt} {s : MStmt} {i : Nat} (h : l.drop i = s :: rest) (j : Nat) (hj : j < 7) : (stmtsF l)[i * 7 + j]? = s.F[j]? := by
  have : (stmtsF l).drop (i * 7) = s.F ++ stmtsF rest := by rw [flat_drop MStmt.F_len, h, stmtsF, List.flatMap_cons]
  rw [← List.getElem?_drop, this, List.getElem?_append_left (by rw [MStmt.F_len]; exact hj)]
theorem atL_of {cs : List F} {j n : Nat} {l : List F} (h : cs[j]? = some (.lst n l)) (K : Nat → List F → R) : atL cs j K = K n l := by
  simp [atL, h, F.sl?]
theorem set_self {α : Type} {l : List α} {i : Nat} {x : α} (h : l[i]? = some x) : l.set i x = l := by
  apply List.ext_getElem?
  intro j
  by_cases hj : i = j
  · subst hj
    rw [List.getElem?_set_self (List.getElem?_eq_some_iff.1 h).1, h]
  · rw [List.getElem?_set_ne hj]
theorem modbody_spec (k : Nat) : ∀ (l : List MStmt), SizeOf.sizeOf l ≤ k → l.length ≤ 1000 → okB l → ∀ h : H, run w0 48 [.f (.lst l.length (stmtsF l))] h = some (.ret (.f (.lst l.length (stmtsF l))), h) := by
  induction k with
  | zero => intro l hl; cases l <;> simp at hl
  | succ k ih =>
    intro l hl hlen hok h
    have loop : ∀ (rest : List MStmt) (i : Nat), l.drop i = rest → i ≤ l.length → modbody_1 l.length l.length i (stmtsF l) = some (.ret (.f (.lst l.length (stmtsF l))), []) := by
      intro rest
      induction rest with
      | nil =>
        intro i hd hi
        have := done_of_drop hd
        rw [modbody_1_eq, if_neg (by simp; omega), if_pos (by rw [stmts_len]; omega)]
        rw [List.drop_zero, List.take_of_length_le (by rw [stmts_len]; omega)]
      | cons s rest ihr =>
        intro i hd hi
        have hlt := lt_of_drop hd
        have hm : s ∈ l := by have : s ∈ l.drop i := by rw [hd]; simp
                              exact List.mem_of_mem_drop this
        obtain ⟨o1, o2, o3⟩ := okS_parts (okB_mem hok hm)
        have g5 : (stmtsF l)[i * 7 + 5]? = some (.lst s.args.length (refsF s.args)) := by rw [stmts_get hd 5 (by omega), MStmt.F_eq]; rfl
        have g6 : (stmtsF l)[i * 7 + 6]? = some (.lst s.body.length (stmtsF s.body)) := by rw [stmts_get hd 6 (by omega), MStmt.F_eq]; rfl
        have hsz := sz_mem hm
        rw [modbody_1_eq, if_pos (by simp; omega), if_pos ⟨rfl, by omega, by omega⟩]
        simp only [Nat.zero_add, Int.toNat_natCast]
        rw [atL_of g5, cloneR_any _ (refs_len _) (by omega), pL_some, if_pos ⟨trivial, by omega, by omega⟩, atL_of g6, ih s.body (by omega) o2 o3, pL_some]
        simp only [set_self g5, set_self g6]
        rw [if_pos ⟨trivial, by omega, by omega⟩, if_pos (by rw [stmts_len]; omega), if_pos ⟨trivial, by omega, by omega⟩, if_pos (by rw [stmts_len]; omega), if_pos (by rw [stmts_len]; omega)]
        rw [List.drop_zero, List.take_of_length_le (by rw [stmts_len]; omega), wrap_i64 (by omega) (by omega)]
        have := ihr (i + 1) (drop_next hd) (by omega)
        rw [show ((i : Int) + 1) = ((i + 1 : Nat) : Int) by omega]
        exact this
    rw [modbody_run, modbody_eq, cloneB_any _ (stmts_len l) (by omega)]
    simp only [List.length_nil, List.nil_append, pO_some, asRef, asFz]
    have := loop l 0 rfl (by omega)
    rw [if_pos ⟨trivial, trivial⟩]
    simp only [Option.bind_some, List.getElem?_cons_zero, List.length_cons, List.length_nil, Nat.zero_add, if_true]
    rw [if_pos (by rw [stmts_len]; omega), List.drop_zero, List.take_of_length_le (by rw [stmts_len]; omega), show modbody_1 l.length (l.length : Int) 0 (stmtsF l) = _ from this, withH_true]
end Go.Proofs.Ytjefolfbdohkcaa
