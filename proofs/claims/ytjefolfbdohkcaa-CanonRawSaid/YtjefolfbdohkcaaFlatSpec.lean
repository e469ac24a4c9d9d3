/-
  What the functions of the document's own constraints answer: statements in order; constraints.
-/
import Derived.Test.YtjefolfbdohkcaaRuleSpec
set_option autoImplicit false
set_option linter.unusedVariables false
set_option linter.unusedSimpArgs false
namespace Go.Proofs.Ytjefolfbdohkcaa
open Go Go.Abs
theorem stmt_kind {l rest : List MStmt} {s : MStmt} {i : Nat} (h : l.drop i = s :: rest) (K : Int → R) : (elem (.lst l.length (stmtsF l)) (i : Int) 7 fun c => atI .u8 (c.drop 0) 0 K) = K s.kind := by
  rw [elem_next MStmt.F_len h, MStmt.F_eq]; simp
theorem stmt_body {l rest : List MStmt} {s : MStmt} {i : Nat} (h : l.drop i = s :: rest) (K : Nat → List F → R) : (elem (.lst l.length (stmtsF l)) (i : Int) 7 fun c => atL (c.drop 6) 0 K) = K s.body.length (stmtsF s.body) := by
  rw [elem_next MStmt.F_len h, MStmt.F_eq]; simp
theorem rflat_loop : ∀ (N : Nat) (body : List MStmt) (hb : body.length < 4611686018427387904) (rest : List MStmt) (i d : Nat) (l : List MItem) (hs : SizeOf.sizeOf rest ≤ N) (hd : body.drop i = rest) (hi : i ≤ body.length) (h1 : l.length + (flats d l.length rest).length ≤ big) (h2 : d ≤ 1000),
    rflat_1 l.length body.length (stmtsF body) d i (itemsF l) = some (.ret (.ref 0 0 (l ++ flats d l.length rest).length 9), [.fz (itemsF (l ++ flats d l.length rest))]) := by
  intro N
  induction N with
  | zero => intro body hb rest i d l hs; cases rest <;> simp at hs
  | succ N ih =>
  intro body hb rest i d l hs hd hi h1 h2
  have hl : (itemsF l).length = l.length * 9 := flat_len MItem.F_len l
  cases rest with
  | nil =>
    have := done_of_drop hd
    rw [rflat_1_eq, if_neg (by simp; omega), if_pos (by rw [hl]; omega), List.drop_zero, List.take_of_length_le (by rw [hl]; omega), flats_nil]
    simp
  | cons s r =>
    have hlt := lt_of_drop hd
    unfold big at h1
    have hsz : 1 ≤ (flats d l.length (s :: r)).length := by have := flats_ge d l.length (s :: r); simp at this; omega
    rw [rflat_1_eq, if_pos (by simp; omega), elem_next MStmt.F_len hd, MStmt.F_eq]
    simp only [List.cons_append, atI_zero, atI_succ, atL_zero, atL_succ, true_and]
    rw [if_pos (by omega), if_pos (by rw [hl]; omega), List.drop_zero, List.take_of_length_le (by rw [hl]; omega)]
    have hc := item_cells l ⟨l.length, d, s⟩
    dsimp only at hc
    rw [hc, stmt_kind hd]
    have hl1 : (itemsF (l ++ [⟨l.length, d, s⟩])).length = (l.length + 1) * 9 := by rw [flat_len MItem.F_len]; simp
    have hl2 : (l ++ [(⟨l.length, d, s⟩ : MItem)]).length = l.length + 1 := by simp
    have plain : ((flats d (l.length + 1) r).length + 1 + l.length ≤ 1000000000000) → (if 0 + ((l.length + 1) * 9) ≤ (itemsF (l ++ [⟨l.length, d, s⟩])).length then rflat_1 (l.length + 1) body.length (stmtsF body) d (IntKind.wrap .i64 ((i : Int) + 1)) (((itemsF (l ++ [⟨l.length, d, s⟩])).drop 0).take ((l.length + 1) * 9)) else none) = some (.ret (.ref 0 0 (l ++ (⟨l.length, d, s⟩ :: flats d (l.length + 1) r)).length 9), [.fz (itemsF (l ++ (⟨l.length, d, s⟩ :: flats d (l.length + 1) r)))]) := by
      intro hh
      rw [if_pos (by rw [hl1]; omega), List.drop_zero, List.take_of_length_le (by rw [hl1]; omega), wrap_i64 (by omega) (by omega)]
      have := ih body hb r (i + 1) d (l ++ [⟨l.length, d, s⟩]) (by simp at hs; omega) (drop_next hd) (by omega) (by rw [hl2]; unfold big; omega) h2
      rw [hl2] at this
      rw [show ((i : Int) + 1) = ((i + 1 : Nat) : Int) by omega, this]
      simp
    by_cases hc7 : s.kind = 7 ∧ d < 1000
    · obtain ⟨hk, hdd⟩ := hc7
      have fc : flats d l.length (s :: r) = _ := (flats_cons d l.length s r).trans (if_pos ⟨hk, hdd⟩)
      rw [fc] at h1 ⊢
      simp only [List.length_cons, List.length_append] at h1
      rw [wrap_i64 (n := (d : Int) + 1) (by omega) (by omega), if_pos (by simp [hk]), if_pos (by simp; omega), stmt_body hd, rflat_r1vv_dz, if_pos (by rw [hl1]; omega), List.drop_zero, List.take_of_length_le (by rw [hl1]; omega), rflat_eq, if_pos (by rw [hl1]; omega), List.drop_zero, List.take_of_length_le (by rw [hl1]; omega)]
      have hbl := flats_ge (d + 1) (l.length + 1) s.body
      have in_ := ih s.body (by omega) s.body 0 (d + 1) (l ++ [⟨l.length, d, s⟩]) (by cases s; simp [MStmt.body] at hs ⊢; omega) rfl (by omega) (by rw [hl2]; unfold big; omega) (by omega)
      rw [hl2] at in_
      have in' : rflat_1 (l.length + 1) s.body.length (stmtsF s.body) ((d : Int) + 1) 0 (itemsF (l ++ [⟨l.length, d, s⟩])) = _ := in_
      rw [in', graft_ref, pO_some]
      generalize hF : flats (d + 1) (l.length + 1) s.body = fl at *
      simp only [List.length_nil, List.length_cons, asRef, asFz, List.nil_append, List.cons_append, List.getElem?_cons_zero, List.getElem?_cons_succ, and_self, true_and, if_true, Option.bind_some, Nat.zero_add]
      have hl3 : (itemsF ((l ++ [(⟨l.length, d, s⟩ : MItem)]) ++ fl)).length = ((l ++ [(⟨l.length, d, s⟩ : MItem)]) ++ fl).length * 9 := flat_len MItem.F_len _
      have hl4 : ((l ++ [(⟨l.length, d, s⟩ : MItem)]) ++ fl).length = l.length + 1 + fl.length := by simp; omega
      rw [if_pos (by rw [hl3]; omega), List.drop_zero, List.take_of_length_le (by rw [hl3]; omega), wrap_i64 (by omega) (by omega)]
      have := ih body hb r (i + 1) d ((l ++ [⟨l.length, d, s⟩]) ++ fl) (by simp at hs; omega) (drop_next hd) (by omega) (by rw [hl4]; unfold big; omega) h2
      rw [show ((i : Int) + 1) = ((i + 1 : Nat) : Int) by omega, this, hl4]
      simp
    · have fc : flats d l.length (s :: r) = _ := (flats_cons d l.length s r).trans (if_neg hc7)
      rw [fc] at h1 ⊢
      simp only [List.length_cons] at h1
      by_cases hk : s.kind = 7
      · rw [wrap_i64 (n := (d : Int) + 1) (by omega) (by omega), if_pos (by simp [hk]), if_neg (by have : ¬ d < 1000 := fun h => hc7 ⟨hk, h⟩; simp; omega)]
        exact plain (by omega)
      · rw [if_neg (by simpa using hk)]
        exact plain (by omega)
theorem rFlat_spec (body : List MStmt) (hb : (flats 0 0 body).length ≤ big) (h0 : H) : run w0 33 [.f (.lst body.length (stmtsF body))] h0 = some (.ret (.f (.lst (flats 0 0 body).length (itemsF (flats 0 0 body)))), h0) := by
  have hge := flats_ge 0 0 body
  rw [rFlat_run, rFlat_eq, rflat_nvv_, rflat_eq, if_pos (by simp)]
  have := rflat_loop _ body (by unfold big at hb; omega) body 0 0 [] (Nat.le_refl _) rfl (by omega) (by simpa using hb) (by omega)
  have h : rflat_1 0 body.length (stmtsF body) 0 0 (([] : List F).drop 0 |>.take (0 * 9)) = _ := this
  rw [h, graft_ref, pO_some]
  have hl : (itemsF (flats 0 0 body)).length = (flats 0 0 body).length * 9 := flat_len MItem.F_len _
  simp only [List.length_nil, List.length_cons, asRef, asFz, List.nil_append, List.cons_append, List.getElem?_cons_zero, List.getElem?_cons_succ, and_self, true_and, if_true, Option.bind_some, Nat.zero_add]
  rw [if_pos (by omega), List.drop_zero, List.take_of_length_le (by rw [hl]; omega), withH_true]
end Go.Proofs.Ytjefolfbdohkcaa
