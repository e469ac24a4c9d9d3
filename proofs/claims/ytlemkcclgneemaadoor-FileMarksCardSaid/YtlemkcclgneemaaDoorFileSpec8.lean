/-
  A system made of a draft: it is right.
-/
import Derived.Test.YtlemkcclgneemaaDoorFileSpec7
set_option autoImplicit false
set_option linter.unusedVariables false
set_option linter.unusedSimpArgs false
namespace Go.Proofs.YtlemkcclgneemaaDoor
open Go Go.Abs

/-- a right system is told -/
def good (X : R) : Prop := ∃ s : MSys, rightR s = true ∧ X = some (.ret (.agg (sysV s)), [])
theorem good_ite {c : Prop} [Decidable c] {A Z : R} (h1 : c → good A) (h2 : ¬ c → good Z) : good (if c then A else Z) := by split <;> simp_all
theorem tm {x v : Int} (hx : 0 ≤ x) (hv : 0 < v) : 0 ≤ Int.tmod x v ∧ Int.tmod x v < v := ⟨Int.tmod_nonneg _ hx, Int.tmod_lt_of_pos _ hv⟩
theorem td {x : Int} (hx : 0 ≤ x) (k : Int) : Int.tdiv x k = x / k := Int.tdiv_eq_ediv_of_nonneg hx
abbrev Quad := Int × Int × Int × Int
abbrev Quad.F (q : Quad) : List F := [.s (.int .u8 q.1), .s (.int .u8 q.2.1), .s (.int .u8 q.2.2.1), .s (.int .u8 q.2.2.2)]
abbrev quadsF (l : List Quad) : List F := l.flatMap Quad.F
theorem Quad.F_len (q : Quad) : q.F.length = 4 := rfl
def byteI (n : Int) : Prop := 0 ≤ n ∧ n ≤ 255
def okQ (q : Quad) : Prop := byteI q.1 ∧ byteI q.2.1 ∧ byteI q.2.2.1 ∧ byteI q.2.2.2
theorem inRR {x a b : Int} (h1 : a ≤ x) (h2 : x < b) : inR x a b = true := inR_iff.2 ⟨h1, h2⟩

theorem mk2 (d1 d2 : Int) (hd : byteI d2) (m : Nat) (cc : List F) (n i z vars : Int) (hi : 0 ≤ i ∧ i ≤ 7) (hv : 0 < vars ∧ vars ≤ 12) (done : List MCell) (fn : Bool) (var : Int)
    (go : ∀ ar : List Int, (∀ x ∈ ar, inR x 0 vars = true) → ar.length ≤ 6 → (fn = true ∨ ar = []) → good (sMake_4 d1 d2 m cc n i z vars done.length (cellsF done) fn var ar.length (kF .i64 ar))) :
    ∀ (k j : Nat) (ar : List Int), j + k = 3 → ar.length = j → (∀ x ∈ ar, inR x 0 vars = true) → (fn = true ∨ ar = []) →
      good (sMake_2 d1 d2 m cc n i j z vars done.length (cellsF done) fn var ar.length (kF .i64 ar)) := by
  intro k
  induction k with
  | zero =>
    intro j ar hj hlen hin hfn
    have hl3 : (cellsF done).length = done.length * 3 := flat_len MCell.F_len done
    have t3 := tm hi.1 (show (0 : Int) < 3 by decide)
    have g := go ar hin (by omega) hfn
    rw [sMake_2_eq]
    simp only [Nat.zero_add, List.drop_zero, Nat.mul_one]
    have c1 : done.length * 3 ≤ (cellsF done).length := by omega
    have c2 : ar.length ≤ (kF .i64 ar).length := by simp
    have t1 : (cellsF done).take (done.length * 3) = cellsF done := List.take_of_length_le (by omega)
    have t2 : (kF .i64 ar).take ar.length = kF .i64 ar := List.take_of_length_le (by simp)
    simp only [c1, c2, t1, t2, if_true]
    split
    · rw [if_neg (by simp; omega)]; exact g
    · exact g
  | succ k ih =>
    intro j ar hj hlen hin hfn
    have hl3 : (cellsF done).length = done.length * 3 := flat_len MCell.F_len done
    have t3 := tm hi.1 (show (0 : Int) < 3 by decide)
    have g := go ar hin (by omega) hfn
    rw [sMake_2_eq]
    simp only [Nat.zero_add, List.drop_zero, Nat.mul_one]
    have c1 : done.length * 3 ≤ (cellsF done).length := by omega
    have c2 : ar.length ≤ (kF .i64 ar).length := by simp
    have t1 : (cellsF done).take (done.length * 3) = cellsF done := List.take_of_length_le (by omega)
    have t2 : (kF .i64 ar).take ar.length = kF .i64 ar := List.take_of_length_le (by simp)
    simp only [c1, c2, t1, t2, if_true]
    split
    · rename_i hf
      by_cases hjn : (j : Int) < Int.tmod i 3
      · have hq : 0 ≤ d2 / 16 ∧ d2 / 16 ≤ 15 := by unfold byteI at hd; omega
        have w16 : IntKind.wrap .i64 (IntKind.wrap .u8 (Int.tdiv d2 16)) = d2 / 16 := by
          rw [td hd.1, wrap_u8_in (by omega) (by omega), wrap_i64 (by omega) (by omega)]
        rw [if_pos (by simpa using hjn), if_neg (by omega), if_pos ⟨trivial, by omega⟩, w16, wrap_i64 (n := (j : Int) * 3) (by omega) (by omega), wrap_i64 (n := i + (j : Int) * 3) (by omega) (by omega), wrap_i64 (n := i + (j : Int) * 3 + d2 / 16) (by omega) (by omega), wrap_i64 (n := (j : Int) + 1) (by omega) (by omega)]
        have tv := tm (x := i + (j : Int) * 3 + d2 / 16) (by omega) hv.1
        rw [if_pos (by simp), List.take_of_length_le (by simp), show ((j : Int) + 1) = ((j + 1 : Nat) : Int) by omega]
        have := ih (j + 1) (ar ++ [Int.tmod (i + (j : Int) * 3 + d2 / 16) vars]) (by omega) (by simp; omega) (fun x hx => by
          rcases List.mem_append.1 hx with hx | hx
          · exact hin x hx
          · rw [List.mem_singleton.1 hx]; exact inRR tv.1 tv.2) (.inl hf)
        rw [kF_append, List.length_append, List.length_singleton] at this
        exact this
      · rw [if_neg (by simpa using hjn)]; exact g
    · exact g
theorem mk5 (d1 d2 : Int) (m : Nat) (cc : List F) (n i k1 A Bb C a b z vars : Int) (hC : byteI C) (ha : 0 ≤ a ∧ a ≤ 12) (hb : 0 ≤ b ∧ b ≤ 12) (hv : 0 < vars ∧ vars ≤ 12) (m2 : Nat) (cc2 : List F) (done : List MCon) (e1 e2 e3 : Int)
    (go : ∀ ar : List Int, (∀ x ∈ ar, inR x (-1) vars = true) → ar.length ≤ 6 → good (sMake_6 d1 d2 m cc n i z vars m2 cc2 done.length (consF done) e1 e2 e3 ar.length (kF .i64 ar))) :
    ∀ (k j : Nat) (ar : List Int), j + k = 4 → ar.length = j → (∀ x ∈ ar, inR x (-1) vars = true) →
      good (sMake_5 d1 d2 m cc n i k1 A Bb C a b j z vars m2 cc2 done.length (consF done) e1 e2 e3 ar.length (kF .i64 ar)) := by
  have hq : 0 ≤ C / 4 ∧ C / 4 ≤ 63 := by unfold byteI at hC; omega
  have t4 := tm (x := C / 4) hq.1 (show (0 : Int) < 4 by decide)
  have wb : IntKind.wrap .i64 (Int.tmod (IntKind.wrap .u8 (Int.tdiv C 4)) 4) = Int.tmod (C / 4) 4 := by
    rw [td hC.1, wrap_u8_in (by omega) (by omega), wrap_i64 (by omega) (by omega)]
  unfold byteI at hC
  intro k
  induction k with
  | zero =>
    intro j ar hj hlen hin
    have hl3 : (consF done).length = done.length * 4 := flat_len MCon.F_len done
    have g := go ar hin (by omega)
    rw [sMake_5_eq, wb, if_neg (by simp; omega)]
    simp only [Nat.zero_add, List.drop_zero, Nat.mul_one]
    have c1 : done.length * 4 ≤ (consF done).length := by omega
    have c2 : ar.length ≤ (kF .i64 ar).length := by simp
    have t1 : (consF done).take (done.length * 4) = consF done := List.take_of_length_le (by omega)
    have t2 : (kF .i64 ar).take ar.length = kF .i64 ar := List.take_of_length_le (by simp)
    simp only [c1, c2, t1, t2, if_true]
    exact g
  | succ k ih =>
    intro j ar hj hlen hin
    have hl3 : (consF done).length = done.length * 4 := flat_len MCon.F_len done
    have g := go ar hin (by omega)
    rw [sMake_5_eq, wb]
    simp (maxSteps := 2000000) only [Nat.zero_add, List.drop_zero, Nat.mul_one]
    have c1 : done.length * 4 ≤ (consF done).length := by omega
    have c2 : ar.length ≤ (kF .i64 ar).length := by simp
    have t1 : (consF done).take (done.length * 4) = consF done := List.take_of_length_le (by omega)
    have t2 : (kF .i64 ar).take ar.length = kF .i64 ar := List.take_of_length_le (by simp)
    simp (maxSteps := 2000000) only [c1, c2, t1, t2, if_true]
    by_cases hjn : (j : Int) < Int.tmod (C / 4) 4
    · have hjC : 0 ≤ (j : Int) * C ∧ (j : Int) * C ≤ 1000 := by
        have : (j : Int) ≤ 3 := by omega
        constructor
        · exact Int.mul_nonneg (by omega) (by omega)
        · have := Int.mul_le_mul this (show C ≤ 255 by omega) (by omega) (by omega); omega
      rw [if_pos (by simpa using hjn), wrap_i64 (n := vars + 1) (by omega) (by omega), if_neg (by omega), if_pos ⟨trivial, by omega⟩, wrap_i64 (n := C) (by omega) (by omega), wrap_i64 (n := (j : Int) * C) (by omega) (by omega), wrap_i64 (n := a + b) (by omega) (by omega), wrap_i64 (n := a + b + (j : Int) * C) (by omega) (by omega), wrap_i64 (n := (j : Int) + 1) (by omega) (by omega)]
      have tv := tm (x := a + b + (j : Int) * C) (v := vars + 1) (by omega) (by omega)
      rw [wrap_i64 (n := Int.tmod (a + b + (j : Int) * C) (vars + 1) - 1) (by omega) (by omega)]
      rw [if_pos (by simp), List.take_of_length_le (by simp), show ((j : Int) + 1) = ((j + 1 : Nat) : Int) by omega]
      have := ih (j + 1) (ar ++ [Int.tmod (a + b + (j : Int) * C) (vars + 1) - 1]) (by omega) (by simp; omega) (fun x hx => by
        rcases List.mem_append.1 hx with hx | hx
        · exact hin x hx
        · rw [List.mem_singleton.1 hx]; exact inRR (by omega) (by omega))
      rw [kF_append, List.length_append, List.length_singleton] at this
      exact this
    · rw [if_neg (by simpa using hjn)]; exact g
theorem mk3 (d1 d2 : Int) (acts : List Quad) (ho : ∀ q ∈ acts, okQ q) (hl : acts.length < 9223372036854775808) (vars : Int) (hv : 0 < vars ∧ vars ≤ 12) (cells : List MCell) (hc : ∀ c ∈ cells, cellR vars c = true) (hn : cells.length ≤ 7) (z : Int) :
    ∀ (k i : Nat) (done : List MCon), i + k = 40 → i ≤ acts.length → done.length ≤ i → (∀ c ∈ done, conR vars cells.length c = true) →
      good (sMake_3 d1 d2 acts.length (quadsF acts) (cells.length : Nat) i z vars cells.length (cellsF cells) done.length (consF done)) := by
  intro k
  induction k with
  | zero =>
    intro i done hi hil hdn hok
    have fin : good (some (.ret (.agg [N .i64 vars, .f (.lst cells.length (cellsF cells)), .f (.lst done.length (consF done))]), [])) := ⟨⟨vars, cells, done⟩, rightR_iff.2 ⟨⟨by dsimp only; omega, by dsimp only; omega, by dsimp only; omega, by dsimp only; omega⟩, hc, hok⟩, rfl⟩
    have hl4 : (consF done).length = done.length * 4 := flat_len MCon.F_len done
    have c1 : done.length * 4 ≤ (consF done).length := by omega
    have t1 : (consF done).take (done.length * 4) = consF done := List.take_of_length_le (by omega)
    rw [sMake_3_eq]
    simp (maxSteps := 2000000) only [Nat.zero_add, List.drop_zero]
    simp (maxSteps := 2000000) only [c1, t1, if_true]
    by_cases h : i < acts.length
    · rw [if_pos (by simpa using h), if_neg (by simp; omega)]; exact fin
    · rw [if_neg (by simpa using h)]; exact fin
  | succ k ih =>
    intro i done hi hil hdn hok
    have fin : good (some (.ret (.agg [N .i64 vars, .f (.lst cells.length (cellsF cells)), .f (.lst done.length (consF done))]), [])) := ⟨⟨vars, cells, done⟩, rightR_iff.2 ⟨⟨by dsimp only; omega, by dsimp only; omega, by dsimp only; omega, by dsimp only; omega⟩, hc, hok⟩, rfl⟩
    have hl4 : (consF done).length = done.length * 4 := flat_len MCon.F_len done
    have c1 : done.length * 4 ≤ (consF done).length := by omega
    have t1 : (consF done).take (done.length * 4) = consF done := List.take_of_length_le (by omega)
    have c2 : (4 = 4 ∧ (done.length + 1) * 48 ≤ 140737488355328) := ⟨rfl, by omega⟩
    have c3 : ∀ x y z w : F, (done.length + 1) * 4 ≤ (consF done ++ [x, y, z, w]).length := fun x y z w => by rw [List.length_append, hl4]; simp; omega
    have t3 : ∀ x y z w : F, (consF done ++ [x, y, z, w]).take ((done.length + 1) * 4) = consF done ++ [x, y, z, w] := fun x y z w => List.take_of_length_le (by rw [List.length_append, hl4]; simp; omega)
    rw [sMake_3_eq]
    simp (maxSteps := 2000000) only [Nat.zero_add, List.drop_zero]
    simp (maxSteps := 2000000) only [c1, c2, c3, t1, t3, if_true, and_self, true_and]
    by_cases hil2 : i < acts.length
    · rw [if_pos (by simpa using hil2), if_pos (by simp; omega)]
      obtain ⟨q, rest, hd⟩ : ∃ q rest, acts.drop i = q :: rest := ⟨acts[i], acts.drop (i + 1), List.drop_eq_getElem_cons hil2⟩
      rw [elem_next Quad.F_len hd]
      obtain ⟨q1, q2, q3, q4⟩ := ho q (mem_of_drop hd)
      rcases q with ⟨K, A, Bb, C⟩
      dsimp only at q1 q2 q3 q4
      unfold byteI at q1 q2 q3
      simp (maxSteps := 2000000) only [Quad.F, List.cons_append, atI_zero, atI_succ]
      rw [if_neg (show ¬ vars = 0 by omega), if_neg (show ¬ vars = 0 by omega)]
      simp (maxSteps := 2000000) only [wrap_i64 (n := A) (by omega) (by omega), wrap_i64 (n := Bb) (by omega) (by omega), wrap_i64 (n := (i : Int) + 1) (by omega) (by omega)]
      have ta := tm (x := A) (by omega) hv.1
      have tb := tm (x := Bb) (by omega) hv.1
      have next0 : good (sMake_3 d1 d2 acts.length (quadsF acts) (cells.length : Nat) ((i : Int) + 1) z vars cells.length (cellsF cells) done.length (consF done)) := by
        rw [show ((i : Int) + 1) = ((i + 1 : Nat) : Int) by omega]
        exact ih (i + 1) done (by omega) (by omega) (by omega) hok
      have next : ∀ c : MCon, conR vars cells.length c = true → good (sMake_3 d1 d2 acts.length (quadsF acts) (cells.length : Nat) ((i : Int) + 1) z vars cells.length (cellsF cells) (done.length + 1) (consF done ++ c.F)) := by
        intro c hcc
        rw [show ((i : Int) + 1) = ((i + 1 : Nat) : Int) by omega]
        have := ih (i + 1) (done ++ [c]) (by omega) (by omega) (by simp; omega) (fun x hx => by
          rcases List.mem_append.1 hx with hx | hx
          · exact hok x hx
          · rw [List.mem_singleton.1 hx]; exact hcc)
        have e : consF (done ++ [c]) = consF done ++ c.F := by simp [consF]
        rw [e, List.length_append, List.length_singleton] at this
        exact this
      have five : ∀ a : Int, -1 ≤ a ∧ a < vars → good (sMake_5 d1 d2 acts.length (quadsF acts) (cells.length : Nat) i K A Bb C (Int.tmod A vars) (Int.tmod Bb vars) 0 z vars cells.length (cellsF cells) done.length (consF done) 5 a (Int.tmod Bb vars) 0 []) := by
        intro a haa
        refine mk5 d1 d2 acts.length (quadsF acts) (cells.length : Nat) i K A Bb C (Int.tmod A vars) (Int.tmod Bb vars) z vars q4 (by omega) (by omega) hv cells.length (cellsF cells) done 5 a (Int.tmod Bb vars) (fun ar hin hlen => ?_) 4 0 [] rfl rfl (fun x hx => (List.not_mem_nil hx).elim)
        rw [sMake_6_eq]
        simp (maxSteps := 2000000) only [Nat.zero_add, List.drop_zero]
        simp (maxSteps := 2000000) only [c1, c2, c3, t1, t3, if_true, and_self, true_and, wrap_i64 (n := (i : Int) + 1) (by omega) (by omega)]
        refine next ⟨5, a, Int.tmod Bb vars, ar⟩ ?_
        unfold conR
        rw [if_neg (by simp), if_neg (by simp), if_pos rfl]
        simp (maxSteps := 2000000) only [Bool.and_eq_true, List.all_eq_true, decide_eq_true_eq]
        exact ⟨hin, inRR haa.1 haa.2, inRR tb.1 tb.2, hlen⟩
      have base : ∀ (h : (cells.length : Int) > 0), conR vars cells.length ⟨1, Int.tmod A vars, Int.tmod Bb cells.length, []⟩ = true := by
        intro h
        have tc := tm (x := Bb) (by omega) (show (0 : Int) < cells.length by omega)
        unfold conR
        rw [if_pos rfl]
        simp (maxSteps := 2000000) only [Bool.and_eq_true, decide_eq_true_eq, List.length_nil]
        exact ⟨inRR ta.1 ta.2, inRR tc.1 tc.2, trivial⟩
      have plain : ∀ kd : Int, (kd = 2 ∨ kd = 3 ∨ kd = 4) → conR vars cells.length ⟨kd, Int.tmod A vars, Int.tmod Bb vars, []⟩ = true := by
        intro kd hk
        unfold conR
        rw [if_neg (by dsimp only; omega), if_pos hk]
        simp only [Bool.and_eq_true, decide_eq_true_eq, List.length_nil]
        exact ⟨inRR ta.1 ta.2, inRR tb.1 tb.2, trivial⟩
      have n1 : ∀ (h : (cells.length : Int) > 0), good (sMake_3 d1 d2 acts.length (quadsF acts) (cells.length : Nat) ((i : Int) + 1) z vars cells.length (cellsF cells) (done.length + 1) (consF done ++ [F.s (.int .u8 1), F.s (.int .i64 (Int.tmod A vars)), F.s (.int .i64 (Int.tmod Bb cells.length)), F.lst 0 []])) := fun h => next _ (base h)
      have n2 : ∀ kd : Int, (kd = 2 ∨ kd = 3 ∨ kd = 4) → good (sMake_3 d1 d2 acts.length (quadsF acts) (cells.length : Nat) ((i : Int) + 1) z vars cells.length (cellsF cells) (done.length + 1) (consF done ++ [F.s (.int .u8 kd), F.s (.int .i64 (Int.tmod A vars)), F.s (.int .i64 (Int.tmod Bb vars)), F.lst 0 []])) := fun kd h => next _ (plain kd h)
      have f1 := five (-1) ⟨by omega, by omega⟩
      have f2 := five (Int.tmod A vars) ⟨by omega, ta.2⟩
      clear next five base plain fin ih
      repeat' (first
        | with_reducible exact next0
        | with_reducible exact n1 (of_decide_eq_true ‹decide ((cells.length : Int) > 0) = true›)
        | with_reducible exact n2 2 (.inl rfl)
        | with_reducible exact n2 3 (.inr (.inl rfl))
        | with_reducible exact n2 4 (.inr (.inr rfl))
        | with_reducible exact f1
        | with_reducible exact f2
        | exact absurd ‹(cells.length : Int) = 0› (by have := of_decide_eq_true ‹decide ((cells.length : Int) > 0) = true›; omega)
        | with_reducible refine good_ite (fun h => ?_) (fun h => ?_))
    · rw [if_neg (by simpa using hil2)]; exact fin
theorem mk1 (d1 d2 : Int) (h1 : byteI d1) (h2 : byteI d2) (acts : List Quad) (ho : ∀ q ∈ acts, okQ q) (hl : acts.length < 9223372036854775808) (vars : Int) (hv : 0 < vars ∧ vars ≤ 12) (z : Int) (n : Nat) (hn : n ≤ 7) :
    ∀ (k i : Nat) (done : List MCell), i + k = n → done.length = i → (∀ c ∈ done, cellR vars c = true) →
      good (sMake_1 d1 d2 acts.length (quadsF acts) n i z vars done.length (cellsF done)) := by
  intro k
  induction k with
  | zero =>
    intro i done hi hdn hok
    have hl3 : (cellsF done).length = done.length * 3 := flat_len MCell.F_len done
    have t1 : (cellsF done).take (done.length * 3) = cellsF done := List.take_of_length_le (by omega)
    rw [sMake_1_eq, if_neg (by simp; omega)]
    simp only [Nat.zero_add, List.drop_zero]
    rw [if_pos (by omega), t1]
    have hni : n = done.length := by omega
    subst hni
    exact mk3 d1 d2 acts ho hl vars hv done hok hn z 40 0 [] rfl (by omega) (by simp) (fun c hc => (List.not_mem_nil hc).elim)
  | succ k ih =>
    intro i done hi hdn hok
    have hl3 : (cellsF done).length = done.length * 3 := flat_len MCell.F_len done
    have c1 : done.length * 3 ≤ (cellsF done).length := by omega
    have t1 : (cellsF done).take (done.length * 3) = cellsF done := List.take_of_length_le (by omega)
    have c3 : ∀ x y w : F, (done.length + 1) * 3 ≤ (cellsF done ++ [x, y, w]).length := fun x y w => by rw [List.length_append, hl3]; simp; omega
    have t3 : ∀ x y w : F, (cellsF done ++ [x, y, w]).take ((done.length + 1) * 3) = cellsF done ++ [x, y, w] := fun x y w => List.take_of_length_le (by rw [List.length_append, hl3]; simp; omega)
    rw [sMake_1_eq, if_pos (by simp; omega), if_neg (by omega)]
    simp only [Nat.zero_add, List.drop_zero]
    have hq : 0 ≤ d2 / 8 ∧ d2 / 8 ≤ 31 := by unfold byteI at h2; omega
    have w8 : IntKind.wrap .i64 (IntKind.wrap .u8 (Int.tdiv d2 8)) = d2 / 8 := by
      rw [td h2.1, wrap_u8_in (by omega) (by omega), wrap_i64 (by omega) (by omega)]
    rw [if_pos c1, t1, w8, wrap_i64 (n := (i : Int) * 5) (by omega) (by omega), wrap_i64 (n := (i : Int) * 5 + d2 / 8) (by omega) (by omega)]
    have tv := tm (x := (i : Int) * 5 + d2 / 8) (by omega) hv.1
    generalize (Int.tmod (IntKind.wrap .i64 ((i : Int) + IntKind.wrap .i64 (IntKind.wrap .u8 (Int.tdiv d1 12)))) 3 == 1) = fn
    refine mk2 d1 d2 h2 acts.length (quadsF acts) n i z vars (by omega) hv done fn _ (fun ar hin hlen hfn => ?_) 3 0 [] rfl rfl (fun x hx => (List.not_mem_nil hx).elim) (.inr rfl)
    rw [sMake_4_eq]
    simp only [Nat.zero_add, List.drop_zero]
    rw [if_pos ⟨trivial, by omega⟩, if_pos c1, t1, if_pos (c3 _ _ _), t3, wrap_i64 (by omega) (by omega), show ((i : Int) + 1) = ((i + 1 : Nat) : Int) by omega]
    have := ih (i + 1) (done ++ [(⟨fn, Int.tmod ((i : Int) * 5 + d2 / 8) vars, ar⟩ : MCell)]) (by omega) (by simp; omega) (fun c hc => by
      rcases List.mem_append.1 hc with hc | hc
      · exact hok c hc
      · rw [List.mem_singleton.1 hc]
        unfold cellR
        simp only [Bool.and_eq_true, Bool.or_eq_true, List.all_eq_true, decide_eq_true_eq]
        exact ⟨hin, inRR tv.1 tv.2, hlen, hfn.imp id fun h => by rw [h]; rfl⟩)
    have e : cellsF (done ++ [(⟨fn, Int.tmod ((i : Int) * 5 + d2 / 8) vars, ar⟩ : MCell)]) = cellsF done ++ [F.s (.bool fn), F.s (.int .i64 (Int.tmod ((i : Int) * 5 + d2 / 8) vars)), F.lst ar.length (kF .i64 ar)] := by simp [cellsF, MCell.F]
    rw [e, List.length_append, List.length_singleton] at this
    exact this
/-- a draft, as what Go keeps of it -/
abbrev draftV (d1 d2 : Int) (acts : List Quad) : V := .agg [N .u8 d1, N .u8 d2, .f (.lst acts.length (quadsF acts))]
theorem sMake_spec (d1 d2 : Int) (h1 : byteI d1) (h2 : byteI d2) (acts : List Quad) (ho : ∀ q ∈ acts, okQ q) (hl : acts.length < 9223372036854775808) :
    ∃ s : MSys, rightR s = true ∧ ∀ h0 : H, run w0 9 [draftV d1 d2 acts] h0 = some (.ret (.agg (sysV s)), h0) := by
  have q8 := tm (x := d2) h2.1 (show (0 : Int) < 8 by decide)
  have q12 := tm (x := d1) h1.1 (show (0 : Int) < 12 by decide)
  have hg : good (sMake_0 d1 d2 acts.length (quadsF acts)) := by
    rw [sMake_eq, wrap_i64 (n := Int.tmod d2 8) (by omega) (by omega), wrap_i64 (n := Int.tmod d1 12) (by omega) (by omega), wrap_i64 (n := 1 + Int.tmod d1 12) (by omega) (by omega)]
    obtain ⟨n, hn⟩ : ∃ n : Nat, Int.tmod d2 8 = n := ⟨(Int.tmod d2 8).toNat, by omega⟩
    rw [hn]
    exact mk1 d1 d2 h1 h2 acts ho hl (1 + Int.tmod d1 12) (by omega) 0 n (by omega) n 0 [] (by omega) rfl (fun c hc => (List.not_mem_nil hc).elim)
  obtain ⟨s, hs, e⟩ := hg
  exact ⟨s, hs, fun h0 => by rw [sMake_run, e, withH_true]⟩
end Go.Proofs.YtlemkcclgneemaaDoor
