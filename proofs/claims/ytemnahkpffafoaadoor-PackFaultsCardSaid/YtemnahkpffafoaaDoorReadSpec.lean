import Derived.Test.YtemnahkpffafoaaDoorSumSpec
set_option autoImplicit false
namespace Go.Proofs.YtemnahkpffafoaaDoor
open Go Go.Abs
theorem own_NewReader : OwnFn w0 26 Tryd.f26 [.val] [.box [.val, .val, .val]] := ⟨rfl, by kernel_rfl, rfl, by kernel_rfl, _, _, rfl⟩
theorem own_Num : OwnFn w0 65 Tryd.f65 [.pin [.val, .val, .val], .val] [.val] := ⟨rfl, by kernel_rfl, rfl, by kernel_rfl, _, _, rfl⟩
theorem own_Fail : OwnFn w0 64 Tryd.f64 [.pin [.val, .val, .val], .val] [] := ⟨rfl, by kernel_rfl, rfl, by kernel_rfl, _, _, rfl⟩
theorem rdN_fault (most : Nat) : ∀ (l : List UInt8) (k n : Nat) {v c e : Nat}, rdN most l k n = (v, c, e) → e ≠ 0 → v = 0 ∧ c = 0
 | [], _, _, _, _, _, h, _ => by simp [rdN] at h; omega
 | b :: l, k, n, v, c, e, h, he => by
  unfold rdN at h
  split at h
  ·simp at h; omega
  split at h
  ·exact rdN_fault most l _ _ h he
  split at h
  ·simp at h; omega
  ·simp at h; omega
theorem fail_more {x : F} {a e f : Nat} (he : e ≠ 0) : Fail_0 x a e f = some (.ret (.tup []), [.cells [.f x, I a, I e]]) := by
 rw [Fail_eq]
 simp [he]
theorem Fail_zero (x : F) (a f : Nat) : Fail_0 x a (0 : Nat) f = some (.ret (.tup []), [.cells [.f x, I a, I f]]) := by
 rw [Fail_eq]
 simp
theorem Fail_at {h : H} {k : Nat} {x : F} {a e f : Nat} (hk : h[k]? = some (.cells [.f x, I a, I e])) : run w0 64 [.ptr k 0, I f] h = some (.ret (.tup []), h.set k (.cells [.f x, I a, I ((if e = 0 then f else e : Nat) : Int)])) := by
 rw [call_pin own_Fail hk rfl (of_decide_eq_true (by kernel_rfl)) rfl]
 have ec : coreOf w0 64 Tryd.f64 [] (some [.val, .val, .val]) [.ptr 0 0, I f] [.cells [.f x, I a, I e]] = Fail_0 x a e f := rfl
 rw [ec]
 have g : ∀ y : Ob, (∀ m, renO m y = y) → graft (h.set k .dead) (some k) (some (.ret (.tup []), [y])) = some (.ret (.tup []), h.set k y) := by
  intro y hy
  simp [graft, ren, rens, hy]
 by_cases he : e = 0
 ·subst he
  rw [Fail_zero, g _ (fun m => by simp [renO, rens, ren])]; rfl
 ·rw [fail_more he, g _ (fun m => by simp [renO, rens, ren]), if_neg he]
theorem Num_core (l : List UInt8) (a e : Nat) (hl : l.length < 9223372036854775808) (ha : a ≤ l.length) (most : Nat) :
  Num_0 (.lst l.length (bF l)) a e most = (match (if e ≠ 0 then (0, 0, e) else rdN most (l.drop a) 0 0) with
   | (v, c, f) => some (.ret (N .u64 v), [rdr l (a + c) f])) := by
 by_cases he : e ≠ 0
 ·have h1 := Num_was (l := l) (a := a) (most := most) (e := e) (by omega)
  unfold rdr at h1
  rw [Num_p0v_c3] at h1
  rw [if_pos he]
  have h2 : ∀ r : R, graft [.dead] (some 0) r = some (.ret (N .u64 0), [.cells [.f (.lst l.length (bF l)), I a, I e]]) → r = Num_0 (.lst l.length (bF l)) a e most → Num_0 (.lst l.length (bF l)) a e most = some (.ret (N .u64 0), [rdr l (a + 0) e]) := by
   intro r h3 h4
   rw [← h4]
   cases r with
   | none => simp [graft] at h3
   | some q =>
    obtain ⟨o, g⟩ := q
    rw [Num_eq, Num_1_eq, Fault_p _ _ _ (Fault_p0_c3 ..), pI_some, if_neg (by simpa using he)] at h4
    rw [h4]; rfl
  exact h2 _ h1 rfl
 ·have he0 : e = 0 := by omega
  subst he0
  rw [if_neg he]
  have h := Num_loop l a most hl (l.drop a) 0 0 rfl (by omega) (by omega)
  rw [Num_eq]
  have h' : Num_1 (most : Int) 0 0 (.lst l.length (bF l)) a 0 = _ := h
  have h'' : Num_1 (most : Int) 0 0 (.lst l.length (bF l)) a ((0 : Nat) : Int) = _ := h'
  rw [h'']
  rcases hq : rdN most (l.drop a) 0 0 with ⟨v, c, f⟩
  dsimp only
  by_cases hf : f = 0
  ·rw [if_pos hf, hf]; rfl
  ·obtain ⟨rfl, rfl⟩ := rdN_fault _ _ _ _ hq hf
   rw [if_neg hf]; rfl
theorem graft_rdr (h : H) (k : Nat) (x : Value) (hx : ∀ m, ren m (vs x) = vs x) (l : List UInt8) (a e : Nat) : graft (h.set k .dead) (some k) (some (.ret (vs x), [rdr l a e])) = some (.ret (vs x), h.set k (rdr l a e)) := by
 simp [graft, hx, rdr, renO, rens, ren]
theorem Num_at {h : H} {k : Nat} {l : List UInt8} {a e : Nat} (hk : h[k]? = some (rdr l a e)) (hl : l.length < 9223372036854775808) (ha : a ≤ l.length) (most : Nat) :
  run w0 65 [.ptr k 0, N .u64 most] h = (match (if e ≠ 0 then (0, 0, e) else rdN most (l.drop a) 0 0) with
   | (v, c, f) => some (.ret (N .u64 v), h.set k (rdr l (a + c) f))) := by
 rw [call_pin own_Num hk rfl (of_decide_eq_true (by kernel_rfl)) rfl]
 have ec : coreOf w0 65 Tryd.f65 [.val] (some [.val, .val, .val]) [.ptr 0 0, N .u64 most] [.cells [.f (.lst l.length (bF l)), I a, I e]] = Num_0 (.lst l.length (bF l)) a e most := rfl
 rw [ec, Num_core l a e hl ha]
 rcases (if e ≠ 0 then (0, 0, e) else rdN most (l.drop a) 0 0) with ⟨v, c, f⟩
 dsimp only
 rw [graft_rdr _ _ _ (fun m => rfl)]
theorem NewReader_at {h : H} (p : List UInt8) (hp : p.length ≤ roomB) : run w0 26 [.f (.lst p.length (bF p))] h = some (.ret (.ptr h.length 0), h ++ [rdr p 0 0]) := by
 rw [call_vals own_NewReader (of_decide_eq_true (by kernel_rfl)) rfl]
 have e : coreOf w0 26 Tryd.f26 [.box [.val, .val, .val]] none [.f (.lst p.length (bF p))] [] = NewReader_0 p.length (bF p) := rfl
 rw [e, NewReader_eq]
 simp only [Nat.zero_add, Nat.mul_one, List.drop_zero]
 unfold roomB at hp
 rw [if_pos ⟨by decide, by simp, by decide⟩, if_pos (by omega), if_pos (by simp), bF_all]
 simp [graft, ren, rens, renO, rdr, reId]
end Go.Proofs.YtemnahkpffafoaaDoor
