import Derived.Test.YtemnahkpffafoaaDoorCoilMath
import Derived.Test.YtemnahkpffafoaaDoorSums
set_option autoImplicit false
namespace Go.Abs
open Go
theorem rdN_inv (most : Nat) : ∀ (l : List UInt8) (k n v c e : Nat), rdN most l k n = (v, c, e) → e = 0 → (0 < k → 0 < n) → (k = 0 → n = 0) →
  ∃ j, c = k + j ∧ 0 < j ∧ j ≤ l.length ∧ v ≤ most ∧ v < 18446744073709551616 ∧ hi n ++ l.take j = putB v
 | [], k, n, v, c, e, h, he, _, _ => by simp [rdN] at h; omega
 | b :: l, k, n, v, c, e, h, he, h1, h0 => by
  unfold rdN at h
  split at h
  ·simp at h; omega
  rename_i hc
  have hb := b.toNat_lt
  split at h
  ·rename_i hb2
   have hm : 0 < n * 128 + b.toNat % 128 := by
    by_cases hk : k = 0
    ·have := h0 hk; subst this
     have hne : b.toNat ≠ 128 := fun e => hc (.inl ⟨hk, e⟩)
     omega
    ·have := h1 (by omega); omega
   obtain ⟨j, g1, g2, g3, g4, g5, g6⟩ := rdN_inv most l (k + 1) _ v c e h he (fun _ => hm) (fun hk => by omega)
   refine ⟨j + 1, by omega, by omega, by simp; omega, g4, g5, ?_⟩
   rw [List.take_succ_cons, ← g6, hi_pos hm, show (n * 128 + b.toNat % 128) / 128 = n by omega, show (n * 128 + b.toNat % 128) % 128 + 128 = b.toNat by omega]
   simp
  ·rename_i hb2
   split at h
   ·simp at h; omega
   ·rename_i hm
    simp at h
    obtain ⟨rfl, rfl, _⟩ := h
    refine ⟨1, rfl, by omega, by simp, by omega, by omega, ?_⟩
    unfold putB
    rw [show (n * 128 + b.toNat % 128) / 128 = n by omega, show (n * 128 + b.toNat % 128) % 128 = b.toNat by omega]
    simp
theorem rdN_got {most v c : Nat} {l : List UInt8} (h : rdN most l 0 0 = (v, c, 0)) : c ≤ l.length ∧ v ≤ most ∧ v < 18446744073709551616 ∧ l = putB v ++ l.drop c := by
 obtain ⟨j, g1, g2, g3, g4, g5, g6⟩ := rdN_inv most l 0 0 v c 0 h rfl (fun h => by omega) (fun _ => rfl)
 rw [hi_zero, List.nil_append] at g6
 have : c = j := by omega
 subst this
 exact ⟨g3, g4, g5, by rw [← g6, List.take_append_drop]⟩
theorem rdN_none (most : Nat) : ∀ (l : List UInt8) (k n : Nat) {v c e : Nat}, rdN most l k n = (v, c, e) → e ≠ 0 → v = 0 ∧ c = 0
 | [], _, _, _, _, _, h, _ => by simp [rdN] at h; omega
 | b :: l, k, n, v, c, e, h, he => by
  unfold rdN at h
  split at h
  ·simp at h; omega
  split at h
  ·exact rdN_none most l _ _ h he
  split at h
  ·simp at h; omega
  ·simp at h; omega
def sealB (l : List UInt8) : List UInt8 := l ++ sumBytes (crc l)
def openB (l : List UInt8) : List UInt8 × Nat := if l.length < 4 then ([], 3) else if crc l ≠ 0#32 then ([], 6) else (l.take (l.length - 4), 0)
theorem seal_len (l : List UInt8) : (sealB l).length = l.length + 4 := by simp [sealB, sumBytes]
theorem open_seal (l : List UInt8) : openB (sealB l) = (l, 0) := by
 unfold openB
 rw [seal_len, if_neg (by omega), if_neg (by unfold sealB; rw [crc_seal]; simp), show l.length + 4 - 4 = l.length by omega]
 simp [sealB]
end Go.Abs
