/-
  Words: whole numbers of Go's kinds, bits, bytes among frozen cells.
-/
import Derived.Test.YtjefolfbdohkcaaAbsRow3
set_option autoImplicit false
set_option linter.unusedVariables false
namespace Go.Abs
open Go
theorem wrap_u64 (n : Int) : IntKind.wrap .u64 n = n % 18446744073709551616 := by simp [IntKind.wrap, IntKind.signed, IntKind.bits]
theorem wrap_u8 (n : Int) : IntKind.wrap .u8 n = n % 256 := by simp [IntKind.wrap, IntKind.signed, IntKind.bits]
theorem wrap_i64 {n : Int} (h1 : -9223372036854775808 ≤ n) (h2 : n < 9223372036854775808) : IntKind.wrap .i64 n = n := by
  simp [IntKind.wrap, IntKind.signed, IntKind.bits]; split <;> omega
theorem wrap_u8_in {n : Int} (h1 : 0 ≤ n) (h2 : n < 256) : IntKind.wrap .u8 n = n := by rw [wrap_u8]; omega
theorem wf_u8 {n : Int} (h : (Lit.int .u8 n).wf = true) : ∃ m : Nat, n = m ∧ m < 256 := by
  simp [Lit.wf, IntKind.min, IntKind.max, IntKind.signed, IntKind.bits] at h; exact ⟨n.toNat, by omega, by omega⟩
/-! ### bits -/
theorem fdiv_nat (a b : Nat) : Int.fdiv (a : Int) ((b : Nat) : Int) = ((a / b : Nat) : Int) := by
  rw [Int.fdiv_eq_ediv_of_nonneg _ (by omega)]; rfl
/-! ### bytes among cells -/
def bF (l : List UInt8) : List F := l.map fun x => .s (.int .u8 x.toNat)
@[simp] theorem bF_length (l : List UInt8) : (bF l).length = l.length := by simp [bF]
@[simp] theorem bF_append (l m : List UInt8) : bF (l ++ m) = bF l ++ bF m := by simp [bF]
@[simp] theorem bF_nil : bF [] = [] := rfl
theorem bF_cons (x : UInt8) (l : List UInt8) : bF (x :: l) = .s (.int .u8 x.toNat) :: bF l := rfl
@[simp] theorem strOfF_bF (l : List UInt8) : strOfF (bF l) = some l := by
  induction l with
  | nil => rfl
  | cons x l ih => simp [bF_cons, strOfF, ih]
theorem ba_toList (b : ByteArray) : b.toList = b.data.toList := ByteArray.toList_eq b
theorem withH_scal (b : Bool) (h : H) (x : Value) (g : H) (hx : scalF (.s x) = true) : withH b h (some (.ret (.f (.s x)), g)) = some (.ret (.f (.s x)), h) := by
  unfold withH scal; simp only [hx, Bool.or_true, if_true]
theorem withH_true (h : H) (v : V) (g : H) : withH true h (some (.ret v, g)) = some (.ret v, h) := by simp [withH]
theorem graft_ref (h : H) (m es : Nat) (c : List F) : graft h none (some (.ret (.ref 0 0 m es), [.fz c])) = some (.ret (.ref h.length 0 m es), h ++ [.fz c]) := by
  simp [graft, ren, reId, renO]
theorem elem_in {n es : Nat} {cs : List F} {i : Int} {K : List F → R} (h0 : 0 ≤ i) (h1 : i < (n : Int)) : elem (.lst n cs) i es K = K (cs.drop (i.toNat * es)) := if_pos ⟨h0, h1⟩
/-- whole numbers, texts among cells -/
def kF (k : IntKind) (l : List Int) : List F := l.map fun n => .s (.int k n)
def sF (l : List ByteArray) : List F := l.map fun s => .s (.string s)
@[simp] theorem kF_length (k : IntKind) (l : List Int) : (kF k l).length = l.length := by simp [kF]
@[simp] theorem sF_length (l : List ByteArray) : (sF l).length = l.length := by simp [sF]
theorem ty_ints {P : Program} {e : TypeId} {k : IntKind} (hu : P.underlying e = some (.int k)) : ∀ {parts : List (List F)}, (∀ p ∈ parts, Ty P e p) → ∃ l : List Int, parts.flatten = kF k l ∧ l.length = parts.length ∧ ∀ n ∈ l, (Lit.int k n).wf = true
  | [], _ => ⟨[], rfl, rfl, by simp⟩
  | p :: parts, h => by
    obtain ⟨l, h1, h2, h3⟩ := ty_ints hu (parts := parts) (fun q hq => h q (List.mem_cons_of_mem _ hq))
    obtain ⟨n, rfl, hn⟩ := (h p (by simp)).of_int hu
    exact ⟨n :: l, by simp [h1, kF], by simp [h2], fun m hm => by
      rcases List.mem_cons.1 hm with rfl | hm
      · exact hn
      · exact h3 m hm⟩
theorem ty_strs {P : Program} {e : TypeId} (hu : P.underlying e = some .string) : ∀ {parts : List (List F)}, (∀ p ∈ parts, Ty P e p) → ∃ l : List ByteArray, parts.flatten = sF l ∧ l.length = parts.length ∧ ∀ s ∈ l, s.size ≤ maxLen
  | [], _ => ⟨[], rfl, rfl, by simp⟩
  | p :: parts, h => by
    obtain ⟨l, h1, h2, h3⟩ := ty_strs hu (parts := parts) (fun q hq => h q (List.mem_cons_of_mem _ hq))
    obtain ⟨n, rfl, hn⟩ := (h p (by simp)).of_str hu
    exact ⟨n :: l, by simp [h1, sF], by simp [h2], fun m hm => by
      rcases List.mem_cons.1 hm with rfl | hm
      · exact hn
      · exact h3 m hm⟩
theorem Ty.of_strs {P : Program} {t e : TypeId} {xs : List F} (h : Ty P t xs) (ht : P.underlying t = some (.slice e)) (he : P.underlying e = some .string) :
    ∃ l : List ByteArray, xs = [.lst l.length (sF l)] ∧ l.length ≤ maxLen ∧ ∀ s ∈ l, s.size ≤ maxLen := by
  obtain ⟨parts, rfl, h1, h2, h3⟩ := h.of_slice ht
  obtain ⟨l, a, b, c⟩ := ty_strs he h3
  exact ⟨l, by rw [a, b], by omega, c⟩
end Go.Abs
