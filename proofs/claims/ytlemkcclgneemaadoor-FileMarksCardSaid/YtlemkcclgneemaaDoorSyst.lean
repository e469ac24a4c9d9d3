/-
  Systems, as plain data; their rules; as bytes, and back.
-/
import Derived.Test.YtlemkcclgneemaaDoorCoilMath
import Derived.Test.YtlemkcclgneemaaDoorSums
import Derived.Test.YtlemkcclgneemaaDoorSystDef
set_option autoImplicit false
set_option linter.unusedVariables false
namespace Go.Abs
open Go

/-! ### numbers out of bytes: what is read was put -/
theorem rdN_inv (most : Nat) : ∀ (l : List UInt8) (k n v c e : Nat), rdN most l k n = (v, c, e) → e = 0 → (0 < k → 0 < n) → (k = 0 → n = 0) →
    ∃ j, c = k + j ∧ 0 < j ∧ j ≤ l.length ∧ v ≤ most ∧ v < 18446744073709551616 ∧ hi n ++ l.take j = putB v
  | [], k, n, v, c, e, h, he, _, _ => by simp [rdN] at h; omega
  | b :: l, k, n, v, c, e, h, he, h1, h0 => by
    unfold rdN at h
    split at h
    · simp at h; omega
    rename_i hc
    have hb := b.toNat_lt
    split at h
    · rename_i hb2
      have hm : 0 < n * 128 + b.toNat % 128 := by
        by_cases hk : k = 0
        · have := h0 hk; subst this
          have hne : b.toNat ≠ 128 := fun e => hc (.inl ⟨hk, e⟩)
          omega
        · have := h1 (by omega); omega
      obtain ⟨j, g1, g2, g3, g4, g5, g6⟩ := rdN_inv most l (k + 1) _ v c e h he (fun _ => hm) (fun hk => by omega)
      refine ⟨j + 1, by omega, by omega, by simp; omega, g4, g5, ?_⟩
      rw [List.take_succ_cons, ← g6, hi_pos hm, show (n * 128 + b.toNat % 128) / 128 = n by omega, show (n * 128 + b.toNat % 128) % 128 + 128 = b.toNat by omega]
      simp
    · rename_i hb2
      split at h
      · simp at h; omega
      · rename_i hm
        simp at h
        obtain ⟨rfl, rfl, _⟩ := h
        refine ⟨1, rfl, by omega, by simp, by omega, by omega, ?_⟩
        unfold putB
        rw [show (n * 128 + b.toNat % 128) / 128 = n by omega, show (n * 128 + b.toNat % 128) % 128 = b.toNat by omega]
        simp
theorem rdN_got {most v c : Nat} {l : List UInt8} (h : rdN most l 0 0 = (v, c, 0)) : c ≤ l.length ∧ v ≤ most ∧ v < 18446744073709551616 ∧ l = putB v ++ l.drop c := by
  obtain ⟨j, g1, g2, g3, g4, g5, g6⟩ := rdN_inv most l 0 0 v c 0 h rfl (fun h => by omega) (fun _ => rfl)
  rw [hi_zero, List.nil_append] at g6
  have : c = j := by omega
  subst this
  exact ⟨g3, g4, g5, by rw [← g6, List.take_append_drop]⟩

/-! ### as bytes -/
def zb (n : Int) : List UInt8 := putB (zig n)
def cellB (c : MCell) : List UInt8 := zb (if c.fn then c.args.length else -1) ++ (zb c.var ++ c.args.flatMap zb)
def conB (c : MCon) : List UInt8 := zb c.kind ++ (zb c.a ++ (zb c.b ++ (if c.kind = 5 then zb c.args.length ++ c.args.flatMap zb else [])))
def markB : List UInt8 := [87, 86, 67, 49]
def bodyB (s : MSys) : List UInt8 := zb s.vars ++ (zb s.cells.length ++ (zb s.cons.length ++ (s.cells.flatMap cellB ++ s.cons.flatMap conB)))
def layB (s : MSys) : List UInt8 := markB ++ bodyB s
def sealB (l : List UInt8) : List UInt8 := l ++ sumBytes (crc l)
/-- the bytes under a sum; the error -/
def openB (l : List UInt8) : List UInt8 × Nat := if l.length < 4 then ([], 3) else if crc l ≠ 0#32 then ([], 6) else (l.take (l.length - 4), 0)
theorem seal_len (l : List UInt8) : (sealB l).length = l.length + 4 := by simp [sealB, sumBytes]
theorem open_seal (l : List UInt8) : openB (sealB l) = (l, 0) := by
  unfold openB
  rw [seal_len, if_neg (by omega), if_neg (by unfold sealB; rw [crc_seal]; simp), show l.length + 4 - 4 = l.length by omega]
  simp [sealB]
theorem seal_open {l q : List UInt8} (h : openB l = (q, 0)) : l = sealB q := by
  unfold openB at h
  split at h
  · simp at h
  split at h
  · simp at h
  rename_i h1 h2
  simp at h
  subst h
  have h3 : l = l.take (l.length - 4) ++ l.drop (l.length - 4) := (List.take_append_drop _ _).symm
  have h4 : crc l = 0#32 := by simpa using h2
  rw [h3] at h4
  have := crc_open (by simp; omega) h4
  unfold sealB
  rw [← this, List.take_append_drop]

/-! ### and back: the number ahead -/
def pGet (least most : Int) (l : List UInt8) : Option (Int × List UInt8) :=
  match rdN 1099511627776 l 0 0 with
  | (v, c, e) => if e = 0 ∧ least ≤ zag v ∧ zag v ≤ most then some (zag v, l.drop c) else none
theorem pGet_put {least most n : Int} (h1 : least ≤ n) (h2 : n ≤ most) (h3 : zig n ≤ 1099511627776) (r : List UInt8) : pGet least most (zb n ++ r) = some (n, r) := by
  unfold pGet zb
  rw [rdN_put _ _ _ (by omega), if_neg (by omega)]
  simp only [zag_zig, List.drop_left]
  rw [if_pos ⟨trivial, h1, h2⟩]
theorem pGet_got {least most n : Int} {l r : List UInt8} (h : pGet least most l = some (n, r)) : least ≤ n ∧ n ≤ most ∧ l = zb n ++ r := by
  unfold pGet at h
  rcases hq : rdN 1099511627776 l 0 0 with ⟨v, c, e⟩
  rw [hq] at h
  dsimp only at h
  split at h
  · rename_i hc
    obtain ⟨rfl, h1, h2⟩ := hc
    simp at h
    obtain ⟨rfl, rfl⟩ := h
    obtain ⟨_, _, _, g⟩ := rdN_got hq
    exact ⟨h1, h2, by unfold zb; rw [zig_zag]; exact g⟩
  · cases h
def pArgs (least : Int) : Nat → List UInt8 → Option (List Int × List UInt8)
  | 0, l => some ([], l)
  | k + 1, l => (pGet least 16384 l).bind fun q => (pArgs least k q.2).bind fun p => some (q.1 :: p.1, p.2)
def pCell (l : List UInt8) : Option (MCell × List UInt8) :=
  (pGet (-1) 6 l).bind fun q => (pGet 0 16384 q.2).bind fun p => (pArgs 0 q.1.toNat p.2).bind fun a => some (⟨decide (0 ≤ q.1), p.1, a.1⟩, a.2)
def pCon (l : List UInt8) : Option (MCon × List UInt8) :=
  (pGet 1 5 l).bind fun q => (pGet (-1) 16384 q.2).bind fun p => (pGet 0 16384 p.2).bind fun r =>
    if q.1 = 5 then (pGet 0 6 r.2).bind fun n => (pArgs (-1) n.1.toNat n.2).bind fun a => some (⟨q.1, p.1, r.1, a.1⟩, a.2) else some (⟨q.1, p.1, r.1, []⟩, r.2)
def pMany {α : Type} (p : List UInt8 → Option (α × List UInt8)) : Nat → List UInt8 → Option (List α × List UInt8)
  | 0, l => some ([], l)
  | k + 1, l => (p l).bind fun q => (pMany p k q.2).bind fun r => some (q.1 :: r.1, r.2)
def pBody (l : List UInt8) : Option MSys :=
  (pGet 0 16384 l).bind fun v => (pGet 0 16384 v.2).bind fun m => (pGet 0 131072 m.2).bind fun n =>
    (pMany pCell m.1.toNat n.2).bind fun a => (pMany pCon n.1.toNat a.2).bind fun b =>
      if b.2 = [] ∧ rightR ⟨v.1, a.1, b.1⟩ = true then some ⟨v.1, a.1, b.1⟩ else none
def pSys (q : List UInt8) : Option MSys := if q.take 4 = markB then pBody (q.drop 4) else none

/-! ### what is written is read -/
theorem zig_small {n : Int} (h1 : -1 ≤ n) (h2 : n ≤ 1000000) : zig n ≤ 1099511627776 := by unfold zig; split <;> omega
theorem inR_iff {n a b : Int} : inR n a b = true ↔ a ≤ n ∧ n < b := by simp [inR]
theorem pArgs_put {least vars : Int} (hv : vars ≤ 16384) (hl : -1 ≤ least) : ∀ (l : List Int) (r : List UInt8), l.all (fun n => inR n least vars) = true → pArgs least l.length (l.flatMap zb ++ r) = some (l, r)
  | [], r, _ => rfl
  | n :: l, r, h => by
    rw [List.all_cons, Bool.and_eq_true, inR_iff] at h
    rw [List.length_cons, pArgs, List.flatMap_cons, List.append_assoc, pGet_put h.1.1 (by omega) (zig_small (by omega) (by omega)), Option.bind_some, pArgs_put hv hl l r h.2]
    rfl
theorem pCell_put {vars : Int} (hv : vars ≤ 16384) (c : MCell) (h : cellR vars c = true) (r : List UInt8) : pCell (cellB c ++ r) = some (c, r) := by
  unfold cellR at h
  simp only [Bool.and_eq_true, inR_iff, decide_eq_true_eq, Bool.or_eq_true] at h
  obtain ⟨h1, h2, h3, h4⟩ := h
  unfold pCell cellB
  obtain ⟨fn, var, args⟩ := c
  dsimp only at *
  have hargs : ∀ m : Int, m.toNat = args.length → pArgs 0 m.toNat (args.flatMap zb ++ r) = some (args, r) := fun m hm => by rw [hm]; exact pArgs_put hv (by omega) args r h1
  cases fn
  · have h5 : args.length = 0 := by simpa using h4
    simp only [Bool.false_eq_true, if_false, List.append_assoc]
    rw [pGet_put (by omega) (by omega) (zig_small (by omega) (by omega)), Option.bind_some, pGet_put (by omega) (by omega) (zig_small (by omega) (by omega)), Option.bind_some, hargs (-1) (by simp [h5])]
    rfl
  · simp only [if_true, List.append_assoc]
    rw [pGet_put (by omega) (by omega) (zig_small (by omega) (by omega)), Option.bind_some, pGet_put (by omega) (by omega) (zig_small (by omega) (by omega)), Option.bind_some, hargs _ (by simp)]
    simp
theorem pCon_put {vars : Int} {cells : Nat} (hv : vars ≤ 16384) (hc : cells ≤ 16384) (c : MCon) (h : conR vars cells c = true) (r : List UInt8) : pCon (conB c ++ r) = some (c, r) := by
  obtain ⟨kind, a, b, args⟩ := c
  unfold conR at h
  dsimp only at h
  unfold pCon conB
  dsimp only
  by_cases k5 : kind = 5
  · subst k5
    simp only [show ¬ ((5 : Int) = 1) by decide, show ¬ ((5 : Int) = 2 ∨ (5 : Int) = 3 ∨ (5 : Int) = 4) by decide, if_false, if_true, Bool.and_eq_true, inR_iff, decide_eq_true_eq] at h
    obtain ⟨h1, h2, h3, h4⟩ := h
    simp only [if_true, List.append_assoc]
    rw [pGet_put (by omega) (by omega) (zig_small (by omega) (by omega)), Option.bind_some, pGet_put (by omega) (by omega) (zig_small (by omega) (by omega)), Option.bind_some, pGet_put (by omega) (by omega) (zig_small (by omega) (by omega)), Option.bind_some]
    simp only [if_true]
    rw [pGet_put (by omega) (by omega) (zig_small (by omega) (by omega)), Option.bind_some]
    simp only [Int.toNat_natCast]
    rw [pArgs_put hv (by omega) args r h1]
    rfl
  · simp only [if_neg k5, List.append_nil, List.append_assoc]
    have h2 : args = [] ∧ 1 ≤ kind ∧ kind ≤ 4 ∧ 0 ≤ a ∧ a < 16384 ∧ 0 ≤ b ∧ b < 16384 := by
      by_cases k1 : kind = 1
      · subst k1
        simp only [if_true, Bool.and_eq_true, inR_iff, decide_eq_true_eq] at h
        exact ⟨List.eq_nil_of_length_eq_zero h.2.2, by omega, by omega, by omega, by omega, by omega, by omega⟩
      · rw [if_neg k1] at h
        by_cases k2 : kind = 2 ∨ kind = 3 ∨ kind = 4
        · rw [if_pos k2] at h
          simp only [Bool.and_eq_true, inR_iff, decide_eq_true_eq] at h
          exact ⟨List.eq_nil_of_length_eq_zero h.2.2, by omega, by omega, by omega, by omega, by omega, by omega⟩
        · rw [if_neg k2, if_neg k5] at h; cases h
    obtain ⟨rfl, h3, h4, h5, h6, h7, h8⟩ := h2
    rw [pGet_put (by omega) (by omega) (zig_small (by omega) (by omega)), Option.bind_some, pGet_put (by omega) (by omega) (zig_small (by omega) (by omega)), Option.bind_some, pGet_put (by omega) (by omega) (zig_small (by omega) (by omega)), Option.bind_some]
    simp only [if_neg k5]
theorem pMany_put {α : Type} {p : List UInt8 → Option (α × List UInt8)} {f : α → List UInt8} : ∀ (l : List α) (r : List UInt8), (∀ a ∈ l, ∀ r, p (f a ++ r) = some (a, r)) → pMany p l.length (l.flatMap f ++ r) = some (l, r)
  | [], r, _ => rfl
  | a :: l, r, h => by
    rw [List.length_cons, pMany, List.flatMap_cons, List.append_assoc, h a (by simp), Option.bind_some, pMany_put l r fun b hb => h b (by simp [hb])]
    rfl
theorem rightR_iff {s : MSys} : rightR s = true ↔ (0 ≤ s.vars ∧ s.vars ≤ 16384 ∧ s.cells.length ≤ 16384 ∧ s.cons.length ≤ 131072) ∧ (∀ c ∈ s.cells, cellR s.vars c = true) ∧ (∀ c ∈ s.cons, conR s.vars s.cells.length c = true) := by
  unfold rightR
  rw [Bool.and_eq_true, Bool.and_eq_true, decide_eq_true_eq, List.all_eq_true, List.all_eq_true]
theorem pSys_put {s : MSys} (h : rightR s = true) : pSys (layB s) = some s := by
  obtain ⟨⟨h1, h2, h3, h4⟩, h5, h6⟩ := rightR_iff.1 h
  unfold pSys layB
  rw [if_pos (by simp [markB]), show List.drop 4 (markB ++ bodyB s) = bodyB s from rfl]
  unfold pBody bodyB
  rw [pGet_put (by omega) (by omega) (zig_small (by omega) (by omega)), Option.bind_some, pGet_put (by omega) (by omega) (zig_small (by omega) (by omega)), Option.bind_some, pGet_put (by omega) (by omega) (zig_small (by omega) (by omega)), Option.bind_some]
  simp only [Int.toNat_natCast]
  rw [pMany_put _ _ fun c hc r => pCell_put h2 c (h5 c hc) r, Option.bind_some]
  have := pMany_put (p := pCon) (f := conB) s.cons [] fun c hc r => pCon_put h2 h3 c (h6 c hc) r
  rw [List.append_nil] at this
  rw [this, Option.bind_some, if_pos ⟨rfl, h⟩]
/-! ### what is read was written -/
theorem pArgs_got {least : Int} : ∀ (k : Nat) {l r : List UInt8} {a : List Int}, pArgs least k l = some (a, r) → a.length = k ∧ l = a.flatMap zb ++ r
  | 0, l, r, a, h => by simp [pArgs] at h; obtain ⟨rfl, rfl⟩ := h; exact ⟨rfl, rfl⟩
  | k + 1, l, r, a, h => by
    rw [pArgs, Option.bind_eq_some_iff] at h; obtain ⟨q, h1, h⟩ := h
    rw [Option.bind_eq_some_iff] at h; obtain ⟨p, h2, h⟩ := h
    simp at h; obtain ⟨rfl, rfl⟩ := h
    obtain ⟨_, _, g⟩ := pGet_got h1
    obtain ⟨g1, g2⟩ := pArgs_got k h2
    exact ⟨by simp [g1], by rw [List.flatMap_cons, List.append_assoc, ← g2]; exact g⟩
theorem pCell_got {l r : List UInt8} {c : MCell} (h : pCell l = some (c, r)) : l = cellB c ++ r := by
  unfold pCell at h
  rw [Option.bind_eq_some_iff] at h; obtain ⟨q, h1, h⟩ := h
  rw [Option.bind_eq_some_iff] at h; obtain ⟨p, h2, h⟩ := h
  rw [Option.bind_eq_some_iff] at h; obtain ⟨a, h3, h⟩ := h
  simp at h; obtain ⟨rfl, rfl⟩ := h
  obtain ⟨a1, a2, a3⟩ := pGet_got h1
  obtain ⟨_, _, b3⟩ := pGet_got h2
  obtain ⟨c1, c2⟩ := pArgs_got _ h3
  have e : (if 0 ≤ q.1 then (a.1.length : Int) else -1) = q.1 := by split <;> omega
  unfold cellB
  simp only [decide_eq_true_eq, e, List.append_assoc]
  rw [← c2, ← b3]
  exact a3
theorem pCon_got {l r : List UInt8} {c : MCon} (h : pCon l = some (c, r)) : l = conB c ++ r := by
  unfold pCon at h
  rw [Option.bind_eq_some_iff] at h; obtain ⟨q, h1, h⟩ := h
  rw [Option.bind_eq_some_iff] at h; obtain ⟨p, h2, h⟩ := h
  rw [Option.bind_eq_some_iff] at h; obtain ⟨s, h3, h⟩ := h
  obtain ⟨_, _, a3⟩ := pGet_got h1
  obtain ⟨_, _, b3⟩ := pGet_got h2
  obtain ⟨_, _, c3⟩ := pGet_got h3
  split at h
  · rename_i k5
    rw [Option.bind_eq_some_iff] at h; obtain ⟨n, h4, h⟩ := h
    rw [Option.bind_eq_some_iff] at h; obtain ⟨a, h5, h⟩ := h
    simp at h; obtain ⟨rfl, rfl⟩ := h
    obtain ⟨d1, _, d3⟩ := pGet_got h4
    obtain ⟨e1, e2⟩ := pArgs_got _ h5
    have e : (a.1.length : Int) = n.1 := by omega
    unfold conB
    simp only [if_pos k5, e, List.append_assoc]
    rw [← e2, ← d3, ← c3, ← b3]
    exact a3
  · rename_i k5
    simp at h; obtain ⟨rfl, rfl⟩ := h
    unfold conB
    simp only [if_neg k5, List.append_nil, List.append_assoc]
    rw [← c3, ← b3]
    exact a3
theorem pMany_got {α : Type} {p : List UInt8 → Option (α × List UInt8)} {f : α → List UInt8} (hp : ∀ {l r a}, p l = some (a, r) → l = f a ++ r) : ∀ (k : Nat) {l r : List UInt8} {a : List α}, pMany p k l = some (a, r) → a.length = k ∧ l = a.flatMap f ++ r
  | 0, l, r, a, h => by simp [pMany] at h; obtain ⟨rfl, rfl⟩ := h; exact ⟨rfl, rfl⟩
  | k + 1, l, r, a, h => by
    rw [pMany, Option.bind_eq_some_iff] at h; obtain ⟨q, h1, h⟩ := h
    rw [Option.bind_eq_some_iff] at h; obtain ⟨s, h2, h⟩ := h
    simp at h; obtain ⟨rfl, rfl⟩ := h
    have g := hp h1
    obtain ⟨g1, g2⟩ := pMany_got hp k h2
    exact ⟨by simp [g1], by rw [List.flatMap_cons, List.append_assoc, ← g2]; exact g⟩
theorem pSys_got {q : List UInt8} {s : MSys} (h : pSys q = some s) : q = layB s ∧ rightR s = true := by
  unfold pSys at h
  split at h
  · rename_i hm
    unfold pBody at h
    rw [Option.bind_eq_some_iff] at h; obtain ⟨v, h1, h⟩ := h
    rw [Option.bind_eq_some_iff] at h; obtain ⟨m, h2, h⟩ := h
    rw [Option.bind_eq_some_iff] at h; obtain ⟨n, h3, h⟩ := h
    rw [Option.bind_eq_some_iff] at h; obtain ⟨a, h4, h⟩ := h
    rw [Option.bind_eq_some_iff] at h; obtain ⟨b, h5, h⟩ := h
    split at h
    · rename_i hc
      obtain ⟨hb, hr⟩ := hc
      simp at h
      subst h
      refine ⟨?_, hr⟩
      obtain ⟨_, _, a3⟩ := pGet_got h1
      obtain ⟨b1, _, b3⟩ := pGet_got h2
      obtain ⟨c1, _, c3⟩ := pGet_got h3
      obtain ⟨d1, d2⟩ := pMany_got (f := cellB) pCell_got _ h4
      obtain ⟨e1, e2⟩ := pMany_got (f := conB) pCon_got _ h5
      rw [hb, List.append_nil] at e2
      have e3 : (a.1.length : Int) = m.1 := by omega
      have e4 : (b.1.length : Int) = n.1 := by omega
      unfold layB bodyB
      simp only [e3, e4]
      rw [← e2, ← d2, ← c3, ← b3, ← a3, ← hm, List.take_append_drop]
    · cases h
  · cases h
theorem layB_inj {s t : MSys} (hs : rightR s = true) (ht : rightR t = true) (h : layB s = layB t) : s = t := by
  have := pSys_put hs
  rw [h, pSys_put ht] at this
  exact (Option.some.inj this).symm
end Go.Abs
