import Derived.Test.YtemnahkpffafoaaDoorReadMath
import Derived.Test.YtemnahkpffafoaaDoorRules
set_option autoImplicit false
namespace Go.Abs
open Go
def nuB (n : Int) : List UInt8 := putB (n % 18446744073709551616).toNat
def listB (l : List Int) : List UInt8 := nuB l.length ++ l.flatMap nuB
def refN (r : MRef) : Int := if r.k = 0 then 0 else 4 * r.id + r.k
def refB (r : MRef) : List UInt8 := nuB (refN r)
mutual
def stmtB : MStmt → List UInt8
 | .mk k a b args body => nuB k ++ (if k = 7 then nuB body.length ++ stmtsB body else (if k = 5 then nuB args.length ++ args.flatMap refB else []) ++ (if k ≠ 6 then refB a else []) ++ refB b)
def stmtsB : List MStmt → List UInt8
 | [] => []
 | s :: r => stmtB s ++ stmtsB r
end
theorem stmtsB_flat : ∀ l : List MStmt, stmtsB l = l.flatMap stmtB
 | [] => by rw [stmtsB]; rfl
 | s :: r => by rw [stmtsB, stmtsB_flat r]; rfl
def bodyB (l : List MStmt) : List UInt8 := nuB l.length ++ l.flatMap stmtB
def funB (f : MFun) : List UInt8 := nuB f.name ++ (nuB f.params ++ (listB f.locals ++ (listB f.sites ++ bodyB f.body)))
def textB (s : ByteArray) : List UInt8 := nuB s.size ++ s.data.toList
def packB (m : Mod) : List UInt8 := nuB m.strings.length ++ m.strings.flatMap textB ++ (listB m.globals ++ (nuB m.funcs.length ++ m.funcs.flatMap funB ++ listB m.entries))
def markB : List UInt8 := [87, 86, 77, 49]
abbrev Rd (α : Type) := Nat → Nat → α × Nat × Nat
def pInt (most : Nat) (l : List UInt8) : Rd Nat := fun a e => if e ≠ 0 then (0, a, e) else match rdN most (l.drop a) 0 0 with
 | (v, c, f) => (v, a + c, f)
def pCount (l : List UInt8) : Rd Nat := fun a e => match pInt 1048576 l a e with
 | (n, a1, e1) => if l.length - a1 < n then (0, a1, if e1 = 0 then 3 else e1) else (n, a1, e1)
def pMany {α : Type} (p : Rd α) : Nat → Rd (List α)
 | 0 => fun a e => ([], a, e)
 | n + 1 => fun a e => match p a e with
  | (v, a1, e1) => match pMany p n a1 e1 with
   | (r, a2, e2) => (v :: r, a2, e2)
def pSeq {α : Type} (l : List UInt8) (p : Rd α) : Rd (List α) := fun a e => match pCount l a e with
 | (n, a1, e1) => pMany p n a1 e1
def pNum (l : List UInt8) : Rd Int := fun a e => match pInt 1048576 l a e with
 | (n, a1, e1) => ((n : Int), a1, e1)
def refOf (n : Nat) : MRef := if n = 0 then ⟨0, 0⟩ else if n % 4 = 0 then ⟨4, ((n / 4 : Nat) : Int) - 1⟩ else ⟨((n % 4 : Nat) : Int), ((n / 4 : Nat) : Int)⟩
def pRef (l : List UInt8) : Rd MRef := fun a e => match pInt 1048576 l a e with
 | (n, a1, e1) => (refOf n, a1, e1)
def pText (l : List UInt8) : Rd ByteArray := fun a e => match pInt 40 l a e with
 | (n, a1, e1) => if e1 ≠ 0 then (⟨#[]⟩, a1, e1) else if l.length - a1 < n then (⟨#[]⟩, a1, 3) else (⟨((l.drop a1).take n).toArray⟩, a1 + n, 0)
def pStmt (l : List UInt8) (sub : Rd (List MStmt)) : Rd MStmt := fun a e => match pInt 7 l a e with
 | (k, a1, e1) =>
  if k = 7 then match sub a1 e1 with
   | (b, a2, e2) => (.mk 7 ⟨0, 0⟩ ⟨0, 0⟩ [] b, a2, e2)
  else match (if k = 5 then pSeq l (pRef l) a1 e1 else ([], a1, e1)) with
   | (args, a2, e2) => match (if k ≠ 6 then pRef l a2 e2 else (⟨0, 0⟩, a2, e2)) with
    | (x, a3, e3) => match pRef l a3 e3 with
     | (y, a4, e4) => (.mk k x y args [], a4, e4)
def pBody (l : List UInt8) : Nat → Rd (List MStmt)
 | 0 => fun a e => ([], a, if e = 0 then 4 else e)
 | d + 1 => pSeq l (pStmt l (pBody l d))
def pFun (l : List UInt8) : Rd MFun := fun a e => match pNum l a e with
 | (n, a1, e1) => match pNum l a1 e1 with
  | (p, a2, e2) => match pSeq l (pNum l) a2 e2 with
   | (ls, a3, e3) => match pSeq l (pNum l) a3 e3 with
    | (ss, a4, e4) => match pBody l 17 a4 e4 with
     | (b, a5, e5) => (⟨n, p, ls, ss, b⟩, a5, e5)
def pMod (l : List UInt8) : Rd Mod := fun a e => match pSeq l (pText l) a e with
 | (ss, a1, e1) => match pSeq l (pNum l) a1 e1 with
  | (gs, a2, e2) => match pSeq l (pFun l) a2 e2 with
   | (fs, a3, e3) => match pSeq l (pNum l) a3 e3 with
    | (es, a4, e4) => (⟨ss, gs, fs, es⟩, a4, e4)
def OkP {α : Type} (l : List UInt8) (p : Rd α) (enc : α → List UInt8) : Prop :=
 ∀ ⦃a e v a' e'⦄, a ≤ l.length → p a e = (v, a', e') → a ≤ a' ∧ a' ≤ l.length ∧ (e ≠ 0 → a' = a ∧ e' = e) ∧ (e' = 0 → l.drop a = enc v ++ l.drop a')
def CanP {α : Type} (l : List UInt8) (p : Rd α) (enc : α → List UInt8) (ok : α → Prop) : Prop :=
 ∀ (v : α) (a : Nat) (r : List UInt8), ok v → a ≤ l.length → l.drop a = enc v ++ r → p a 0 = (v, a + (enc v).length, 0)
section
variable {l : List UInt8}
theorem OkP.zero {α : Type} {p : Rd α} {enc : α → List UInt8} (h : OkP l p enc) {a e v a' e'} (ha : a ≤ l.length) (hp : p a e = (v, a', e')) (h0 : e' = 0) : e = 0 := by
 by_cases he : e = 0
 ·exact he
 ·have := (h ha hp).2.2.1 he; omega
theorem drop_enc {a : Nat} {x r : List UInt8} (h : l.drop a = x ++ r) (ha : a ≤ l.length) : l.drop (a + x.length) = r ∧ a + x.length ≤ l.length := by
 have h1 : l.drop (a + x.length) = (l.drop a).drop x.length := by rw [List.drop_drop]
 have h2 := congrArg List.length h
 rw [List.length_drop, List.length_append] at h2
 exact ⟨by rw [h1, h, List.drop_left], by omega⟩
theorem nuB_nat (n : Nat) (h : n < 18446744073709551616) : nuB n = putB n := by
 unfold nuB
 rw [show ((n : Int) % 18446744073709551616).toNat = n by omega]
theorem pInt_ok (most : Nat) : OkP l (pInt most l) (fun n => nuB n) := by
 intro a e v a' e' ha hp
 unfold pInt at hp
 by_cases he : e ≠ 0
 ·rw [if_pos he] at hp
  cases hp
  exact ⟨Nat.le_refl _, ha, fun _ => ⟨rfl, rfl⟩, fun h => absurd h he⟩
 ·rw [if_neg he] at hp
  rcases hq : rdN most (l.drop a) 0 0 with ⟨v0, c, f⟩
  rw [hq] at hp
  cases hp
  by_cases hf : e' = 0
  ·subst hf
   obtain ⟨h1, h2, h3, h4⟩ := rdN_got hq
   rw [List.length_drop] at h1
   exact ⟨by omega, by omega, fun h => absurd h he, fun _ => by dsimp only; rw [nuB_nat _ h3, ← List.drop_drop]; exact h4⟩
  ·obtain ⟨h1, h2⟩ := rdN_none _ _ _ _ hq hf
   subst h1 h2
   exact ⟨by omega, by omega, fun h => absurd h he, fun h => absurd h hf⟩
theorem pInt_most {most a e v a' e' : Nat} (hp : pInt most l a e = (v, a', e')) : v ≤ most := by
 unfold pInt at hp
 by_cases he : e ≠ 0
 ·rw [if_pos he] at hp; cases hp; omega
 ·rw [if_neg he] at hp
  rcases hq : rdN most (l.drop a) 0 0 with ⟨v0, c, f⟩
  rw [hq] at hp
  cases hp
  by_cases hf : e' = 0
  ·subst hf; exact (rdN_got hq).2.1
  ·have := (rdN_none _ _ _ _ hq hf).1; omega
theorem pInt_can (most : Nat) (hm : most < 18446744073709551616) : CanP l (pInt most l) (fun n => nuB n) (fun n => n ≤ most) := by
 intro v a r hv ha h
 unfold pInt
 dsimp only at h ⊢
 rw [if_neg (by simp), h, nuB_nat v (by omega), rdN_put most v r (by omega), if_neg (by omega)]
theorem pCount_ok : OkP l (pCount l) (fun n => nuB n) := by
 intro a e v a' e' ha hp
 unfold pCount at hp
 rcases hq : pInt 1048576 l a e with ⟨n, a1, e1⟩
 rw [hq] at hp
 obtain ⟨h1, h2, h3, h4⟩ := pInt_ok 1048576 ha hq
 dsimp only at hp
 split at hp
 ·cases hp
  refine ⟨h1, h2, fun he => ?_, fun h => ?_⟩
  ·obtain ⟨q1, q2⟩ := h3 he
   refine ⟨q1, ?_⟩
   rw [if_neg (by omega)]; exact q2
  ·split at h
   ·omega
   ·contradiction
 ·cases hp
  exact ⟨h1, h2, h3, h4⟩
theorem pCount_le {a e v a' e' : Nat} (hp : pCount l a e = (v, a', e')) : v ≤ l.length - a' := by
 unfold pCount at hp
 rcases hq : pInt 1048576 l a e with ⟨n, a1, e1⟩
 rw [hq] at hp
 dsimp only at hp
 split at hp
 ·cases hp; omega
 ·cases hp; omega
theorem pCount_can {n a : Nat} {x r : List UInt8} (hn : n ≤ 1048576) (hx : n ≤ x.length) (ha : a ≤ l.length) (h : l.drop a = nuB n ++ (x ++ r)) : pCount l a 0 = (n, a + (nuB n).length, 0) := by
 unfold pCount
 rw [pInt_can 1048576 (by omega) n a _ hn ha h]
 have := (drop_enc h ha).1
 have h2 := congrArg List.length this
 rw [List.length_drop, List.length_append] at h2
 dsimp only
 rw [if_neg (by omega)]
theorem pMany_ok {α : Type} {p : Rd α} {enc : α → List UInt8} (hp : OkP l p enc) : ∀ n, OkP l (pMany p n) (fun v => v.flatMap enc)
 | 0 => by
  intro a e v a' e' ha h
  rw [pMany] at h
  cases h
  exact ⟨Nat.le_refl _, ha, fun _ => ⟨rfl, rfl⟩, fun _ => by simp⟩
 | n + 1 => by
  intro a e v a' e' ha h
  rw [pMany] at h
  dsimp only at h
  rcases h1 : p a e with ⟨x, a1, e1⟩
  rw [h1] at h
  rcases h2 : pMany p n a1 e1 with ⟨r, a2, e2⟩
  simp only [h2] at h
  cases h
  obtain ⟨p1, p2, p3, p4⟩ := hp ha h1
  obtain ⟨q1, q2, q3, q4⟩ := pMany_ok hp n p2 h2
  refine ⟨by omega, q2, fun he => ?_, fun he => ?_⟩
  ·obtain ⟨r1, r2⟩ := p3 he
   obtain ⟨r3, r4⟩ := q3 (by omega)
   exact ⟨by omega, by omega⟩
  ·have h0 : e1 = 0 := OkP.zero (pMany_ok hp n) p2 h2 he
   rw [p4 h0, q4 he]
   simp
theorem pMany_len {α : Type} {p : Rd α} : ∀ (n : Nat) {a e v a' e'}, pMany p n a e = (v, a', e') → v.length = n
 | 0, a, e, v, a', e', h => by rw [pMany] at h; cases h; rfl
 | n + 1, a, e, v, a', e', h => by
  rw [pMany] at h
  dsimp only at h
  rcases h1 : p a e with ⟨x, a1, e1⟩
  rw [h1] at h
  rcases h2 : pMany p n a1 e1 with ⟨r, a2, e2⟩
  simp only [h2] at h
  cases h
  simp [pMany_len n h2]
theorem pMany_can {α : Type} {p : Rd α} {enc : α → List UInt8} {ok : α → Prop} (hp : CanP l p enc ok) : ∀ (v : List α) (a : Nat) (r : List UInt8), (∀ x ∈ v, ok x) → a ≤ l.length → l.drop a = v.flatMap enc ++ r → pMany p v.length a 0 = (v, a + (v.flatMap enc).length, 0)
 | [], a, r, _, _, _ => by simp [pMany]
 | x :: v, a, r, hv, ha, h => by
  rw [List.flatMap_cons, List.append_assoc] at h
  have h1 := hp x a _ (hv x (by simp)) ha h
  obtain ⟨h2, h3⟩ := drop_enc h ha
  have h4 := pMany_can hp v _ r (fun y hy => hv y (by simp [hy])) h3 h2
  rw [List.length_cons, pMany]
  dsimp only
  rw [h1]
  dsimp only
  rw [h4]
  simp only [List.flatMap_cons, List.length_append, Nat.add_assoc]
theorem pSeq_ok {α : Type} {p : Rd α} {enc : α → List UInt8} (hp : OkP l p enc) : OkP l (pSeq l p) (fun v => nuB v.length ++ v.flatMap enc) := by
 intro a e v a' e' ha h
 unfold pSeq at h
 rcases h1 : pCount l a e with ⟨n, a1, e1⟩
 rw [h1] at h
 dsimp only at h
 obtain ⟨p1, p2, p3, p4⟩ := pCount_ok ha h1
 obtain ⟨q1, q2, q3, q4⟩ := pMany_ok hp n p2 h
 refine ⟨by omega, q2, fun he => ?_, fun he => ?_⟩
 ·obtain ⟨r1, r2⟩ := p3 he
  obtain ⟨r3, r4⟩ := q3 (by omega)
  exact ⟨by omega, by omega⟩
 ·have h0 : e1 = 0 := OkP.zero (pMany_ok hp n) p2 h he
  have e1 := p4 h0
  have e2 := q4 he
  dsimp only at e1 e2 ⊢
  rw [e1, e2, pMany_len n h, List.append_assoc]
theorem pSeq_len {α : Type} {p : Rd α} {a e : Nat} {v : List α} {a' e' : Nat} (h : pSeq l p a e = (v, a', e')) : v.length ≤ l.length := by
 unfold pSeq at h
 rcases h1 : pCount l a e with ⟨n, a1, e1⟩
 rw [h1] at h
 dsimp only at h
 rw [pMany_len n h]
 have := pCount_le h1; omega
theorem flat_ge {α : Type} {enc : α → List UInt8} (h1 : ∀ x, 0 < (enc x).length) : ∀ v : List α, v.length ≤ (v.flatMap enc).length
 | [] => by simp
 | x :: v => by have := flat_ge h1 v; have := h1 x; rw [List.flatMap_cons, List.length_append, List.length_cons]; omega
theorem nuB_pos (n : Int) : 0 < (nuB n).length := putB_len_pos _
theorem pSeq_can {α : Type} {p : Rd α} {enc : α → List UInt8} {ok : α → Prop} (hp : CanP l p enc ok) (h1 : ∀ x, 0 < (enc x).length) : CanP l (pSeq l p) (fun v => nuB v.length ++ v.flatMap enc) (fun v => v.length ≤ 1048576 ∧ ∀ x ∈ v, ok x) := by
 intro v a r hv ha h
 dsimp only at h ⊢
 rw [List.append_assoc] at h
 unfold pSeq
 rw [pCount_can hv.1 (flat_ge h1 v) ha h]
 obtain ⟨h2, h3⟩ := drop_enc h ha
 dsimp only
 rw [pMany_can hp v _ r hv.2 h3 h2, List.length_append, Nat.add_assoc]
theorem pNum_ok : OkP l (pNum l) nuB := by
 intro a e v a' e' ha h
 unfold pNum at h
 rcases h1 : pInt 1048576 l a e with ⟨n, a1, e1⟩
 rw [h1] at h
 cases h
 exact pInt_ok _ ha h1
theorem pNum_can : CanP l (pNum l) nuB (fun n => 0 ≤ n ∧ n ≤ 1048576) := by
 intro v a r hv ha h
 obtain ⟨n, rfl⟩ : ∃ n : Nat, v = n := ⟨v.toNat, by omega⟩
 unfold pNum
 rw [pInt_can 1048576 (by omega) n a r (by show n ≤ 1048576; omega) ha h]
theorem refN_of (n : Nat) : refN (refOf n) = n := by
 unfold refN refOf
 by_cases h0 : n = 0
 ·subst h0; rfl
 ·rw [if_neg h0]
  by_cases h4 : n % 4 = 0
  ·rw [if_pos h4, if_neg (show ¬ (4 : Int) = 0 by decide)]; dsimp only; omega
  ·rw [if_neg h4, if_neg (by dsimp only; omega)]; dsimp only; omega
theorem pRef_ok : OkP l (pRef l) refB := by
 intro a e v a' e' ha h
 unfold pRef at h
 rcases h1 : pInt 1048576 l a e with ⟨n, a1, e1⟩
 rw [h1] at h
 cases h
 have := pInt_ok 1048576 ha h1
 unfold refB
 rw [refN_of]
 exact this
def okRef (r : MRef) : Prop := r = ⟨0, 0⟩ ∨ 1 ≤ r.k ∧ r.k ≤ 4 ∧ 0 ≤ r.id ∧ r.id ≤ 200000
theorem okRef_n {r : MRef} (h : okRef r) : 0 ≤ refN r ∧ refN r ≤ 1048576 ∧ refOf (refN r).toNat = r := by
 rcases h with rfl | ⟨h1, h2, h3, h4⟩
 ·exact ⟨by decide, by decide, by decide⟩
 ·obtain ⟨k, i⟩ := r
  dsimp only at h1 h2 h3 h4
  unfold refN
  dsimp only
  rw [if_neg (by omega)]
  refine ⟨by omega, by omega, ?_⟩
  unfold refOf
  by_cases hk : k = 4
  ·subst hk
   rw [if_neg (by omega), if_pos (by omega)]
   congr 1; omega
  ·rw [if_neg (by omega), if_neg (by omega)]
   congr 1 <;> omega
theorem pRef_can : CanP l (pRef l) refB okRef := by
 intro v a r hv ha h
 obtain ⟨h1, h2, h3⟩ := okRef_n hv
 unfold refB at h ⊢
 unfold pRef
 have e : refN v = ((refN v).toNat : Int) := by omega
 rw [e] at h ⊢
 rw [pInt_can 1048576 (by omega) (refN v).toNat a r (by show (refN v).toNat ≤ 1048576; omega) ha h]
 simp only [h3, Int.toNat_natCast]
theorem pText_ok : OkP l (pText l) textB := by
 intro a e v a' e' ha h
 unfold pText at h
 rcases h1 : pInt 40 l a e with ⟨n, a1, e1⟩
 rw [h1] at h
 obtain ⟨p1, p2, p3, p4⟩ := pInt_ok 40 ha h1
 dsimp only at h
 split at h
 ·rename_i he
  cases h
  exact ⟨p1, p2, p3, fun h => absurd h he⟩
 ·rename_i he
  have he : e1 = 0 := by omega
  split at h
  ·cases h
   exact ⟨p1, p2, fun h => absurd (p3 h).2 (by omega), fun h => by omega⟩
  ·rename_i hn
   cases h
   refine ⟨by omega, by omega, fun h => absurd (p3 h).2 (by omega), fun _ => ?_⟩
   have e1 : textB ⟨((l.drop a1).take n).toArray⟩ = nuB n ++ (l.drop a1).take n := by
    unfold textB
    have : (ByteArray.mk ((l.drop a1).take n).toArray).size = n := by
     show ((l.drop a1).take n).toArray.size = n
     simp; omega
    rw [this]
   rw [p4 he, e1, List.append_assoc, ← List.drop_drop, List.take_append_drop]
theorem pText_can : CanP l (pText l) textB (fun s => s.size ≤ 40) := by
 intro v a r hv ha h
 unfold textB at h ⊢
 rw [List.append_assoc] at h
 unfold pText
 rw [pInt_can 40 (by omega) v.size a _ hv ha h]
 obtain ⟨h2, h3⟩ := drop_enc h ha
 have h4 := congrArg List.length h2
 have hs : v.data.toList.length = v.size := by cases v; simp [ByteArray.size]
 rw [List.length_drop, List.length_append, hs] at h4
 dsimp only
 rw [if_neg (by simp), if_neg (by omega), h2, List.take_left' hs, List.length_append, hs, Nat.add_assoc]
end
end Go.Abs
namespace Go.Abs
open Go
section
variable {l : List UInt8}
theorem pStmt_ok {sub : Rd (List MStmt)} (hs : OkP l sub bodyB) : OkP l (pStmt l sub) stmtB := by
 intro a e v a' e' ha h
 unfold pStmt at h
 rcases h1 : pInt 7 l a e with ⟨k, a1, e1⟩
 rw [h1] at h
 dsimp only at h
 obtain ⟨p1, p2, p3, p4⟩ := pInt_ok 7 ha h1
 by_cases k7 : k = 7
 ·rw [if_pos k7] at h
  rcases h2 : sub a1 e1 with ⟨b, a2, e2⟩
  rw [h2] at h
  dsimp only at h
  cases h
  obtain ⟨q1, q2, q3, q4⟩ := hs p2 h2
  refine ⟨by omega, q2, fun he => ?_, fun he => ?_⟩
  ·obtain ⟨r1, r2⟩ := p3 he
   obtain ⟨r3, r4⟩ := q3 (by omega)
   exact ⟨by omega, by omega⟩
  ·have h0 : e1 = 0 := OkP.zero hs p2 h2 he
   have x1 := p4 h0
   have x2 := q4 he
   dsimp only at x1
   rw [x1, x2, stmtB, if_pos rfl, stmtsB_flat, k7]
   unfold bodyB
   simp
 ·rw [if_neg k7] at h
  rcases h2 : (if k = 5 then pSeq l (pRef l) a1 e1 else ([], a1, e1)) with ⟨args, a2, e2⟩
  rw [h2] at h
  dsimp only at h
  rcases h3 : (if k ≠ 6 then pRef l a2 e2 else (⟨0, 0⟩, a2, e2)) with ⟨x, a3, e3⟩
  rw [h3] at h
  dsimp only at h
  rcases h4 : pRef l a3 e3 with ⟨y, a4, e4⟩
  rw [h4] at h
  dsimp only at h
  cases h
  have s2 : a1 ≤ a2 ∧ a2 ≤ l.length ∧ (e1 ≠ 0 → a2 = a1 ∧ e2 = e1) ∧ (e2 = 0 → e1 = 0 ∧ l.drop a1 = (if k = 5 then nuB args.length ++ args.flatMap refB else []) ++ l.drop a2) := by
   by_cases k5 : k = 5
   ·rw [if_pos k5] at h2
    obtain ⟨q1, q2, q3, q4⟩ := pSeq_ok pRef_ok p2 h2
    refine ⟨q1, q2, q3, fun he => ⟨OkP.zero (pSeq_ok pRef_ok) p2 h2 he, ?_⟩⟩
    rw [if_pos k5]; exact q4 he
   ·rw [if_neg k5] at h2
    cases h2
    exact ⟨Nat.le_refl _, p2, fun _ => ⟨rfl, rfl⟩, fun he => ⟨he, by rw [if_neg k5]; rfl⟩⟩
  obtain ⟨b1, b2, b3, b4⟩ := s2
  have s3 : a2 ≤ a3 ∧ a3 ≤ l.length ∧ (e2 ≠ 0 → a3 = a2 ∧ e3 = e2) ∧ (e3 = 0 → e2 = 0 ∧ l.drop a2 = (if k ≠ 6 then refB x else []) ++ l.drop a3) := by
   by_cases k6 : k ≠ 6
   ·rw [if_pos k6] at h3
    obtain ⟨q1, q2, q3, q4⟩ := pRef_ok b2 h3
    refine ⟨q1, q2, q3, fun he => ⟨OkP.zero pRef_ok b2 h3 he, ?_⟩⟩
    rw [if_pos k6]; exact q4 he
   ·rw [if_neg k6] at h3
    cases h3
    exact ⟨Nat.le_refl _, b2, fun _ => ⟨rfl, rfl⟩, fun he => ⟨he, by rw [if_neg k6]; rfl⟩⟩
  obtain ⟨c1, c2, c3, c4⟩ := s3
  obtain ⟨d1, d2, d3, d4⟩ := pRef_ok c2 h4
  refine ⟨by omega, d2, fun he => ?_, fun he => ?_⟩
  ·obtain ⟨r1, r2⟩ := p3 he
   obtain ⟨r3, r4⟩ := b3 (by omega)
   obtain ⟨r5, r6⟩ := c3 (by omega)
   obtain ⟨r7, r8⟩ := d3 (by omega)
   exact ⟨by omega, by omega⟩
  ·have z3 : e3 = 0 := OkP.zero pRef_ok c2 h4 he
   obtain ⟨z2, x3⟩ := c4 z3
   obtain ⟨z1, x2⟩ := b4 z2
   have x1 := p4 z1
   have x4 := d4 he
   dsimp only at x1
   have i5 : ((k : Int) = 5) ↔ k = 5 := by omega
   have i6 : ((k : Int) ≠ 6) ↔ k ≠ 6 := by omega
   rw [x1, x2, x3, x4, stmtB, if_neg (show ¬ (k : Int) = 7 by omega)]
   simp only [i5, i6, List.append_assoc]
theorem pBody_ok : ∀ d, OkP l (pBody l d) bodyB
 | 0 => by
  intro a e v a' e' ha h
  rw [pBody] at h
  cases h
  refine ⟨Nat.le_refl _, ha, fun he => ⟨rfl, if_neg he⟩, fun h => ?_⟩
  split at h
  ·omega
  ·contradiction
 | d + 1 => by
  rw [pBody]
  exact pSeq_ok (pStmt_ok (pBody_ok d))
theorem pFun_ok : OkP l (pFun l) funB := by
 intro a e v a' e' ha h
 unfold pFun at h
 rcases h1 : pNum l a e with ⟨n, a1, e1⟩
 rw [h1] at h; dsimp only at h
 rcases h2 : pNum l a1 e1 with ⟨p, a2, e2⟩
 rw [h2] at h; dsimp only at h
 rcases h3 : pSeq l (pNum l) a2 e2 with ⟨ls, a3, e3⟩
 rw [h3] at h; dsimp only at h
 rcases h4 : pSeq l (pNum l) a3 e3 with ⟨ss, a4, e4⟩
 rw [h4] at h; dsimp only at h
 rcases h5 : pBody l 17 a4 e4 with ⟨b, a5, e5⟩
 rw [h5] at h
 dsimp only at h
 cases h
 obtain ⟨p1, p2, p3, p4⟩ := pNum_ok ha h1
 obtain ⟨q1, q2, q3, q4⟩ := pNum_ok p2 h2
 obtain ⟨r1, r2, r3, r4⟩ := pSeq_ok pNum_ok q2 h3
 obtain ⟨s1, s2, s3, s4⟩ := pSeq_ok pNum_ok r2 h4
 obtain ⟨t1, t2, t3, t4⟩ := pBody_ok 17 s2 h5
 refine ⟨by omega, t2, fun he => ?_, fun he => ?_⟩
 ·obtain ⟨u1, u2⟩ := p3 he
  obtain ⟨u3, u4⟩ := q3 (by omega)
  obtain ⟨u5, u6⟩ := r3 (by omega)
  obtain ⟨u7, u8⟩ := s3 (by omega)
  obtain ⟨u9, u10⟩ := t3 (by omega)
  exact ⟨by omega, by omega⟩
 ·have z4 : e4 = 0 := OkP.zero (pBody_ok 17) s2 h5 he
  have z3 : e3 = 0 := OkP.zero (pSeq_ok pNum_ok) r2 h4 z4
  have z2 : e2 = 0 := OkP.zero (pSeq_ok pNum_ok) q2 h3 z3
  have z1 : e1 = 0 := OkP.zero pNum_ok p2 h2 z2
  have x3 := r4 z3
  have x4 := s4 z4
  dsimp only at x3 x4
  rw [p4 z1, q4 z2, x3, x4, t4 he]
  unfold funB listB
  simp only [List.append_assoc]
theorem pMod_ok : OkP l (pMod l) packB := by
 intro a e v a' e' ha h
 unfold pMod at h
 rcases h1 : pSeq l (pText l) a e with ⟨ss, a1, e1⟩
 rw [h1] at h; dsimp only at h
 rcases h2 : pSeq l (pNum l) a1 e1 with ⟨gs, a2, e2⟩
 rw [h2] at h; dsimp only at h
 rcases h3 : pSeq l (pFun l) a2 e2 with ⟨fs, a3, e3⟩
 rw [h3] at h; dsimp only at h
 rcases h4 : pSeq l (pNum l) a3 e3 with ⟨es, a4, e4⟩
 rw [h4] at h
 dsimp only at h
 cases h
 obtain ⟨p1, p2, p3, p4⟩ := pSeq_ok pText_ok ha h1
 obtain ⟨q1, q2, q3, q4⟩ := pSeq_ok pNum_ok p2 h2
 obtain ⟨r1, r2, r3, r4⟩ := pSeq_ok pFun_ok q2 h3
 obtain ⟨s1, s2, s3, s4⟩ := pSeq_ok pNum_ok r2 h4
 refine ⟨by omega, s2, fun he => ?_, fun he => ?_⟩
 ·obtain ⟨u1, u2⟩ := p3 he
  obtain ⟨u3, u4⟩ := q3 (by omega)
  obtain ⟨u5, u6⟩ := r3 (by omega)
  obtain ⟨u7, u8⟩ := s3 (by omega)
  exact ⟨by omega, by omega⟩
 ·have z3 : e3 = 0 := OkP.zero (pSeq_ok pNum_ok) r2 h4 he
  have z2 : e2 = 0 := OkP.zero (pSeq_ok pFun_ok) q2 h3 z3
  have z1 : e1 = 0 := OkP.zero (pSeq_ok pNum_ok) p2 h2 z2
  have x1 := p4 z1
  have x2 := q4 z2
  have x3 := r4 z3
  have x4 := s4 he
  dsimp only at x1 x2 x3 x4
  rw [x1, x2, x3, x4]
  unfold packB listB
  simp only [List.append_assoc]
def okSt : Nat → MStmt → Prop
 | 0, s => False
 | n + 1, .mk k a b args body => 0 ≤ k ∧ k ≤ 7 ∧ (if k = 7 then a = ⟨0, 0⟩ ∧ b = ⟨0, 0⟩ ∧ args = [] ∧ body.length ≤ 1048576 ∧ ∀ s ∈ body, okSt n s else
   body = [] ∧ okRef b ∧ (if k = 5 then args.length ≤ 1048576 ∧ ∀ r ∈ args, okRef r else args = []) ∧ (if k = 6 then a = ⟨0, 0⟩ else okRef a))
theorem stmtB_pos (s : MStmt) : 0 < (stmtB s).length := by
 obtain ⟨k, a, b, args, body⟩ := s
 rw [stmtB, List.length_append]
 have := nuB_pos k; omega
theorem refB_pos (r : MRef) : 0 < (refB r).length := nuB_pos _
theorem pStmt_can {sub : Rd (List MStmt)} {n : Nat} (hs : CanP l sub bodyB (fun v => v.length ≤ 1048576 ∧ ∀ s ∈ v, okSt n s)) : CanP l (pStmt l sub) stmtB (okSt (n + 1)) := by
 intro v a r hv ha h
 obtain ⟨k, x, y, args, body⟩ := v
 obtain ⟨k0, k1, hv⟩ := hv
 obtain ⟨k, rfl⟩ : ∃ j : Nat, k = j := ⟨k.toNat, by omega⟩
 rw [stmtB, List.append_assoc] at h
 have e1 := pInt_can 7 (by omega) k a _ (by show k ≤ 7; omega) ha h
 dsimp only at e1
 obtain ⟨h1, a1⟩ := drop_enc h ha
 unfold pStmt
 rw [e1, stmtB]
 dsimp only
 by_cases k7 : k = 7
 ·subst k7
  rw [if_pos (by omega)] at hv h1 ⊢
  obtain ⟨rfl, rfl, rfl, hl, hb⟩ := hv
  rw [stmtsB_flat] at h1 ⊢
  have e2 := hs body _ r ⟨hl, hb⟩ a1 h1
  rw [if_pos (show ((7 : Nat) : Int) = 7 from rfl)]
  simp only [if_true, e2]
  unfold bodyB
  simp only [List.length_append, Nat.add_assoc]
  rfl
 ·have nk7 : ¬ (k : Int) = 7 := by omega
  rw [if_neg nk7] at hv h1 ⊢
  rw [if_neg k7]
  obtain ⟨rfl, hy, hargs, hx⟩ := hv
  rw [List.append_assoc, List.append_assoc] at h1
  have i5 : ((k : Int) = 5) ↔ k = 5 := by omega
  have i6 : ((k : Int) = 6) ↔ k = 6 := by omega
  simp only [i5, i6, ne_eq] at hargs hx h1 ⊢
  have s2 : (if k = 5 then pSeq l (pRef l) (a + (nuB (k : Int)).length) 0 else ([], a + (nuB (k : Int)).length, 0)) = (args, a + (nuB (k : Int)).length + (if k = 5 then nuB args.length ++ args.flatMap refB else []).length, 0) := by
   by_cases k5 : k = 5
   ·rw [if_pos k5] at hargs h1 ⊢
    rw [if_pos k5]
    have := pSeq_can pRef_can refB_pos args _ _ hargs a1 h1
    exact this
   ·rw [if_neg k5] at hargs ⊢
    rw [if_neg k5]
    subst hargs; simp
  obtain ⟨h2, a2⟩ := drop_enc h1 a1
  have s3 : (if ¬ k = 6 then pRef l (a + (nuB (k : Int)).length + (if k = 5 then nuB args.length ++ args.flatMap refB else []).length) 0 else (⟨0, 0⟩, a + (nuB (k : Int)).length + (if k = 5 then nuB args.length ++ args.flatMap refB else []).length, 0)) = (x, a + (nuB (k : Int)).length + (if k = 5 then nuB args.length ++ args.flatMap refB else []).length + (if ¬ k = 6 then refB x else []).length, 0) := by
   by_cases k6 : k = 6
   ·rw [if_pos k6] at hx
    rw [if_neg (show ¬ (¬ k = 6) from fun h => h k6), if_neg (show ¬ (¬ k = 6) from fun h => h k6)]
    subst hx; simp
   ·rw [if_neg k6] at hx
    rw [if_pos k6] at h2 ⊢
    rw [if_pos k6]
    exact pRef_can x _ _ hx a2 h2
  obtain ⟨h3, a3⟩ := drop_enc h2 a2
  rw [s2]
  dsimp only
  rw [s3]
  dsimp only
  rw [pRef_can y _ _ hy a3 h3]
  simp only [List.length_append, Nat.add_assoc]
theorem pBody_can : ∀ d, CanP l (pBody l (d + 1)) bodyB (fun v => v.length ≤ 1048576 ∧ ∀ s ∈ v, okSt d s)
 | 0 => by
  intro v a r hv ha h
  cases v with
  | nil =>
   rw [pBody]
   have : ∀ p : Rd MStmt, pSeq l p a 0 = ([], a + (bodyB []).length, 0) := fun p => by
    unfold pSeq
    have hb : bodyB [] = nuB ((0 : Nat) : Int) := by unfold bodyB; simp
    rw [hb] at h ⊢
    rw [pCount_can (n := 0) (x := []) (r := r) (by omega) (by simp) ha h]
    rfl
   exact this _
  | cons s v => exact (hv.2 s (by simp)).elim
 | d + 1 => by
  rw [pBody]
  exact pSeq_can (pStmt_can (pBody_can d)) stmtB_pos
structure okFnP (f : MFun) : Prop where
 name : 0 ≤ f.name ∧ f.name ≤ 1048576
 params : 0 ≤ f.params ∧ f.params ≤ 1048576
 locals : f.locals.length ≤ 1048576 ∧ ∀ n ∈ f.locals, 0 ≤ n ∧ n ≤ 1048576
 sites : f.sites.length ≤ 1048576 ∧ ∀ n ∈ f.sites, 0 ≤ n ∧ n ≤ 1048576
 body : f.body.length ≤ 1048576 ∧ ∀ s ∈ f.body, okSt 16 s
structure okPk (m : Mod) : Prop where
 strings : m.strings.length ≤ 1048576 ∧ ∀ s ∈ m.strings, s.size ≤ 40
 globals : m.globals.length ≤ 1048576 ∧ ∀ n ∈ m.globals, 0 ≤ n ∧ n ≤ 1048576
 funcs : m.funcs.length ≤ 1048576 ∧ ∀ f ∈ m.funcs, okFnP f
 entries : m.entries.length ≤ 1048576 ∧ ∀ n ∈ m.entries, 0 ≤ n ∧ n ≤ 1048576
theorem pFun_can : CanP l (pFun l) funB okFnP := by
 intro v a r hv ha h
 obtain ⟨n, p, ls, ss, b⟩ := v
 unfold funB listB at h
 dsimp only at h
 simp only [List.append_assoc] at h
 have e1 := pNum_can n a _ hv.name ha h
 obtain ⟨h1, a1⟩ := drop_enc h ha
 have e2 := pNum_can p _ _ hv.params a1 h1
 obtain ⟨h2, a2⟩ := drop_enc h1 a1
 rw [← List.append_assoc] at h2
 have e3 := pSeq_can pNum_can nuB_pos ls _ _ hv.locals a2 h2
 obtain ⟨h3, a3⟩ := drop_enc h2 a2
 rw [← List.append_assoc] at h3
 have e4 := pSeq_can pNum_can nuB_pos ss _ _ hv.sites a3 h3
 obtain ⟨h4, a4⟩ := drop_enc h3 a3
 have e5 := pBody_can 16 b _ _ hv.body a4 h4
 dsimp only at e3 e4
 unfold pFun
 rw [e1]; dsimp only
 rw [e2]; dsimp only
 rw [e3]; dsimp only
 rw [e4]; dsimp only
 rw [e5]
 unfold funB listB
 simp only [List.length_append, Nat.add_assoc]
theorem textB_pos (s : ByteArray) : 0 < (textB s).length := by unfold textB; rw [List.length_append]; have := nuB_pos s.size; omega
theorem funB_pos (f : MFun) : 0 < (funB f).length := by unfold funB; rw [List.length_append]; have := nuB_pos f.name; omega
theorem pMod_can : CanP l (pMod l) packB okPk := by
 intro v a r hv ha h
 obtain ⟨ss, gs, fs, es⟩ := v
 unfold packB listB at h
 dsimp only at h
 simp only [List.append_assoc] at h
 rw [← List.append_assoc] at h
 have e1 := pSeq_can pText_can textB_pos ss a _ hv.strings ha h
 obtain ⟨h1, a1⟩ := drop_enc h ha
 rw [← List.append_assoc] at h1
 have e2 := pSeq_can pNum_can nuB_pos gs _ _ hv.globals a1 h1
 obtain ⟨h2, a2⟩ := drop_enc h1 a1
 rw [← List.append_assoc] at h2
 have e3 := pSeq_can pFun_can funB_pos fs _ _ hv.funcs a2 h2
 obtain ⟨h3, a3⟩ := drop_enc h2 a2
 rw [← List.append_assoc] at h3
 have e4 := pSeq_can pNum_can nuB_pos es _ _ hv.entries a3 h3
 dsimp only at e1 e2 e3 e4
 unfold pMod
 rw [e1]; dsimp only
 rw [e2]; dsimp only
 rw [e3]; dsimp only
 rw [e4]
 unfold packB listB
 simp only [List.length_append, Nat.add_assoc]
end
end Go.Abs
