import Derived.Test.YtemnahkpffafoaaDoorPackRead
import Derived.Test.YtemnahkpffafoaaDoorRuleFine
set_option autoImplicit false
namespace Go.Proofs.YtemnahkpffafoaaDoor
open Go Go.Abs
def smallA (b : Nat) : Nat → MStmt → Prop
 | 0, _ => False
 | n + 1, s => s.args.length ≤ b ∧ ∀ t ∈ s.body, smallA b n t
section
variable {l : List UInt8}
theorem pMany_all {α : Type} {p : Rd α} {P : α → Prop} (hp : ∀ a e, P (p a e).1) : ∀ (n a e : Nat), ∀ x ∈ (pMany p n a e).1, P x
 | 0, a, e, x, h => by rw [pMany] at h; cases h
 | n + 1, a, e, x, h => by
  rw [pMany] at h
  dsimp only at h
  rcases h1 : p a e with ⟨y, a1, e1⟩
  rw [h1] at h
  rcases h2 : pMany p n a1 e1 with ⟨r, a2, e2⟩
  simp only [h2] at h
  rcases List.mem_cons.1 h with rfl | h
  ·have := hp a e; rw [h1] at this; exact this
  ·have := pMany_all hp n a1 e1 x; rw [h2] at this; exact this h
theorem pSeq_all {α : Type} {p : Rd α} {P : α → Prop} (hp : ∀ a e, P (p a e).1) (a e : Nat) : ∀ x ∈ (pSeq l p a e).1, P x := by
 unfold pSeq
 rcases h1 : pCount l a e with ⟨n, a1, e1⟩
 exact pMany_all hp n a1 e1
theorem pStmt_small {sub : Rd (List MStmt)} {n : Nat} (hs : ∀ a e, ∀ t ∈ (sub a e).1, smallA l.length n t) (a e : Nat) : smallA l.length (n + 1) (pStmt l sub a e).1 := by
 unfold pStmt
 rcases h1 : pInt 7 l a e with ⟨k, a1, e1⟩
 dsimp only
 by_cases h7 : k = 7
 ·rw [if_pos h7]
  have := hs a1 e1
  rcases h2 : sub a1 e1 with ⟨b, a2, e2⟩
  rw [h2] at this
  exact ⟨by simp [MStmt.args], this⟩
 ·rw [if_neg h7]
  rcases h2 : (if k = 5 then pSeq l (pRef l) a1 e1 else ([], a1, e1)) with ⟨args, a2, e2⟩
  dsimp only
  rcases h3 : (if k ≠ 6 then pRef l a2 e2 else (⟨0, 0⟩, a2, e2)) with ⟨x, a3, e3⟩
  dsimp only
  rcases h4 : pRef l a3 e3 with ⟨y, a4, e4⟩
  refine ⟨?_, fun t ht => by cases ht⟩
  by_cases h5 : k = 5
  ·rw [if_pos h5] at h2; exact pSeq_len h2
  ·rw [if_neg h5] at h2; cases h2; simp [MStmt.args]
theorem pBody_small : ∀ (d a e : Nat), ∀ t ∈ (pBody l d a e).1, smallA l.length d t
 | 0, a, e, t, h => by rw [pBody] at h; cases h
 | d + 1, a, e, t, h => by
  rw [pBody] at h
  exact pSeq_all (P := smallA l.length (d + 1)) (pStmt_small (pBody_small d)) a e t h
theorem pFun_small (a e : Nat) : ∀ t ∈ (pFun l a e).1.body, smallA l.length 17 t := by
 unfold pFun
 rcases h1 : pNum l a e with ⟨n, a1, e1⟩
 dsimp only
 rcases h2 : pNum l a1 e1 with ⟨p, a2, e2⟩
 dsimp only
 rcases h3 : pSeq l (pNum l) a2 e2 with ⟨ls, a3, e3⟩
 dsimp only
 rcases h4 : pSeq l (pNum l) a3 e3 with ⟨ss, a4, e4⟩
 dsimp only
 have := pBody_small (l := l) 17 a4 e4
 rcases h5 : pBody l 17 a4 e4 with ⟨b, a5, e5⟩
 rw [h5] at this
 exact this
theorem pMod_small (a e : Nat) : ∀ f ∈ (pMod l a e).1.funcs, ∀ t ∈ f.body, smallA l.length 17 t := by
 unfold pMod
 rcases h1 : pSeq l (pText l) a e with ⟨n, a1, e1⟩
 dsimp only
 rcases h2 : pSeq l (pNum l) a1 e1 with ⟨p, a2, e2⟩
 dsimp only
 have := pSeq_all (l := l) (p := pFun l) (P := fun f => ∀ t ∈ f.body, smallA l.length 17 t) pFun_small a2 e2
 rcases h3 : pSeq l (pFun l) a2 e2 with ⟨ls, a3, e3⟩
 rw [h3] at this
 dsimp only
 rcases h4 : pSeq l (pNum l) a3 e3 with ⟨ss, a4, e4⟩
 exact this
end
theorem flats_small {b : Nat} : ∀ (N : Nat) (rest : List MStmt) (d k : Nat), SizeOf.sizeOf rest ≤ N → (∀ s ∈ rest, ∃ n, smallA b n s) → ∀ x ∈ flats d k rest, x.s.args.length ≤ b := by
 intro N
 induction N with
 | zero => intro rest d k hs; cases rest <;> simp at hs
 | succ N ih =>
  intro rest d k hs hx x hm
  cases rest with
  | nil => rw [flats_nil] at hm; cases hm
  | cons s r =>
   have hsz : SizeOf.sizeOf r ≤ N := by simp at hs; omega
   obtain ⟨n, hn⟩ := hx s (by simp)
   obtain ⟨n, rfl⟩ : ∃ m, n = m + 1 := by cases n with
    | zero => exact hn.elim
    | succ m => exact ⟨m, rfl⟩
   obtain ⟨n1, n2⟩ := hn
   obtain ⟨kd, a, c, args, body⟩ := s
   by_cases h7 : kd = 7 ∧ d < 1000
   ·rw [flats_in d k kd a c args body r h7] at hm
    rcases List.mem_cons.1 hm with rfl | hm
    ·exact n1
    ·rcases List.mem_append.1 hm with hm | hm
     ·exact ih body (d + 1) (k + 1) (by simp at hs; omega) (fun t ht => ⟨n, n2 t ht⟩) x hm
     ·exact ih r d _ hsz (fun t ht => hx t (by simp [ht])) x hm
   ·rw [flats_by d k kd a c args body r h7] at hm
    rcases List.mem_cons.1 hm with rfl | hm
    ·exact n1
    ·exact ih r d (k + 1) hsz (fun t ht => hx t (by simp [ht])) x hm
theorem flats_bytes : ∀ (N : Nat) (rest : List MStmt) (d k : Nat), SizeOf.sizeOf rest ≤ N → (flats d k rest).length ≤ (rest.flatMap stmtB).length := by
 intro N
 induction N with
 | zero => intro rest d k hs; cases rest <;> simp at hs
 | succ N ih =>
  intro rest d k hs
  cases rest with
  | nil => rw [flats_nil]; simp
  | cons s r =>
   have hsz : SizeOf.sizeOf r ≤ N := by simp at hs; omega
   obtain ⟨kd, a, c, args, body⟩ := s
   rw [List.flatMap_cons, List.length_append]
   by_cases h7 : kd = 7 ∧ d < 1000
   ·rw [flats_in d k kd a c args body r h7]
    have i1 := ih body (d + 1) (k + 1) (by simp at hs; omega)
    have i2 := ih r d (k + 1 + (flats (d + 1) (k + 1) body).length) hsz
    have n1 := nuB_pos kd
    rw [stmtB, if_pos h7.1, stmtsB_flat]
    simp only [List.length_append, List.length_cons]
    omega
   ·rw [flats_by d k kd a c args body r h7]
    have i2 := ih r d (k + 1) hsz
    have := stmtB_pos (.mk kd a c args body)
    simp only [List.length_cons]
    omega
theorem mem_flat {α β : Type} {f : α → List β} {x : α} : ∀ {l : List α}, x ∈ l → (f x).length ≤ (l.flatMap f).length
 | y :: l, h => by
  rw [List.flatMap_cons, List.length_append]
  rcases List.mem_cons.1 h with rfl | h
  ·omega
  ·have := mem_flat (f := f) h; omega
 | [], h => by cases h
theorem read_fits {l : List UInt8} (hl : l.length ≤ lenB) {m : Mod} {a : Nat} (h : pMod l 0 0 = (m, a, 0)) : m.strings.length ≤ big ∧ m.funcs.length ≤ big ∧ argsOk m ∧ (packB m).length ≤ l.length ∧ l.take a = packB m ∧ a ≤ l.length := by
 obtain ⟨h1, h2, h3, h4⟩ := pMod_ok (Nat.zero_le _) h
 have h5 := h4 rfl
 rw [List.drop_zero] at h5
 have hle : (packB m).length = a := by
  have := congrArg List.length h5
  rw [List.length_append, List.length_drop] at this
  omega
 have hs := pMod_small (l := l) 0 0
 rw [h] at hs
 unfold lenB at hl
 have g1 := flat_ge textB_pos m.strings
 have g2 := flat_ge funB_pos m.funcs
 have hp : (m.strings.flatMap textB).length + (m.funcs.flatMap funB).length ≤ (packB m).length := by
  unfold packB; simp only [List.length_append]; omega
 refine ⟨by unfold big; omega, by unfold big; omega, fun f hf => ⟨?_, fun x hx => ?_⟩, by omega, ?_, h2⟩
 ·have k1 := flats_bytes _ f.body 0 0 (Nat.le_refl _)
  have k2 : (funB f).length ≤ (m.funcs.flatMap funB).length := mem_flat hf
  have k3 : (f.body.flatMap stmtB).length ≤ (funB f).length := by unfold funB bodyB; simp only [List.length_append]; omega
  unfold big; omega
 ·have := flats_small _ f.body 0 0 (Nat.le_refl _) (fun s hs' => ⟨17, hs f hf s hs'⟩) x hx
  omega
 ·have : l.take a = (packB m ++ l.drop a).take a := by rw [← h5]
  rw [this, ← hle, List.take_left]
def noM : Mod := ⟨[], [], [], []⟩
def simpleV (e : Int) : List V := [I e, I 0, I 0, I 0, I 0, I (-1), I (-1)]
def decQ (q : List UInt8) : Mod × List V :=
 if q.length < 4 then (noM, simpleV 4) else if q.take 4 ≠ markB then (noM, simpleV 4) else match pMod (q.drop 4) 0 0 with
  | (m, a, e) => if e ≠ 0 ∨ a < (q.drop 4).length then (noM, simpleV 4) else match checkR m with
   | none => (m, faultV none)
   | some x => (noM, faultV (some x))
def decB (b : List UInt8) : Mod × List V := if (openB b).2 ≠ 0 then (noM, simpleV (openB b).2) else decQ (openB b).1
abbrev decV (x : Mod × List V) : V := .tup [.agg (modV x.1), .agg x.2]
theorem open_le (p : List UInt8) : (openB p).1.length ≤ p.length := by
 unfold openB
 split
 ·simp
 ·split <;> simp
abbrev zf : Ob := .cells [N .i64 0, N .i64 0, N .i64 0, N .i64 0, N .i64 0, N .i64 0, N .i64 0]
theorem End_2 {l : List UInt8} {a e : Nat} (hl : l.length < 9223372036854775808) (ha : a ≤ l.length) (m : Mod) : run w0 28 [.ptr 2 0] [.cells [nilS, nilS, nilS, nilS], zf, .cells [.f (.lst l.length (bF l)), N .i64 (a : Int), N .i64 (e : Int)], .cells [.ptr 2 0], .cells (modV m)] = some (.ret (I (if e ≠ 0 then e else if a < l.length then 4 else 0)), [.cells [nilS, nilS, nilS, nilS], zf, .cells [.f (.lst l.length (bF l)), N .i64 (a : Int), N .i64 (e : Int)], .cells [.ptr 2 0], .cells (modV m)]) := by
 rw [End_p2_c4c7c3c1c4, show frzF (.lst l.length (bF l)) = .lst l.length (bF l) from rfl]
 by_cases he : e = 0
 ·subst he
  have : End_0 (.lst l.length (bF l)) a ((0 : Nat) : Int) = _ := End_ok hl ha
  rw [this, if_neg (show ¬ ((0 : Nat) ≠ 0) by simp)]
  exact withH_scal _ _ _ _ rfl
 ·rw [End_was (by omega), if_pos he]
  exact withH_scal _ _ _ _ rfl
theorem pDecode_core (b : List UInt8) (hb : b.length ≤ lenB) : pDecode_0 b.length (bF b) = some (.ret (decV (decB b)), []) := by
 have hb' := hb
 unfold lenB at hb'
 rw [pDecode_eq, sumOpen_spec (by unfold roomB; omega), pO_some]
 have hle := open_le b
 unfold decB
 rcases hqe : openB b with ⟨q, e⟩
 rw [hqe] at hle
 dsimp only at hle ⊢
 simp only [V.tup?, V.lst?, V.f?, F.lst?, V.int?, F.int?, List.getElem?_cons_zero, List.getElem?_cons_succ, Option.bind_some, List.length_cons, List.length_nil, if_true]
 by_cases he : e = 0
 ·subst he
  rw [if_neg (by simp), if_neg (show ¬ ((0 : Nat) ≠ 0) by simp)]
  unfold decQ
  by_cases hq : q.length < 4
  ·rw [if_neg (by simp; omega), if_pos hq]
   rfl
  ·rw [if_pos (by simp; omega), if_neg hq, if_pos ⟨by omega, by omega⟩, Option.bind_some]
   have e4 : ((bF q).take 4) = bF (q.take 4) := by simp [bF, List.map_take]
   simp only [Int.reduceToNat, Nat.sub_zero, Nat.mul_one, List.drop_zero, e4]
   rw [if_pos (by simp; omega), strOfF_bF, Option.map_some, Option.bind_some]
   have hb : (ByteArray.toList ⟨(q.take 4).toArray⟩ == (⟨#[87, 86, 77, 49]⟩ : ByteArray).toList) = decide (q.take 4 = markB) := by
    rw [ba_mk, show (⟨#[87, 86, 77, 49]⟩ : ByteArray).toList = markB from ba_mk markB, Bool.eq_iff_iff]; simp
   rw [hb]
   by_cases hm : q.take 4 = markB
   ·rw [if_neg (by simp [hm]), if_neg (show ¬ (q.take 4 ≠ markB) by simpa using hm), Option.bind_some]
    have e5 : (List.take (q.length - 4) (List.drop 4 (bF q))) = bF (q.drop 4) := by rw [List.take_of_length_le (by simp)]; simp [bF, List.map_drop]
    rw [e5, show q.length - 4 = (q.drop 4).length by simp]
    have hl : (q.drop 4).length ≤ lenB := by unfold lenB; simp; omega
    generalize q.drop 4 = l at hl
    have hl' := hl
    unfold lenB at hl'
    rw [NewReader_at l (by unfold roomB; omega), pO_some]
    simp only [asPtr, asCells, rdr, List.length_cons, List.length_nil, List.cons_append, List.nil_append, List.getElem?_cons_zero, List.getElem?_cons_succ, Option.bind_some, V.f?, V.int?, F.int?, if_true, and_self]
    rcases hp : pMod l 0 0 with ⟨m, a, e⟩
    have hpo := pMod_ok (Nat.zero_le _) hp
    have hr := (prmodule_reads hl) (h := [.cells [nilS, nilS, nilS, nilS], zf, rdr l 0 ((0 : Nat) : Int), .cells [.ptr 2 0]]) (k := 2) rfl (Nat.zero_le _) hp
    have hr' : run w0 27 [.agg [.ptr 2 0]] [.cells [nilS, nilS, nilS, nilS], zf, .cells [.f (.lst l.length (bF l)), N .i64 ((0 : Nat) : Int), N .i64 0], .cells [.ptr 2 0]] = some (.ret (modVV m), [.cells [nilS, nilS, nilS, nilS], zf, .cells [.f (.lst l.length (bF l)), N .i64 (a : Int), N .i64 (e : Int)], .cells [.ptr 2 0]]) := hr
    rw [hr', pO_some]
    simp only [asCells, List.length_cons, List.length_nil, List.getElem?_cons_zero, List.getElem?_cons_succ, Option.bind_some, V.f?, V.int?, F.int?, if_true, V.agg?, cL, V.lst?, F.lst?]
    have hE := End_2 (l := l) (a := a) (e := e) (by omega) hpo.2.1 m
    unfold modV zf at hE
    rw [hE, pI_some]
    by_cases h0 : e ≠ 0 ∨ a < l.length
    ·rw [if_pos h0]
     rw [if_pos (by
      by_cases he : e ≠ 0
      ·rw [if_pos he]; simpa using he
      ·rw [if_neg he, if_pos (by omega)]; rfl)]
     rfl
    ·rw [if_neg h0]
     have he : e = 0 := by omega
     subst he
     obtain ⟨r1, r2, r3, r4, r5, r6⟩ := read_fits hl hp
     rw [if_neg (by rw [if_neg (by simp), if_neg (by omega)]; decide)]
     have hC := ruleCheck_spec m r1 r2 r3
     unfold modV at hC
     rw [hC, pA_some]
     cases hc : checkR m with
     | none =>
      simp only [faultV, cI, List.getElem?_cons_zero, List.getElem?_cons_succ, Option.bind_some, V.int?, V.f?, F.int?, if_true, List.length_cons, List.length_nil]
      rw [if_neg (by simp)]
     | some x =>
      obtain ⟨x1, x2, x3⟩ := x
      simp only [faultV, cI, List.getElem?_cons_zero, List.getElem?_cons_succ, Option.bind_some, V.int?, V.f?, F.int?, if_true, List.length_cons, List.length_nil]
      rw [if_pos (by rfl)]
      rfl
   ·rw [if_pos (by simp [hm]), if_pos hm]; rfl
 ·rw [if_pos (by simpa using he), if_pos he]
  rfl
theorem own_pDecode : OwnFn w0 11 Tryd.f11 [.val] [.val, .val] := ⟨rfl, by kernel_rfl, rfl, by kernel_rfl, _, _, rfl⟩
theorem decV_ren (x : Mod × List V) (h : ∀ k, rens k x.2 = x.2) (k : Nat → Nat) : ren k (decV x) = decV x := by
 unfold decV modV
 simp [ren, rens, h]
theorem decB_ren (b : List UInt8) (k : Nat → Nat) : rens k (decB b).2 = (decB b).2 := by
 unfold decB decQ
 split
 ·rfl
 split
 ·rfl
 split
 ·rfl
 rcases hp : pMod ((openB b).1.drop 4) 0 0 with ⟨m, a, e⟩
 dsimp only
 split
 ·rfl
 cases hc : checkR m with
 | none => rfl
 | some x => rfl
theorem pDecode_spec {h : H} (b : List UInt8) (hb : b.length ≤ lenB) : run w0 11 [.f (.lst b.length (bF b))] h = some (.ret (decV (decB b)), h) := by
 rw [call_vals own_pDecode (of_decide_eq_true (by kernel_rfl)) rfl]
 have e : coreOf w0 11 Tryd.f11 [.val, .val] none [.f (.lst b.length (bF b))] [] = pDecode_0 b.length (bF b) := rfl
 rw [e, pDecode_core b hb]
 simp [graft, decV_ren _ (decB_ren b)]
end Go.Proofs.YtemnahkpffafoaaDoor
namespace Go.Proofs.YtemnahkpffafoaaDoor
open Go Go.Abs
section
variable {l rest : List MStmt} {s : MStmt} {i : Nat} (h : l.drop i = s :: rest)
include h
theorem at_kind (K : Int → R) : (elem (.lst l.length (stmtsF l)) (i : Int) 7 fun c => atI .u8 (c.drop 0) 0 K) = K s.kind := by
 rw [elem_next MStmt.F_len h, MStmt.F_eq]; simp
theorem at_a (K : Int → Int → R) : (elem (.lst l.length (stmtsF l)) (i : Int) 7 fun c => atI .u8 (c.drop 1) 0 fun n => atI .i64 (c.drop 1) 1 fun m => K n m) = K s.a.k s.a.id := by
 rw [elem_next MStmt.F_len h, MStmt.F_eq]; simp
theorem at_b (K : Int → Int → R) : (elem (.lst l.length (stmtsF l)) (i : Int) 7 fun c => atI .u8 (c.drop 3) 0 fun n => atI .i64 (c.drop 3) 1 fun m => K n m) = K s.b.k s.b.id := by
 rw [elem_next MStmt.F_len h, MStmt.F_eq]; simp
theorem at_args (K : Nat → List F → R) : (elem (.lst l.length (stmtsF l)) (i : Int) 7 fun c => atL (c.drop 5) 0 fun m c => K m c) = K s.args.length (refsF s.args) := by
 rw [elem_next MStmt.F_len h, MStmt.F_eq]; simp
theorem at_body (K : Nat → List F → R) : (elem (.lst l.length (stmtsF l)) (i : Int) 7 fun c => atL (c.drop 6) 0 fun m c => K m c) = K s.body.length (stmtsF s.body) := by
 rw [elem_next MStmt.F_len h, MStmt.F_eq]; simp
end
theorem at_ref {l rest : List MRef} {s : MRef} {i : Nat} (h : l.drop i = s :: rest) (K : Int → Int → R) : (elem (.lst l.length (refsF l)) (i : Int) 2 fun c => atI .u8 c 0 fun n => atI .i64 c 1 fun m => K n m) = K s.k s.id := by
 rw [elem_next MRef.F_len h]; simp [MRef.F]
theorem ints_loop (l : List Int) (hl : l.length ≤ 1048576) : ∀ (rest : List Int) (i : Nat), l.drop i = rest → dsameInts_1 l.length (kF .i64 l) l.length (kF .i64 l) i = some (.ret (B true), [])
 | [], i, hd => by
  have := done_of_drop hd
  rw [dsameInts_1_eq, if_neg (by simp; omega)]
 | n :: rest, i, hd => by
  have hlt := lt_of_drop hd
  rw [dsameInts_1_eq, if_pos (decide_eq_true (by omega)), elem_kF hd, atI_zero, elem_kF hd, atI_zero, if_neg (by simp), show ((i : Nat) : Int) + 1 = ((i + 1 : Nat) : Int) by omega, wrap_i64 (by omega) (by omega)]
  exact ints_loop l hl rest (i + 1) (drop_next hd)
theorem ints_same (l : List Int) (hl : l.length ≤ 1048576) (h : H) : run w0 33 [.f (.lst l.length (kF .i64 l)), .f (.lst l.length (kF .i64 l))] h = some (.ret (B true), h) := by
 rw [dsameInts_run, dsameInts_eq, if_neg (by simp)]
 have : dsameInts_1 l.length (kF .i64 l) l.length (kF .i64 l) ((0 : Nat) : Int) = _ := ints_loop l hl l 0 rfl
 exact (congrArg (withH true h) this).trans (withH_true _ _ _)
theorem okSt_len {n : Nat} {s : MStmt} (h : okSt (n + 1) s) : s.args.length ≤ 1048576 ∧ s.body.length ≤ 1048576 ∧ ∀ t ∈ s.body, okSt n t := by
 obtain ⟨k, a, b, args, body⟩ := s
 obtain ⟨k0, k7, h⟩ := h
 by_cases h7 : k = 7
 ·rw [if_pos h7] at h
  obtain ⟨_, _, h1, h2, h3⟩ := h
  exact ⟨by rw [show (MStmt.mk k a b args body).args = args from rfl, h1]; simp, h2, h3⟩
 ·rw [if_neg h7] at h
  obtain ⟨h1, h2, h3, h4⟩ := h
  refine ⟨?_, by rw [show (MStmt.mk k a b args body).body = body from rfl, h1]; simp, by rw [show (MStmt.mk k a b args body).body = body from rfl, h1]; simp⟩
  show args.length ≤ 1048576
  by_cases h5 : k = 5
  ·rw [if_pos h5] at h3; exact h3.1
  ·rw [if_neg h5] at h3; rw [h3]; simp
theorem body_args {body rest : List MStmt} {s : MStmt} {i : Nat} (hd : body.drop i = s :: rest) (hi : body.length ≤ 1048576) (hl : s.args.length ≤ 1048576) : ∀ (ar : List MRef) (j : Nat), s.args.drop j = ar → dSameBody_2 body.length (stmtsF body) body.length (stmtsF body) i j = dSameBody_1 body.length (stmtsF body) body.length (stmtsF body) ((i + 1 : Nat) : Int)
 | [], j, h => by
  have := done_of_drop h
  have hlt := lt_of_drop hd
  rw [dSameBody_2_eq, at_args hd, if_neg (by simp; omega), show ((i : Nat) : Int) + 1 = ((i + 1 : Nat) : Int) by omega, wrap_i64 (by omega) (by omega)]
 | r :: ar, j, h => by
  have hlt := lt_of_drop h
  rw [dSameBody_2_eq, at_args hd, if_pos (decide_eq_true (by omega)), at_args hd, at_ref h, at_args hd, at_ref h, if_neg (by simp), show ((j : Nat) : Int) + 1 = ((j + 1 : Nat) : Int) by omega, wrap_i64 (by omega) (by omega)]
  exact body_args hd hi hl ar (j + 1) (drop_next h)
theorem body_loop (n : Nat) (ih : ∀ b, okBody n b → ∀ h : H, run w0 34 [.f (.lst b.length (stmtsF b)), .f (.lst b.length (stmtsF b))] h = some (.ret (B true), h)) (body : List MStmt) (hl : body.length ≤ 1048576) : ∀ (rest : List MStmt) (i : Nat), body.drop i = rest → (∀ s ∈ rest, okSt (n + 1) s) →
  dSameBody_1 body.length (stmtsF body) body.length (stmtsF body) i = some (.ret (B true), [])
 | [], i, hd, hs => by
  have := done_of_drop hd
  rw [dSameBody_1_eq, if_neg (by simp; omega)]
 | s :: rest, i, hd, hs => by
  have hlt := lt_of_drop hd
  obtain ⟨s1, s2, s3⟩ := okSt_len (hs s (by simp))
  rw [dSameBody_1_eq, if_pos (decide_eq_true (by omega)), at_kind hd, at_kind hd, if_pos (by simp), at_a hd, at_a hd, if_pos (by simp), at_b hd, at_b hd, if_pos (by simp), at_args hd, at_args hd, if_pos (by simp), at_body hd, at_body hd, ih s.body ⟨s2, s3⟩, pB_some, if_neg (by simp)]
  have := body_args hd hl s1 s.args 0 rfl
  refine Eq.trans this ?_
  exact body_loop n ih body hl rest (i + 1) (drop_next hd) (fun x hx => hs x (by simp [hx]))
theorem body_same : ∀ (n : Nat) (b : List MStmt), okBody n b → ∀ h : H, run w0 34 [.f (.lst b.length (stmtsF b)), .f (.lst b.length (stmtsF b))] h = some (.ret (B true), h)
 | n, b, hb, h => by
  obtain ⟨h1, h2⟩ := hb
  have e : dSameBody_1 b.length (stmtsF b) b.length (stmtsF b) ((0 : Nat) : Int) = some (.ret (B true), []) := by
   match n, h2 with
   | 0, h2 =>
    cases b with
    | nil => rw [dSameBody_1_eq, if_neg (by simp)]
    | cons s r => exact (h2 s (by simp)).elim
   | n + 1, h2 => exact body_loop n (body_same n) b h1 b 0 rfl h2
  rw [dSameBody_run, dSameBody_eq, if_neg (by simp)]
  exact (congrArg (withH true h) e).trans (withH_true _ _ _)
section
variable (m : Abs.Mod)
noncomputable abbrev DS1 (i : Int) : R := dSame_1 m.strings.length (sF m.strings) m.globals.length (kF .i64 m.globals) m.funcs.length (funsF m.funcs) m.entries.length (kF .i64 m.entries) m.strings.length (sF m.strings) m.globals.length (kF .i64 m.globals) m.funcs.length (funsF m.funcs) m.entries.length (kF .i64 m.entries) i
noncomputable abbrev DS2 (i : Int) : R := dSame_2 m.strings.length (sF m.strings) m.globals.length (kF .i64 m.globals) m.funcs.length (funsF m.funcs) m.entries.length (kF .i64 m.entries) m.strings.length (sF m.strings) m.globals.length (kF .i64 m.globals) m.funcs.length (funsF m.funcs) m.entries.length (kF .i64 m.entries) i
theorem same2 (hk : okPk m) : ∀ (rest : List MFun) (i : Nat), m.funcs.drop i = rest → DS2 m i = some (.ret (B true), [])
 | [], i, hd => by
  have := done_of_drop hd
  unfold DS2
  rw [dSame_2_eq, if_neg (by simp; omega)]
 | f :: rest, i, hd => by
  have hlt := lt_of_drop hd
  have hm : f ∈ m.funcs := List.mem_of_mem_drop (by rw [hd]; simp : f ∈ m.funcs.drop i)
  have hl := hk.funcs.1
  obtain ⟨_, _, f3, f4, f5⟩ := hk.funcs.2 f hm
  have next := same2 hk rest (i + 1) (drop_next hd)
  unfold DS2 at next ⊢
  rw [dSame_2_eq, if_pos (decide_eq_true (by omega)), elem_next MFun.F_len hd]
  simp only [MFun.F, List.cons_append, List.nil_append, atI_zero, atI_succ, atL_zero, atL_succ]
  rw [elem_next MFun.F_len hd]
  simp only [MFun.F, List.cons_append, List.nil_append, atI_zero, atI_succ, atL_zero, atL_succ]
  rw [if_pos (by simp), if_pos (by simp), ints_same _ f3.1, pB_some, if_pos (by simp), ints_same _ f4.1, pB_some, if_pos (by simp), body_same 16 f.body f5, pB_some, if_neg (by simp),
   show ((i : Nat) : Int) + 1 = ((i + 1 : Nat) : Int) by omega, wrap_i64 (by omega) (by omega)]
  exact next
theorem same1 (hk : okPk m) : ∀ (rest : List ByteArray) (i : Nat), m.strings.drop i = rest → DS1 m i = some (.ret (B true), [])
 | [], i, hd => by
  have := done_of_drop hd
  have next := same2 m hk m.funcs 0 rfl
  unfold DS1
  rw [dSame_1_eq, if_neg (by simp; omega)]
  exact next
 | s :: rest, i, hd => by
  have hlt := lt_of_drop hd
  have hl := hk.strings.1
  have next := same1 hk rest (i + 1) (drop_next hd)
  unfold DS1 at next ⊢
  rw [dSame_1_eq, if_pos (decide_eq_true (by omega)), elem_sF hd, atS_zero, elem_sF hd, atS_zero, if_neg (by simp), show ((i : Nat) : Int) + 1 = ((i + 1 : Nat) : Int) by omega, wrap_i64 (by omega) (by omega)]
  exact next
theorem dSame_same (hk : okPk m) (h : H) : run w0 14 [.agg (modV m), .agg (modV m)] h = some (.ret (B true), h) := by
 have := same1 m hk m.strings 0 rfl
 unfold DS1 at this
 rw [dSame_run, dSame_eq, if_pos (by simp), ints_same _ hk.globals.1, pB_some, if_pos (by simp), ints_same _ hk.entries.1, pB_some, if_pos (by simp), if_neg (by simp)]
 exact (congrArg (withH true h) this).trans (withH_true _ _ _)
end
theorem dec_enc {m : Mod} (h : checkR m = none) : decB (sealB (markB ++ packB m)) = (m, faultV none) := by
 obtain ⟨hk, hlen⟩ := okPk_of h
 unfold decB
 rw [open_seal, if_neg (by simp)]
 unfold decQ
 have h4 : markB.length = 4 := rfl
 rw [if_neg (by rw [List.length_append]; omega), if_neg (by rw [show (4 : Nat) = markB.length from rfl, List.take_left]; simp)]
 have hd : (markB ++ packB m).drop 4 = packB m := by rw [show (4 : Nat) = markB.length from rfl, List.drop_left]
 have hc := pMod_can (l := packB m) m 0 [] hk (Nat.zero_le _) (by simp)
 rw [Nat.zero_add] at hc
 rw [hd, hc]
 dsimp only
 rw [if_neg (by omega), h]
theorem seal_le (q : List UInt8) : (sealB q).length = q.length + 4 := seal_len q
theorem empty_check : checkR noM = none := by decide +kernel
theorem empty_args : argsOk noM := fun f hf => by cases hf
abbrev zf' : Ob := .cells [N .i64 0, N .i64 0, N .i64 0, N .i64 0, N .i64 0, N .i64 (-1), N .i64 (-1)]
theorem enc_go {r : R} {p : List UInt8} {h : H} (hr : r = some (.ret (.tup [.f (.lst p.length (bF p)), .agg (faultV none)]), h)) (K : Nat → List F → Int → Int → Int → Int → Int → Int → Int → R) :
  (pT r fun l1 => cL l1 0 fun m2 c2 => cA l1 1 fun l3 => cI .i64 l3 0 fun n4 => cI .i64 l3 1 fun n5 => cI .i64 l3 2 fun n6 => cI .i64 l3 3 fun n7 => cI .i64 l3 4 fun n8 => cI .i64 l3 5 fun n9 => cI .i64 l3 6 fun n10 => if l3.length = 7 then if l1.length = 2 then K m2 c2 n4 n5 n6 n7 n8 n9 n10 else none else none) = K p.length (bF p) 0 0 0 0 0 (-1) (-1) := by
 subst hr; rfl
theorem dec_go {r : R} {x : Mod} {n0 n1 n2 n3 n4 n5 n6 : Int} {g : H} (hr : r = some (.ret (decV (x, [I n0, I n1, I n2, I n3, I n4, I n5, I n6])), g)) {L : Nat} (hL : g.length = L) (K : H → Nat → List F → Nat → List F → Nat → List F → Nat → List F → Int → Int → Int → Int → Int → Int → Int → R) :
  (pO r fun v g => (V.tup? v).bind fun l11 => (l11[0]?).bind fun v12 => (V.agg? v12).bind fun l13 => cL l13 0 fun m14 c14 => cL l13 1 fun m15 c15 => cL l13 2 fun m16 c16 => cL l13 3 fun m17 c17 => if l13.length = 4 then (l11[1]?).bind fun v18 => (V.agg? v18).bind fun l19 => cI .i64 l19 0 fun n20 => cI .i64 l19 1 fun n21 => cI .i64 l19 2 fun n22 => cI .i64 l19 3 fun n23 => cI .i64 l19 4 fun n24 => cI .i64 l19 5 fun n25 => cI .i64 l19 6 fun n26 => if l19.length = 7 then if l11.length = 2 then if g.length = L then K g m14 c14 m15 c15 m16 c16 m17 c17 n20 n21 n22 n23 n24 n25 n26 else none else none else none else none) =
   K g x.strings.length (sF x.strings) x.globals.length (kF .i64 x.globals) x.funcs.length (funsF x.funcs) x.entries.length (kF .i64 x.entries) n0 n1 n2 n3 n4 n5 n6 := by
 subst hr; exact if_pos hL
theorem pEncode_nil (h0 : H) : run w0 10 [.agg [nilS, nilS, nilS, nilS]] h0 = withH true h0 (pEncode_0 0 [] 0 [] 0 [] 0 []) := (run_eq w0 ..).trans (by kernel_rfl)
theorem pawake_core : pawake_0 = some (.ret (B true), []) := by
 have hpk := okPk_of empty_check
 have hp : packB noM = [0, 0, 0, 0] := by decide +kernel
 have hq : markB ++ packB noM = [87, 86, 77, 49, 0, 0, 0, 0] := by rw [hp]; rfl
 have hE := (pEncode_nil []).trans ((pEncode_run ..).symm.trans (pEncode_spec noM (by decide) (by decide) empty_args empty_check hpk.1 (by rw [hp]; decide) []))
 have hD := pDecode_spec (h := [zf']) (sealB (markB ++ packB noM)) (by rw [seal_le, hq]; decide)
 rw [dec_enc empty_check] at hD
 rw [pawake_eq, enc_go hE, dec_go (x := noM) hD (L := 1) rfl]
 rw [if_pos (by rfl), if_pos (by rfl), if_pos (by simp), strOfF_bF]
 simp only [Option.map_some, Option.bind_some]
 have hs := rSeal_give (h := [zf', .cells [.f (.lst 0 []), .f (.lst 0 []), .f (.lst 0 []), .f (.lst 0 [])], zf', .fz (bF [87, 86, 77, 49, 0, 0, 0, 0])]) (k := 3) (p := [87, 86, 77, 49, 0, 0, 0, 0]) rfl (by decide)
 have hs' : run w0 12 [.ref 3 0 8 1] [zf', .cells [.f (.lst 0 []), .f (.lst 0 []), .f (.lst 0 []), .f (.lst 0 [])], zf', .fz [F.s (.int .u8 87), F.s (.int .u8 86), F.s (.int .u8 77), F.s (.int .u8 49), F.s (.int .u8 0), F.s (.int .u8 0), F.s (.int .u8 0), F.s (.int .u8 0)]] = _ := hs
 rw [hq]
 refine Eq.trans (congrArg (fun r => pO r _) hs') ?_
 rw [pO_some]
 simp only [V.lst?, V.f?, F.lst?, Option.bind_some]
 rw [if_pos (by rfl), if_pos (by simp), strOfF_bF]
 simp only [Option.map_some, Option.bind_some]
 rw [if_pos (by simp)]
 rfl
theorem pawake_spec (h : H) : run w0 8 [] h = some (.ret (B true), h) := by
 rw [pawake_run, pawake_core, withH_true]
end Go.Proofs.YtemnahkpffafoaaDoor
