/-
  A system out of bytes: what the function answers.
-/
import Derived.Test.YtlemkcclgneemaaDoorFileSpec4
set_option autoImplicit false
set_option linter.unusedVariables false
set_option linter.unusedSimpArgs false
namespace Go.Proofs.YtlemkcclgneemaaDoor
open Go Go.Abs

theorem NewReader_at {h : H} (p : List UInt8) (hp : p.length ≤ roomB) : run w0 20 [.f (.lst p.length (bF p))] h = some (.ret (.ptr h.length 0), h ++ [rdr p 0 0]) := by
  rw [call_vals own_NewReader (of_decide_eq_true (by kernel_rfl)) rfl]
  have e : coreOf w0 20 Tryd.f20 [.box [.val, .val, .val]] none [.f (.lst p.length (bF p))] [] = NewReader_0 p.length (bF p) := rfl
  rw [e, NewReader_eq]
  simp only [Nat.zero_add, Nat.mul_one, List.drop_zero]
  unfold roomB at hp
  rw [if_pos ⟨by decide, by simp, by decide⟩, if_pos (by omega), if_pos (by simp), bF_all]
  simp [graft, ren, rens, renO, rdr, reId]
/-- what Decode tells of bytes -/
def decR (p : List UInt8) : R := if (openB p).2 = 0 then dR (pSys (openB p).1) else some (.ret (.tup [.agg [I 0, .f (.lst 0 []), .f (.lst 0 [])], I ((openB p).2 : Nat)]), [])
section
variable {l : List UInt8} (hl : l.length < 9223372036854775808)
include hl in
theorem d6 {a e : Nat} (he : e ≠ 0) (ha : a ≤ l.length) (m n z v : Int) : fDecode_6 m n z (bx l) a e v = dR none := by
  rw [fDecode_6_eq]
  exact d7 hl he ha _ _ _ _ _ []
include hl in
theorem s5 {a e : Nat} (ha : a ≤ l.length) (m z v : Int) : fDecode_5 m z (bx l) a e v = fDecode_6 m (gst 0 131072 l a e).1 z (bx l) (gst 0 131072 l a e).2.1 (gst 0 131072 l a e).2.2 v := by
  rw [fDecode_5_eq]
  exact fget_go (h := [.cells [N .i64 z, nilS, nilS], rdr l a e, .cells [N .i64 v, nilS, nilS]]) (k := 1) (L := 3) (least := 0) (most := 131072) rfl rfl hl ha (fun n x n1 n2 => fDecode_6 m n z x n1 n2 v)
include hl in
theorem s4 {a e : Nat} (ha : a ≤ l.length) (z v : Int) : fDecode_4 v z (bx l) a e = fDecode_5 (gst 0 16384 l a e).1 z (bx l) (gst 0 16384 l a e).2.1 (gst 0 16384 l a e).2.2 v := by
  rw [fDecode_4_eq]
  exact fget_go (h := [.cells [N .i64 z, nilS, nilS], rdr l a e, .cells [N .i64 v, nilS, nilS]]) (k := 1) (L := 3) (least := 0) (most := 16384) rfl rfl hl ha (fun n x n1 n2 => fDecode_5 n z x n1 n2 v)
include hl in
theorem s3 {a e : Nat} (ha : a ≤ l.length) (z : Int) : fDecode_3 z (bx l) a e = fDecode_4 (gst 0 16384 l a e).1 z (bx l) (gst 0 16384 l a e).2.1 (gst 0 16384 l a e).2.2 := by
  rw [fDecode_3_eq]
  exact fget_go (h := [.cells [N .i64 z, nilS, nilS], rdr l a e]) (k := 1) (L := 2) (least := 0) (most := 16384) rfl rfl hl ha (fun n x n1 n2 => fDecode_4 n z x n1 n2)
include hl in
theorem a3 (z : Int) : fDecode_3 z (bx l) (0 : Nat) (0 : Nat) = dR (pBody l) := by
  rw [s3 hl (Nat.zero_le _)]
  unfold pBody
  have hz : l = l.drop 0 := rfl
  cases h1 : pGet 0 16384 l with
  | none =>
    obtain ⟨b1, b2⟩ := gst_bad (a := 0) (l := l) (Nat.zero_le _) h1
    rw [s4 hl b2, gst_dead b1, s5 hl b2, gst_dead b1, d6 hl b1 b2]; rfl
  | some q1 =>
  obtain ⟨v, r1⟩ := q1
  obtain ⟨a1, g1, ha1, e1⟩ := gst_ok (a := 0) (l := l) (Nat.zero_le _) h1
  rw [g1]
  dsimp only
  rw [s4 hl ha1]
  simp only [Option.bind_some]
  rw [← e1]
  cases h2 : pGet 0 16384 (l.drop a1) with
  | none =>
    obtain ⟨b1, b2⟩ := gst_bad ha1 h2
    rw [s5 hl b2, gst_dead b1, d6 hl b1 b2]; rfl
  | some q2 =>
  obtain ⟨m, r2⟩ := q2
  obtain ⟨a2, g2, ha2, e2⟩ := gst_ok ha1 h2
  obtain ⟨m1, m2, _⟩ := pGet_got h2
  rw [g2]
  dsimp only
  rw [s5 hl ha2]
  simp only [Option.bind_some]
  rw [← e2]
  cases h3 : pGet 0 131072 (l.drop a2) with
  | none =>
    obtain ⟨b1, b2⟩ := gst_bad ha2 h3
    rw [d6 hl b1 b2]; rfl
  | some q3 =>
  obtain ⟨n, r3⟩ := q3
  obtain ⟨a3, g3, ha3, e3⟩ := gst_ok ha2 h3
  obtain ⟨n1, n2, _⟩ := pGet_got h3
  rw [g3]
  dsimp only
  rw [fDecode_6_eq]
  simp only [Option.bind_some]
  rw [← e3]
  obtain ⟨m', rfl⟩ : ∃ m' : Nat, m = m' := ⟨m.toNat, by omega⟩
  obtain ⟨n', rfl⟩ : ∃ n' : Nat, n = n' := ⟨n.toNat, by omega⟩
  have := a7 hl m' n' (by omega) (by omega) z v m' 0 a3 [] (by omega) ha3 ⟨fun c hc => (List.not_mem_nil hc).elim, fun c hc => (List.not_mem_nil hc).elim, by simp, by simp⟩ (by simp)
  refine Eq.trans this ?_
  simp only [Int.toNat_natCast, List.nil_append]
  rfl
end
theorem fDecode_core (p : List UInt8) (hp : p.length ≤ roomB) : fDecode_0 p.length (bF p) = decR p := by
  rw [fDecode_eq, sumOpen_spec hp, pO_some]
  simp only [V.tup?, V.lst?, V.f?, F.lst?, V.int?, F.int?, List.getElem?_cons_zero, List.getElem?_cons_succ, Option.bind_some, List.length_cons, List.length_nil, if_true]
  have hle : (openB p).1.length ≤ p.length := by unfold openB; split; · simp
                                                 · split <;> simp
  unfold decR
  rcases hqe : openB p with ⟨q, e⟩
  rw [hqe] at hle
  dsimp only at hle ⊢
  unfold roomB at hp
  rw [fDecode_1_eq]
  by_cases he : e = 0
  · subst he
    rw [if_neg (by simp), if_pos rfl, fDecode_2_eq]
    by_cases hq : q.length < 4
    · rw [if_neg (by simp; omega)]
      unfold pSys
      rw [if_neg (fun hh => by have := congrArg List.length hh; simp [markB] at this; omega)]; rfl
    · rw [if_pos (by simp; omega), if_pos ⟨by omega, by omega⟩, Option.bind_some]
      have e4 : ((bF q).take 4) = bF (q.take 4) := by simp [bF, List.map_take]
      simp only [Int.reduceToNat, Nat.sub_zero, Nat.mul_one, List.drop_zero, e4]
      rw [if_pos (by simp; omega), strOfF_bF, Option.map_some, Option.bind_some]
      have hb : (ByteArray.toList ⟨(q.take 4).toArray⟩ == (⟨#[87, 86, 67, 49]⟩ : ByteArray).toList) = decide (q.take 4 = markB) := by
        rw [ba_mk, show (⟨#[87, 86, 67, 49]⟩ : ByteArray).toList = markB from ba_mk markB, Bool.eq_iff_iff]; simp
      rw [hb]
      unfold pSys
      by_cases hm : q.take 4 = markB
      · rw [if_pos hm, if_neg (by simp [hm]), Option.bind_some]
        have e5 : (List.take (q.length - 4) (List.drop 4 (bF q))) = bF (q.drop 4) := by rw [List.take_of_length_le (by simp)]; simp [bF, List.map_drop]
        have hn := NewReader_at (h := [.cells [N .i64 (0 : Nat), nilS, nilS]]) (q.drop 4) (by unfold roomB; simp; omega)
        rw [e5, show q.length - 4 = (q.drop 4).length by simp]
        have hn' : run w0 20 [.f (.lst (q.drop 4).length (bF (q.drop 4)))] [.cells [N .i64 0, nilS, nilS]] = _ := hn
        rw [hn', pO_some]
        simp only [asPtr, asCells, rdr, List.length_cons, List.length_nil, List.cons_append, List.nil_append, List.getElem?_cons_zero, List.getElem?_cons_succ, Option.bind_some, V.f?, V.int?, F.int?, if_true]
        exact a3 (l := q.drop 4) (by simp; omega) 0
      · rw [if_neg hm, if_pos (by simp [hm])]; rfl
  · rw [if_pos (by simpa using he), if_neg he]
end Go.Proofs.YtlemkcclgneemaaDoor
