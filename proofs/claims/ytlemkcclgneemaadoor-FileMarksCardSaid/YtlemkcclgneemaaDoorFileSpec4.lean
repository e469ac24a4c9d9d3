/-
  A system out of bytes: what the function answers (its loops).
-/
import Derived.Test.YtlemkcclgneemaaDoorFileSpec3
set_option autoImplicit false
set_option linter.unusedVariables false
set_option linter.unusedSimpArgs false
namespace Go.Proofs.YtlemkcclgneemaaDoor
open Go Go.Abs

section
variable {l : List UInt8} (hl : l.length < 9223372036854775808)
abbrev bx (l : List UInt8) : F := .lst l.length (bF l)
/-- lists as they are kept, and how many there are at most -/
def okL (cells : List MCell) (done : List MCon) : Prop := (∀ c ∈ cells, c.args.length ≤ 1000) ∧ (∀ c ∈ done, c.args.length ≤ 1000) ∧ cells.length ≤ 1000000 ∧ done.length ≤ 1000000

/-! ### behind a fault -/
theorem d12 {n : Nat} (hn : n ≠ 0) (z : Int) (a e : Nat) (vars : Int) (cells : List MCell) (done : List MCon) : fDecode_12 n z (bx l) a e vars cells.length (cellsF cells) done.length (consF done) = dR none := by
  rw [fDecode_12_eq, if_neg (by simpa using hn)]; rfl
include hl in
theorem d9 {a e : Nat} (he : e ≠ 0) (ha : a ≤ l.length) (cons i : Int) (z : Int) (vars : Int) (cells : List MCell) (done : List MCon) : fDecode_9 cons i z (bx l) a e vars cells.length (cellsF cells) done.length (consF done) = dR none := by
  have hE := End_at (h := [.cells [N .i64 z, nilS, nilS], .cells [.f (bx l), N .i64 a, N .i64 e], .cells [N .i64 vars, .f (.lst cells.length (cellsF cells)), .ref 3 0 done.length 4], .fz (consF done)]) hl ha (End_p1_c3c3c3z ..)
  rw [if_pos he] at hE
  rw [fDecode_9_eq]
  split
  · rw [Fault_p1_c3c3c3z_2, Fault_eq, withH_scal _ _ _ _ rfl, pI_some, fDecode_11_eq, if_neg (by simpa using he), hE, pI_some, d12 he]
  · rw [hE, pI_some, d12 he]
include hl in
theorem d7 {a e : Nat} (he : e ≠ 0) (ha : a ≤ l.length) (cells cons i : Int) (z : Int) (vars : Int) (done : List MCell) : fDecode_7 cells cons i z (bx l) a e vars done.length (cellsF done) = dR none := by
  have h9 := d9 hl he ha cons 0 z vars done []
  have h9' : fDecode_9 cons 0 z (bx l) a e vars done.length (cellsF done) 0 [] = _ := h9
  have hlen : (cellsF done).length = done.length * 3 := flat_len MCell.F_len done
  rw [fDecode_7_eq]
  simp only [Nat.zero_add, List.drop_zero]
  split
  · rw [Fault_p1_c3c3c3z, Fault_eq, withH_scal _ _ _ _ rfl, pI_some, fDecode_8_eq, if_neg (by simpa using he)]
    simp only [Nat.zero_add, List.drop_zero]
    rw [if_pos (by omega), List.take_of_length_le (by omega), h9']
  · rw [if_pos (by omega), List.take_of_length_le (by omega), h9']
theorem s20 (cons i z : Int) (a e : Nat) (vars : Int) (cells : List MCell) (done : List MCon) (hd : done.length ≤ 1000000) (ar : List Int) (kind ca cb : Int) :
    fDecode_20 cons i ar.length (kF .i64 ar) z (bx l) a e vars cells.length (cellsF cells) done.length (consF done) kind ca cb = fDecode_9 cons (IntKind.wrap .i64 (i + 1)) z (bx l) a e vars cells.length (cellsF cells) (done ++ [(⟨kind, ca, cb, ar⟩ : MCon)]).length (consF (done ++ [(⟨kind, ca, cb, ar⟩ : MCon)])) := by
  have hlen : (consF done).length = done.length * 4 := flat_len MCon.F_len done
  have he : consF done ++ [F.s (.int .u8 kind), F.s (.int .i64 ca), F.s (.int .i64 cb), F.lst ar.length (kF .i64 ar)] = consF (done ++ [(⟨kind, ca, cb, ar⟩ : MCon)]) := by rw [consF, consF, List.flatMap_append]; simp [MCon.F]
  have hlen2 : (consF (done ++ [(⟨kind, ca, cb, ar⟩ : MCon)])).length = (done.length + 1) * 4 := by rw [flat_len MCon.F_len]; simp
  rw [fDecode_20_eq]
  simp only [Nat.zero_add, List.drop_zero]
  rw [if_pos ⟨trivial, by omega⟩, if_pos (by omega), List.take_of_length_le (l := consF done) (by omega), he, if_pos (by omega), List.take_of_length_le (by omega)]
  simp
theorem s18 (cons i z : Int) (a e : Nat) (vars : Int) (cells : List MCell) (done : List MCon) (hd : done.length ≤ 1000000) (kind ca cb : Int) (hk : kind ≠ 5) :
    fDecode_18 cons i kind ca cb z (bx l) a e vars cells.length (cellsF cells) done.length (consF done) = fDecode_9 cons (IntKind.wrap .i64 (i + 1)) z (bx l) a e vars cells.length (cellsF cells) (done ++ [(⟨kind, ca, cb, []⟩ : MCon)]).length (consF (done ++ [(⟨kind, ca, cb, []⟩ : MCon)])) := by
  have hlen : (consF done).length = done.length * 4 := flat_len MCon.F_len done
  have he : consF done ++ [F.s (.int .u8 kind), F.s (.int .i64 ca), F.s (.int .i64 cb), F.lst 0 []] = consF (done ++ [(⟨kind, ca, cb, []⟩ : MCon)]) := by rw [consF, consF, List.flatMap_append]; simp [MCon.F, kF]
  have hlen2 : (consF (done ++ [(⟨kind, ca, cb, []⟩ : MCon)])).length = (done.length + 1) * 4 := by rw [flat_len MCon.F_len]; simp
  rw [fDecode_18_eq, if_neg (by simpa using hk)]
  simp only [Nat.zero_add, List.drop_zero]
  rw [if_pos ⟨trivial, by omega⟩, if_pos (by omega), List.take_of_length_le (l := consF done) (by omega), he, if_pos (by omega), List.take_of_length_le (by omega)]
  simp
include hl in
theorem s19 {a e n : Nat} (ha : a ≤ l.length) (hn : n ≤ 1000) (cons i z : Int) (vars : Int) (cells : List MCell) (done : List MCon) (kind ca cb : Int) :
    fDecode_19 cons i n z (bx l) a e vars cells.length (cellsF cells) done.length (consF done) kind ca cb = fDecode_20 cons i (ast (-1) l n a e).1.length (kF .i64 (ast (-1) l n a e).1) z (bx l) (ast (-1) l n a e).2.1 (ast (-1) l n a e).2.2 vars cells.length (cellsF cells) done.length (consF done) kind ca cb := by
  rw [fDecode_19_eq]
  exact fargs_go (h := [.cells [N .i64 z, nilS, nilS], rdr l a e, .cells [N .i64 vars, .f (.lst cells.length (cellsF cells)), .ref 3 0 done.length 4], .fz (consF done), .cells [N .u8 kind, N .i64 ca, N .i64 cb, nilS]]) (k := 1) (L := 5) rfl rfl hl ha hn (fun m c x n1 n2 => fDecode_20 cons i m c z x n1 n2 vars cells.length (cellsF cells) done.length (consF done) kind ca cb)
include hl in
theorem d18 {a e : Nat} (he : e ≠ 0) (ha : a ≤ l.length) (cons i z : Int) (vars : Int) (cells : List MCell) (done : List MCon) (hd : done.length ≤ 1000000) (kind ca cb : Int) :
    fDecode_18 cons i kind ca cb z (bx l) a e vars cells.length (cellsF cells) done.length (consF done) = dR none := by
  by_cases hk : kind = 5
  · rw [fDecode_18_eq, if_pos (by simpa using hk)]
    refine (fget_go (h := [.cells [N .i64 z, nilS, nilS], rdr l a e, .cells [N .i64 vars, .f (.lst cells.length (cellsF cells)), .ref 3 0 done.length 4], .fz (consF done), .cells [N .u8 kind, N .i64 ca, N .i64 cb, nilS]]) (k := 1) (L := 5) (least := 0) (most := 6) rfl rfl hl ha (fun n x n1 n2 => fDecode_19 cons i n z x n1 n2 vars cells.length (cellsF cells) done.length (consF done) kind ca cb)).trans ?_
    rw [gst_dead he, if_neg (by omega)]
    have := s19 hl (e := e) (n := 0) ha (by omega) cons i z vars cells done kind ca cb
    refine Eq.trans this ?_
    rw [s20 cons i z _ _ vars cells done hd]
    exact d9 hl he ha _ _ _ _ _ _
  · rw [s18 cons i z a e vars cells done hd kind ca cb hk]
    exact d9 hl he ha _ _ _ _ _ _
include hl in
theorem s17 {a e : Nat} (ha : a ≤ l.length) (cons i kind ca z : Int) (vars : Int) (cells : List MCell) (done : List MCon) :
    fDecode_17 cons i kind ca z (bx l) a e vars cells.length (cellsF cells) done.length (consF done) = fDecode_18 cons i kind ca (gst 0 16384 l a e).1 z (bx l) (gst 0 16384 l a e).2.1 (gst 0 16384 l a e).2.2 vars cells.length (cellsF cells) done.length (consF done) := by
  rw [fDecode_17_eq]
  exact fget_go (h := [.cells [N .i64 z, nilS, nilS], rdr l a e, .cells [N .i64 vars, .f (.lst cells.length (cellsF cells)), .ref 3 0 done.length 4], .fz (consF done)]) (k := 1) (L := 4) (least := 0) (most := 16384) rfl rfl hl ha (fun n x n1 n2 => fDecode_18 cons i kind ca n z x n1 n2 vars cells.length (cellsF cells) done.length (consF done))
include hl in
theorem s14 {a e : Nat} (ha : a ≤ l.length) (cons i kind z : Int) (vars : Int) (cells : List MCell) (done : List MCon) :
    fDecode_14 cons i kind z (bx l) a e vars cells.length (cellsF cells) done.length (consF done) = fDecode_17 cons i (IntKind.wrap .u8 kind) (gst (-1) 16384 l a e).1 z (bx l) (gst (-1) 16384 l a e).2.1 (gst (-1) 16384 l a e).2.2 vars cells.length (cellsF cells) done.length (consF done) := by
  rw [fDecode_14_eq]
  exact fget_go (h := [.cells [N .i64 z, nilS, nilS], rdr l a e, .cells [N .i64 vars, .f (.lst cells.length (cellsF cells)), .ref 3 0 done.length 4], .fz (consF done)]) (k := 1) (L := 4) (least := -1) (most := 16384) rfl rfl hl ha (fun n x n1 n2 => fDecode_17 cons i (IntKind.wrap .u8 kind) n z x n1 n2 vars cells.length (cellsF cells) done.length (consF done))
include hl in
theorem d17 {a e : Nat} (he : e ≠ 0) (ha : a ≤ l.length) (cons i kind ca z : Int) (vars : Int) (cells : List MCell) (done : List MCon) (hd : done.length ≤ 1000000) :
    fDecode_17 cons i kind ca z (bx l) a e vars cells.length (cellsF cells) done.length (consF done) = dR none := by
  rw [s17 hl ha, gst_dead he]
  exact d18 hl he ha _ _ _ _ _ _ hd _ _ _
include hl in
theorem d14 {a e : Nat} (he : e ≠ 0) (ha : a ≤ l.length) (cons i kind z : Int) (vars : Int) (cells : List MCell) (done : List MCon) (hd : done.length ≤ 1000000) :
    fDecode_14 cons i kind z (bx l) a e vars cells.length (cellsF cells) done.length (consF done) = dR none := by
  rw [s14 hl ha, gst_dead he]
  exact d17 hl he ha _ _ _ _ _ _ _ _ hd

/-! ### constraint by constraint -/
/-- what is told at the end -/
def endR (vars : Int) (cells : List MCell) (done : List MCon) (rest : List UInt8) : Option MSys := if rest = [] ∧ rightR ⟨vars, cells, done⟩ = true then some ⟨vars, cells, done⟩ else none
theorem a12 {a : Nat} (ha : a ≤ l.length) (z vars : Int) (cells : List MCell) (done : List MCon) (ho : okL cells done) :
    fDecode_12 (if a < l.length then (4 : Int) else 0) z (bx l) a (0 : Nat) vars cells.length (cellsF cells) done.length (consF done) = dR (endR vars cells done (l.drop a)) := by
  obtain ⟨o1, o2, o3, o4⟩ := ho
  by_cases h : a < l.length
  · rw [if_pos h, show (4 : Int) = ((4 : Nat) : Int) from rfl, d12 (by decide)]
    unfold endR
    rw [if_neg (fun hh => by have := congrArg List.length hh.1; simp at this; omega)]
  · have hd : l.drop a = [] := List.drop_of_length_le (by omega)
    have hlen : (consF done).length = done.length * 4 := flat_len MCon.F_len done
    have hs : smallS ⟨vars, cells, done⟩ := ⟨by dsimp only; omega, by dsimp only; omega, fun c hc => by have := o1 c hc; omega, fun c hc => by have := o2 c hc; omega⟩
    rw [if_neg h, fDecode_12_eq, if_pos (by simp), syRight_v_c3c3c3z]
    simp only [Nat.zero_add, List.drop_zero]
    rw [if_pos (by omega), List.take_of_length_le (by omega)]
    have hr : syRight_0 vars cells.length (cellsF cells) done.length (consF done) = _ := syRight_core ⟨vars, cells, done⟩ hs
    rw [hr, withH_scal _ _ _ _ rfl, pB_some, fDecode_15_eq]
    simp only [Nat.zero_add, List.drop_zero]
    unfold endR
    cases hb : rightR ⟨vars, cells, done⟩
    · rw [if_pos (by simp), if_neg (by simp)]; rfl
    · rw [if_neg (by simp), if_pos (by omega), List.take_of_length_le (by omega), if_pos ⟨hd, rfl⟩]; rfl
include hl in
theorem a9 (cons : Nat) (hc : cons ≤ 131072) (z vars : Int) (cells : List MCell) : ∀ (k i a : Nat) (done : List MCon), i + k = cons → a ≤ l.length → okL cells done → done.length ≤ i →
    fDecode_9 cons i z (bx l) a (0 : Nat) vars cells.length (cellsF cells) done.length (consF done) = dR ((pMany pCon k (l.drop a)).bind fun b => endR vars cells (done ++ b.1) b.2)
  | 0, i, a, done, hi, ha, ho, hdn => by
    have hE := End_at (h := [.cells [N .i64 z, nilS, nilS], .cells [.f (bx l), N .i64 a, N .i64 (0 : Nat)], .cells [N .i64 vars, .f (.lst cells.length (cellsF cells)), .ref 3 0 done.length 4], .fz (consF done)]) hl ha (End_p1_c3c3c3z ..)
    rw [if_neg (show ¬ ((0 : Nat) ≠ 0) by simp)] at hE
    rw [fDecode_9_eq, if_neg (by simp; omega), hE, pI_some]
    have := a12 ha z vars cells done ho
    simp only [pMany, Option.bind_some, List.append_nil]
    exact this
  | k + 1, i, a, done, hi, ha, ho, hdn => by
    have hd9 : done.length ≤ 1000000 := ho.2.2.2
    rw [fDecode_9_eq, if_pos (by simp; omega), Fault_p1_c3c3c3z_2, Fault_eq, withH_scal _ _ _ _ rfl, pI_some, fDecode_11_eq, if_pos (by simp)]
    refine (fget_go (h := [.cells [N .i64 z, nilS, nilS], rdr l a (0 : Nat), .cells [N .i64 vars, .f (.lst cells.length (cellsF cells)), .ref 3 0 done.length 4], .fz (consF done)]) (k := 1) (L := 4) (least := 1) (most := 5) rfl rfl hl ha (fun n x n1 n2 => fDecode_14 cons i n z x n1 n2 vars cells.length (cellsF cells) done.length (consF done))).trans ?_
    rw [pMany, pCon]
    cases h1 : pGet 1 5 (l.drop a) with
    | none => exact d14 hl (gst_bad ha h1).1 (gst_bad ha h1).2 _ _ _ _ _ _ _ hd9
    | some q1 =>
    obtain ⟨kind, r1⟩ := q1
    obtain ⟨a1, g1, ha1, e1⟩ := gst_ok ha h1
    obtain ⟨k1, k2, _⟩ := pGet_got h1
    rw [g1]
    dsimp only
    rw [s14 hl ha1, wrap_u8_in (by omega) (by omega)]
    simp only [Option.bind_some]
    rw [← e1]
    cases h2 : pGet (-1) 16384 (l.drop a1) with
    | none => exact d17 hl (gst_bad ha1 h2).1 (gst_bad ha1 h2).2 _ _ _ _ _ _ _ _ hd9
    | some q2 =>
    obtain ⟨ca, r2⟩ := q2
    obtain ⟨a2, g2, ha2, e2⟩ := gst_ok ha1 h2
    rw [g2]
    dsimp only
    rw [s17 hl ha2]
    simp only [Option.bind_some]
    rw [← e2]
    cases h3 : pGet 0 16384 (l.drop a2) with
    | none => exact d18 hl (gst_bad ha2 h3).1 (gst_bad ha2 h3).2 _ _ _ _ _ _ hd9 _ _ _
    | some q3 =>
    obtain ⟨cb, r3⟩ := q3
    obtain ⟨a3, g3, ha3, e3⟩ := gst_ok ha2 h3
    rw [g3]
    dsimp only
    simp only [Option.bind_some]
    rw [← e3]
    have next : ∀ (a4 : Nat) (ar : List Int), a4 ≤ l.length → ar.length ≤ 1000 →
        fDecode_9 cons (IntKind.wrap .i64 ((i : Int) + 1)) z (bx l) a4 (0 : Nat) vars cells.length (cellsF cells) (done ++ [(⟨kind, ca, cb, ar⟩ : MCon)]).length (consF (done ++ [(⟨kind, ca, cb, ar⟩ : MCon)])) = dR ((pMany pCon k (l.drop a4)).bind fun b => endR vars cells (done ++ (⟨kind, ca, cb, ar⟩ :: b.1)) b.2) := by
      intro a4 ar ha4 har
      rw [wrap_i64 (by omega) (by omega), show ((i : Int) + 1) = ((i + 1 : Nat) : Int) by omega]
      obtain ⟨o1, o2, o3, o4⟩ := ho
      have := a9 cons hc z vars cells k (i + 1) a4 (done ++ [(⟨kind, ca, cb, ar⟩ : MCon)]) (by omega) ha4 ⟨o1, fun c hc => by
        rcases List.mem_append.1 hc with hc | hc
        · exact o2 c hc
        · simp at hc; subst hc; exact har, o3, by simp; omega⟩ (by simp; omega)
      rw [this]
      simp
    by_cases k5 : kind = 5
    · rw [if_pos k5]
      rw [fDecode_18_eq, if_pos (by simpa using k5)]
      refine (fget_go (h := [.cells [N .i64 z, nilS, nilS], rdr l a3 (0 : Nat), .cells [N .i64 vars, .f (.lst cells.length (cellsF cells)), .ref 3 0 done.length 4], .fz (consF done), .cells [N .u8 kind, N .i64 ca, N .i64 cb, nilS]]) (k := 1) (L := 5) (least := 0) (most := 6) rfl rfl hl ha3 (fun n x n1 n2 => fDecode_19 cons i n z x n1 n2 vars cells.length (cellsF cells) done.length (consF done) kind ca cb)).trans ?_
      cases h4 : pGet 0 6 (l.drop a3) with
      | none =>
        obtain ⟨b1, b2⟩ := gst_bad ha3 h4
        obtain ⟨m, hm, hm2⟩ : ∃ m : Nat, (gst 0 6 l a3 0).1 = m ∧ m ≤ 1000 := by
          unfold gst
          rw [if_neg (by omega)]
          rcases hq : rdN 1099511627776 (l.drop a3) 0 0 with ⟨v, c, f⟩
          dsimp only
          split
          · split
            · rename_i hz; exact ⟨(zag v).toNat, by dsimp only; omega, by omega⟩
            · exact ⟨0, rfl, by omega⟩
          · exact ⟨0, rfl, by omega⟩
        rw [hm, s19 hl b2 hm2, s20 cons i z _ _ vars cells done hd9]
        exact d9 hl (ast_dead b1) (ast_le b2) _ _ _ _ _ _
      | some q4 =>
      obtain ⟨n, r4⟩ := q4
      obtain ⟨a4, g4, ha4, e4⟩ := gst_ok ha3 h4
      obtain ⟨n1, n2, _⟩ := pGet_got h4
      rw [g4]
      dsimp only
      simp only [Option.bind_some]
      rw [← e4]
      obtain ⟨m, rfl⟩ : ∃ m : Nat, n = m := ⟨n.toNat, by omega⟩
      rw [s19 hl ha4 (by omega), s20 cons i z _ _ vars cells done hd9, Int.toNat_natCast]
      cases h5 : pArgs (-1) m (l.drop a4) with
      | none => exact d9 hl (ast_bad ha4 h5) (ast_le ha4) _ _ _ _ _ _
      | some q5 =>
        obtain ⟨ar, r5⟩ := q5
        obtain ⟨a5, g5, ha5, e5⟩ := ast_ok ha4 h5
        rw [g5]
        dsimp only
        simp only [Option.bind_some]
        rw [← e5, next a5 ar ha5 (by have := (pArgs_got _ h5).1; omega)]
        cases pMany pCon k (l.drop a5) <;> rfl
    · rw [if_neg k5, s18 cons i z a3 0 vars cells done hd9 kind ca cb k5, next a3 [] ha3 (by simp)]
      simp only [Option.bind_some]
      cases pMany pCon k (l.drop a3) <;> rfl

/-! ### object by object -/
theorem s16 (cells cons i z : Int) (a e : Nat) (vars : Int) (done : List MCell) (hd : done.length ≤ 1000000) (ar : List Int) (fn : Bool) (var : Int) :
    fDecode_16 cells cons i ar.length (kF .i64 ar) z (bx l) a e vars done.length (cellsF done) fn var = fDecode_7 cells cons (IntKind.wrap .i64 (i + 1)) z (bx l) a e vars (done ++ [(⟨fn, var, ar⟩ : MCell)]).length (cellsF (done ++ [(⟨fn, var, ar⟩ : MCell)])) := by
  have hlen : (cellsF done).length = done.length * 3 := flat_len MCell.F_len done
  have he : cellsF done ++ [F.s (.bool fn), F.s (.int .i64 var), F.lst ar.length (kF .i64 ar)] = cellsF (done ++ [(⟨fn, var, ar⟩ : MCell)]) := by rw [cellsF, cellsF, List.flatMap_append]; simp [MCell.F]
  have hlen2 : (cellsF (done ++ [(⟨fn, var, ar⟩ : MCell)])).length = (done.length + 1) * 3 := by rw [flat_len MCell.F_len]; simp
  rw [fDecode_16_eq]
  simp only [Nat.zero_add, List.drop_zero]
  rw [if_pos ⟨trivial, by omega⟩, if_pos (by omega), List.take_of_length_le (l := cellsF done) (by omega), he, if_pos (by omega), List.take_of_length_le (by omega)]
  simp
include hl in
theorem s13 {a e : Nat} (ha : a ≤ l.length) {n : Int} (hn1 : -1 ≤ n) (hn : n ≤ 1000) (cells cons i z : Int) (vars : Int) (done : List MCell) (fn : Bool) (var : Int) :
    fDecode_13 cells cons i n fn var z (bx l) a e vars done.length (cellsF done) = fDecode_16 cells cons i (ast 0 l n.toNat a e).1.length (kF .i64 (ast 0 l n.toNat a e).1) z (bx l) (ast 0 l n.toNat a e).2.1 (ast 0 l n.toNat a e).2.2 vars done.length (cellsF done) fn var := by
  rw [fDecode_13_eq, show (if 0 > n then 0 else n) = ((n.toNat : Nat) : Int) by split <;> omega]
  exact fargs_go (h := [.cells [N .i64 z, nilS, nilS], rdr l a e, .cells [N .i64 vars, .ref 3 0 done.length 3, nilS], .fz (cellsF done), .cells [B fn, N .i64 var, nilS]]) (k := 1) (L := 5) rfl rfl hl ha (by omega) (fun m c x n1 n2 => fDecode_16 cells cons i m c z x n1 n2 vars done.length (cellsF done) fn var)
include hl in
theorem s10 {a e : Nat} (ha : a ≤ l.length) (cells cons i n z : Int) (vars : Int) (done : List MCell) :
    fDecode_10 cells cons i n z (bx l) a e vars done.length (cellsF done) = fDecode_13 cells cons i n (decide (n ≥ 0)) (gst 0 16384 l a e).1 z (bx l) (gst 0 16384 l a e).2.1 (gst 0 16384 l a e).2.2 vars done.length (cellsF done) := by
  rw [fDecode_10_eq]
  exact fget_go (h := [.cells [N .i64 z, nilS, nilS], rdr l a e, .cells [N .i64 vars, .ref 3 0 done.length 3, nilS], .fz (cellsF done)]) (k := 1) (L := 4) (least := 0) (most := 16384) rfl rfl hl ha (fun m x n1 n2 => fDecode_13 cells cons i n (decide (n ≥ 0)) m z x n1 n2 vars done.length (cellsF done))
include hl in
theorem d13 {a e : Nat} (he : e ≠ 0) (ha : a ≤ l.length) {n : Int} (hn1 : -1 ≤ n) (hn : n ≤ 1000) (cells cons i z : Int) (vars : Int) (done : List MCell) (hd : done.length ≤ 1000000) (fn : Bool) (var : Int) :
    fDecode_13 cells cons i n fn var z (bx l) a e vars done.length (cellsF done) = dR none := by
  rw [s13 hl ha hn1 hn, s16 _ _ _ _ _ _ _ _ hd]
  exact d7 hl (ast_dead he) (ast_le ha) _ _ _ _ _ _
include hl in
theorem a7 (cells cons : Nat) (hcl : cells ≤ 16384) (hc : cons ≤ 131072) (z vars : Int) : ∀ (k i a : Nat) (done : List MCell), i + k = cells → a ≤ l.length → okL done [] → done.length ≤ i →
    fDecode_7 cells cons i z (bx l) a (0 : Nat) vars done.length (cellsF done) = dR ((pMany pCell k (l.drop a)).bind fun p => (pMany pCon cons p.2).bind fun b => endR vars (done ++ p.1) b.1 b.2)
  | 0, i, a, done, hi, ha, ho, hdn => by
    have hlen : (cellsF done).length = done.length * 3 := flat_len MCell.F_len done
    rw [fDecode_7_eq, if_neg (by simp; omega)]
    simp only [Nat.zero_add, List.drop_zero]
    rw [if_pos (by omega), List.take_of_length_le (by omega)]
    have := a9 hl cons hc z vars done cons 0 a [] (by omega) ha ho (by simp)
    refine Eq.trans this ?_
    simp [pMany]
  | k + 1, i, a, done, hi, ha, ho, hdn => by
    have hd9 : done.length ≤ 1000000 := ho.2.2.1
    rw [fDecode_7_eq, if_pos (by simp; omega), Fault_p1_c3c3c3z, Fault_eq, withH_scal _ _ _ _ rfl, pI_some, fDecode_8_eq, if_pos (by simp)]
    refine (fget_go (h := [.cells [N .i64 z, nilS, nilS], rdr l a (0 : Nat), .cells [N .i64 vars, .ref 3 0 done.length 3, nilS], .fz (cellsF done)]) (k := 1) (L := 4) (least := -1) (most := 6) rfl rfl hl ha (fun n x n1 n2 => fDecode_10 cells cons i n z x n1 n2 vars done.length (cellsF done))).trans ?_
    rw [pMany, pCell]
    cases h1 : pGet (-1) 6 (l.drop a) with
    | none =>
      obtain ⟨b1, b2⟩ := gst_bad ha h1
      have hm : -1 ≤ (gst (-1) 6 l a 0).1 ∧ (gst (-1) 6 l a 0).1 ≤ 1000 := by
        unfold gst
        rw [if_neg (by omega)]
        rcases hq : rdN 1099511627776 (l.drop a) 0 0 with ⟨v, c, f⟩
        dsimp only
        split
        · split
          · rename_i hz; dsimp only; omega
          · dsimp only; omega
        · dsimp only; split <;> omega
      rw [s10 hl b2, gst_dead b1]
      exact d13 hl b1 b2 hm.1 hm.2 _ _ _ _ _ _ hd9 _ _
    | some q1 =>
    obtain ⟨n, r1⟩ := q1
    obtain ⟨a1, g1, ha1, e1⟩ := gst_ok ha h1
    obtain ⟨k1, k2, _⟩ := pGet_got h1
    rw [g1]
    dsimp only
    rw [s10 hl ha1]
    simp only [Option.bind_some]
    rw [← e1]
    cases h2 : pGet 0 16384 (l.drop a1) with
    | none => exact d13 hl (gst_bad ha1 h2).1 (gst_bad ha1 h2).2 k1 (by omega) _ _ _ _ _ _ hd9 _ _
    | some q2 =>
    obtain ⟨var, r2⟩ := q2
    obtain ⟨a2, g2, ha2, e2⟩ := gst_ok ha1 h2
    rw [g2]
    dsimp only
    rw [s13 hl ha2 k1 (by omega), s16 _ _ _ _ _ _ _ _ hd9]
    simp only [Option.bind_some]
    rw [← e2]
    cases h3 : pArgs 0 n.toNat (l.drop a2) with
    | none => exact d7 hl (ast_bad ha2 h3) (ast_le ha2) _ _ _ _ _ _
    | some q3 =>
    obtain ⟨ar, r3⟩ := q3
    obtain ⟨a3, g3, ha3, e3⟩ := ast_ok ha2 h3
    have har := (pArgs_got _ h3).1
    rw [g3]
    dsimp only
    simp only [Option.bind_some]
    rw [← e3, wrap_i64 (by omega) (by omega), show ((i : Int) + 1) = ((i + 1 : Nat) : Int) by omega]
    obtain ⟨o1, o2, o3, o4⟩ := ho
    have := a7 cells cons hcl hc z vars k (i + 1) a3 (done ++ [⟨decide (n ≥ 0), var, ar⟩]) (by omega) ha3 ⟨fun c hc => by
      rcases List.mem_append.1 hc with hc | hc
      · exact o1 c hc
      · simp at hc; subst hc; dsimp only; omega, o2, by simp; omega, o4⟩ (by simp; omega)
    rw [this]
    cases pMany pCell k (l.drop a3) with
    | none => rfl
    | some p => simp
end
end Go.Proofs.YtlemkcclgneemaaDoor
