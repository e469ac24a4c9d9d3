/-
  What names, variables, statements by numbers are.
-/
import Derived.Test.YtjefolfbdohkcaaRuleSpec
import Derived.Test.YtjefolfbdohkcaaMakes
set_option autoImplicit false
set_option linter.unusedVariables false
set_option linter.unusedSimpArgs false
namespace Go.Proofs.Ytjefolfbdohkcaa
open Go Go.Abs
theorem tmodN (a b : Nat) : Int.tmod (a : Int) (b : Int) = ((a % b : Nat) : Int) := (Int.ofNat_tmod a b).symm
theorem tdivN (a b : Nat) : Int.tdiv (a : Int) (b : Int) = ((a / b : Nat) : Int) := (Int.ofNat_tdiv a b).symm
theorem wN {n : Nat} (h : n < 9223372036854775808) : IntKind.wrap .i64 (n : Int) = n := wrap_i64 (by omega) (by omega)
theorem w8 {n : Nat} (h : n < 256) : IntKind.wrap .u8 (n : Int) = n := wrap_u8_in (by omega) (by omega)
/-- one more, of what is kept -/
theorem push_mk {α : Type} {f : α → List F} {es : Nat} (hf : ∀ a, (f a).length = es) (done : List α) (x : α) (z : Nat) (hz : (done.length + 1) * z ≤ 140737488355328) (K : Nat → List F → R) :
    (if es = es ∧ (done.length + 1) * z ≤ 140737488355328 then if 0 + (done.length * es) ≤ (done.flatMap f).length then if 0 + ((done.length + 1) * es) ≤ ((((done.flatMap f).drop 0).take (done.length * es)) ++ f x).length then K (done.length + 1) ((((((done.flatMap f).drop 0).take (done.length * es)) ++ f x).drop 0).take ((done.length + 1) * es)) else none else none else none) = K (done ++ [x]).length ((done ++ [x]).flatMap f) := by
  have hl := flat_len hf done
  have e : done.flatMap f ++ f x = (done ++ [x]).flatMap f := by simp
  have hl2 := flat_len hf (done ++ [x])
  simp only [Nat.zero_add, List.drop_zero]
  rw [if_pos ⟨trivial, hz⟩, if_pos (by omega), List.take_of_length_le (l := done.flatMap f) (by omega), e, if_pos (by rw [hl2]; simp), List.take_of_length_le (by rw [hl2]; simp), List.length_append, List.length_singleton]
theorem keep_mk {α : Type} {f : α → List F} {es : Nat} (hf : ∀ a, (f a).length = es) (done : List α) (K : List F → R) :
    (if 0 + (done.length * es) ≤ (done.flatMap f).length then K (((done.flatMap f).drop 0).take (done.length * es)) else none) = K (done.flatMap f) := by
  have hl := flat_len hf done
  simp only [Nat.zero_add, List.drop_zero]
  rw [if_pos (by omega), List.take_of_length_le (by omega)]
theorem ba_app_size (a b : ByteArray) : (a ++ b).size = a.size + b.size := ByteArray.size_append
theorem mname_core (n : Nat) (h : n < 1000) : mname_0 (n : Int) = some (.ret (S (nameR n)), []) := by
  have t6 : Int.tmod (n : Int) 6 = ((n % 6 : Nat) : Int) := tmodN n 6
  have d6 : Int.tdiv (n : Int) 6 = ((n / 6 : Nat) : Int) := tdivN n 6
  have d2 : Int.tdiv (n : Int) 2 = ((n / 2 : Nat) : Int) := tdivN n 2
  have t10 : Int.tmod (n : Int) 10 = ((n % 10 : Nat) : Int) := tmodN n 10
  have t100 : Int.tmod (n : Int) 100 = ((n % 100 : Nat) : Int) := tmodN n 100
  have t26 : ∀ a : Nat, Int.tmod (a : Int) 26 = ((a % 26 : Nat) : Int) := fun a => tmodN a 26
  have t10' : ∀ a : Nat, Int.tmod (a : Int) 10 = ((a % 10 : Nat) : Int) := fun a => tmodN a 10
  rw [mname_eq, t6, d6, d2, t10, t100, wN (n := n / 6) (by omega), wN (n := n / 2) (by omega), t26, t26, t10']
  have c97 : ∀ a : Nat, a < 26 → IntKind.wrap .u8 (IntKind.wrap .i64 (97 + (a : Int))) = ((97 + a : Nat) : Int) := fun a ha => by rw [wrap_i64 (by omega) (by omega), wrap_u8_in (by omega) (by omega)]; omega
  have c48 : ∀ a : Nat, a < 10 → IntKind.wrap .u8 (IntKind.wrap .i64 (48 + (a : Int))) = ((48 + a : Nat) : Int) := fun a ha => by rw [wrap_i64 (by omega) (by omega), wrap_u8_in (by omega) (by omega)]; omega
  have c65 : ∀ a : Nat, a < 26 → IntKind.wrap .u8 (IntKind.wrap .i64 (65 + (a : Int))) = ((65 + a : Nat) : Int) := fun a ha => by rw [wrap_i64 (by omega) (by omega), wrap_u8_in (by omega) (by omega)]; omega
  have c128 : ∀ a : Nat, a < 100 → IntKind.wrap .u8 (IntKind.wrap .i64 (128 + (a : Int))) = ((128 + a : Nat) : Int) := fun a ha => by rw [wrap_i64 (by omega) (by omega), wrap_u8_in (by omega) (by omega)]; omega
  rw [c97 _ (Nat.mod_lt _ (by omega)), c48 _ (Nat.mod_lt _ (by omega)), c128 _ (Nat.mod_lt _ (by omega)), c65 _ (Nat.mod_lt _ (by omega)), c97 _ (Nat.mod_lt _ (by omega)), c48 _ (Nat.mod_lt _ (by omega))]
  simp only [Int.toNat_natCast, ibeq, decide_eq_true_eq]
  unfold nameR
  by_cases h1 : n % 6 = 1
  · rw [if_pos (by omega), if_pos h1, if_neg (by show ¬ (((1 + 1 : Nat) : Int) > 9223372036854775807); decide), if_neg (by rw [ba_app_size]; show ¬ (((1 + 1 + 2 : Nat) : Int) > 9223372036854775807); decide)]
  rw [if_neg (by omega), if_neg h1]
  by_cases h3 : n % 6 = 3
  · rw [if_pos (by omega), if_pos h3, if_neg (by show ¬ (((3 + 2 : Nat) : Int) > 9223372036854775807); decide)]; rfl
  rw [if_neg (by omega), if_neg h3]
  by_cases h5 : n % 6 = 5
  · rw [if_pos (by omega), if_pos h5]; rfl
  rw [if_neg (by omega), if_neg h5, if_neg (by show ¬ (((1 + 2 : Nat) : Int) > 9223372036854775807); decide)]
theorem mname_spec (n : Nat) (h : n < 1000) (h0 : H) : run w0 18 [N .i64 n] h0 = some (.ret (S (nameR n)), h0) := by
  rw [mname_run, mname_core n h, withH_true]
/-! ### variables -/
section
variable {G L : Nat} (hG : G ≤ 1000) (hL : L ≤ 1000) (hp : 0 < L)
include hG hL hp
theorem mvariables_core {m1 m5 m11 : Nat} {c2 c4 c6 c10 c12 : List F} {n7 n8 : Int} {n : Nat} (hn : n < 256) : mvariables_0 m1 c2 G c4 m5 c6 n7 n8 L c10 m11 c12 (n : Int) = some (.ret (.agg (refV (varM G L n))), []) := by
  have hm : n % (L + G) < L + G := Nat.mod_lt _ (by omega)
  rw [mvariables_eq, show ((L : Nat) : Int) + ((G : Nat) : Int) = ((L + G : Nat) : Int) by omega, wN (n := L + G) (by omega), wN (n := n) (by omega), if_neg (by omega), tmodN]
  unfold varM
  by_cases h : n % (L + G) < L
  · rw [if_pos (decide_eq_true (Int.ofNat_lt.2 h)), if_pos h]
  · rw [if_neg (fun q => h (Int.ofNat_lt.1 (of_decide_eq_true q))), if_neg h, ← Int.ofNat_sub (Nat.le_of_not_lt h), wN (by omega)]
end
theorem var_go (r : MRef) (h : H) (k : Nat) (hk : h.length = k) (K : Int → Int → R) : (pO (graft h none (some (.ret (.agg (refV r)), []))) fun v g => (V.agg? v).bind fun l => cI .u8 l 0 fun a => cI .i64 l 1 fun b => if l.length = 2 then if g.length = k then K a b else none else none) = K r.k r.id := by
  simp [graft, ren, rens, pO, onCall, V.agg?, cI, V.int?, V.f?, F.int?, hk]
theorem stmt_go (s : MStmt) (h : H) (k : Nat) (hk : h.length = k) (K : Int → Int → Int → Int → Int → Nat → List F → Nat → List F → R) :
    (pO (graft h none (some (.ret (.agg (stmtV s)), []))) fun v g => (V.agg? v).bind fun l => cI .u8 l 0 fun a => cI .u8 l 1 fun b => cI .i64 l 2 fun c => cI .u8 l 3 fun d => cI .i64 l 4 fun e => cL l 5 fun m x => cL l 6 fun n y => if l.length = 7 then if g.length = k then K a b c d e m x n y else none else none) =
      K s.kind s.a.k s.a.id s.b.k s.b.id s.args.length (refsF s.args) s.body.length (stmtsF s.body) := by
  simp [graft, ren, rens, pO, onCall, V.agg?, cI, cL, V.int?, V.f?, F.int?, hk, V.lst?, F.lst?]
/-! ### statements -/
section
variable {G L S : Nat} {ps : List Int} {m1 m7 : Nat} {c2 c4 c5 c8 c12 c14 : List F} {n9 n10 : Int}
theorem range_snoc {α : Type} (f : Nat → α) (i : Nat) : (List.range' 0 (i + 1)).map f = (List.range' 0 i).map f ++ [f i] := by
  rw [List.range'_1_concat]; simp
theorem args_loop (hG : G ≤ 1000) (hL : L ≤ 1000) (hL0 : 0 < L) (x : MAct) (n : Nat) (hn : n ≤ 1000) {M : Nat} {kd ak ai bk bi z1 z2 z3 z4 z5 : Int} : ∀ r i : Nat, i + r = n →
    mstatement_4 n i m1 c2 G c4 M m7 c8 c5 n9 n10 L c12 S c14 x.k x.a x.b x.c z1 z2 z3 z4 z5 kd ak ai bk bi (argsM G L x i).length (refsF (argsM G L x i)) =
      some (.ret (.agg [N .u8 kd, N .u8 ak, N .i64 ai, N .u8 bk, N .i64 bi, .f (.lst (argsM G L x n).length (refsF (argsM G L x n))), .f (.lst 0 [])]), []) := by
  intro r
  induction r with
  | zero =>
    intro i hi
    have : i = n := by omega
    subst this
    rw [mstatement_4_eq, if_neg (by simp)]
    exact keep_mk (f := MRef.F) MRef.F_len (argsM G L x i) fun c => some (.ret (.agg [N .u8 kd, N .u8 ak, N .i64 ai, N .u8 bk, N .i64 bi, .f (.lst (argsM G L x i).length c), .f (.lst 0 [])]), [])
  | succ r ih =>
    intro i hi
    have hlen : (argsM G L x i).length = i := by simp [argsM]
    have hb : IntKind.wrap .u8 (IntKind.wrap .u8 ((x.a : Int) + (x.c : Int)) + IntKind.wrap .u8 ((i : Nat) : Int)) = (((x.a + x.c + i) % 256 : Nat) : Int) := by
      rw [wrap_u8, wrap_u8, wrap_u8]; omega
    rw [mstatement_4_eq, if_pos (decide_eq_true (by omega)), hb, mvariables_vvv_c4cc5c4c7c7z, mvariables_core hG hL hL0 (Nat.mod_lt _ (by omega)), var_go _ _ 7 rfl]
    have e := push_mk (f := MRef.F) (es := 2) MRef.F_len (argsM G L x i) (varM G L ((x.a + x.c + i) % 256)) 16 (by rw [hlen]; omega) fun m c => mstatement_4 n (IntKind.wrap .i64 (((i : Nat) : Int) + 1)) m1 c2 G c4 M m7 c8 c5 n9 n10 L c12 S c14 x.k x.a x.b x.c z1 z2 z3 z4 z5 kd ak ai bk bi m c
    refine e.trans ?_
    have e2 : argsM G L x i ++ [varM G L ((x.a + x.c + i) % 256)] = argsM G L x (i + 1) := by unfold argsM; rw [range_snoc]
    rw [e2, show ((i : Nat) : Int) + 1 = ((i + 1 : Nat) : Int) by omega, wN (by omega)]
    exact ih (i + 1) (by omega)
/-- what a statement is made in -/
structure StC (G L S : Nat) (ps : List Int) (c5 : List F) : Prop where
  hG : G ≤ 1000
  hL : L ≤ 1000
  hL0 : 0 < L
  hS : S ≤ 1000
  hS0 : 0 < S
  hN : ps.length ≤ 1000
  hN0 : 0 < ps.length
  hps : ∀ j, j < ps.length → ∀ K : Int → R, atI .i64 c5 ((0 + (j * 5)) + 1) K = K (ps.getD j 0)
  hpr : ∀ j, j < ps.length → 0 ≤ ps.getD j 0 ∧ ps.getD j 0 ≤ 1000
theorem stmt4_go (hc : StC G L S ps c5) (x : MAct) (hx : x.ok) (hk : x.k % 10 = 4 ∨ x.k % 10 = 5) {z1 z2 z3 z4 z5 : Int} :
    mstatement_3 ((x.k % 10 : Nat) : Int) true m1 c2 G c4 ps.length m7 c8 c5 n9 n10 L c12 S c14 x.k x.a x.b x.c z1 z2 z3 z4 z5 (varM G L x.a).k (varM G L x.a).id (varM G L x.b).k (varM G L x.b).id = some (.ret (.agg (stmtV (stmt1 G L S ps x))), []) := by
  obtain ⟨hG, hL, hL0, hS, hS0, hN, hN0, hps, hpr⟩ := hc
  obtain ⟨x1, x2, x3, x4⟩ := hx
  have hj : x.b % ps.length < ps.length := Nat.mod_lt _ hN0
  have c3 : ((Int.tmod (x.c : Int) 3) == 0) = decide (x.c % 3 = 0) := by rw [show (3 : Int) = ((3 : Nat) : Int) from rfl, tmodN, ibeq, decide_eq_decide]; omega
  have k4 : ((Int.tmod (x.k : Int) 10) == 4) = decide (x.k % 10 = 4) := by rw [show (10 : Int) = ((10 : Nat) : Int) from rfl, tmodN, ibeq, decide_eq_decide]; omega
  have hbm : Int.tmod (IntKind.wrap .i64 (x.b : Int)) ((ps.length : Nat) : Int) = ((x.b % ps.length : Nat) : Int) := by rw [wN (by omega), tmodN]
  have hc4 : Int.tmod (IntKind.wrap .i64 (IntKind.wrap .u8 (Int.tdiv (x.c : Int) 4))) 4 = ((x.c / 4 % 4 : Nat) : Int) := by
    rw [show Int.tdiv (x.c : Int) 4 = ((x.c / 4 : Nat) : Int) from tdivN x.c 4, w8 (by omega), wN (by omega)]; exact tmodN _ 4
  have go4 : ∀ (ak ai : Int), (if ((ps.length : Nat) : Int) = 0 then none else if 5 = 5 ∧ 0 ≤ Int.tmod (IntKind.wrap .i64 (x.b : Int)) ((ps.length : Nat) : Int) ∧ Int.tmod (IntKind.wrap .i64 (x.b : Int)) ((ps.length : Nat) : Int) < ↑ps.length then atI .i64 c5 ((0 + ((Int.toNat (Int.tmod (IntKind.wrap .i64 (x.b : Int)) ((ps.length : Nat) : Int))) * 5)) + 1) fun n1050 => mstatement_4 n1050 0 m1 c2 G c4 ps.length m7 c8 c5 n9 n10 L c12 S c14 x.k x.a x.b x.c z1 z2 z3 z4 z5 5 ak ai 3 (Int.tmod (IntKind.wrap .i64 (x.b : Int)) ((ps.length : Nat) : Int)) 0 [] else none) =
      some (.ret (.agg [N .u8 5, N .u8 ak, N .i64 ai, N .u8 3, N .i64 ((x.b % ps.length : Nat) : Int), .f (.lst (argsM G L x (ps.getD (x.b % ps.length) 0).toNat).length (refsF (argsM G L x (ps.getD (x.b % ps.length) 0).toNat))), .f (.lst 0 [])]), []) := by
    intro ak ai
    rw [hbm, if_neg (by omega), if_pos ⟨rfl, by omega, Int.ofNat_lt.2 hj⟩, Int.toNat_natCast, hps _ hj]
    obtain ⟨p0, p1⟩ := hpr _ hj
    have := args_loop (m1 := m1) (m7 := m7) (c2 := c2) (c4 := c4) (c5 := c5) (c8 := c8) (c12 := c12) (c14 := c14) (n9 := n9) (n10 := n10) (S := S) hG hL hL0 x (ps.getD (x.b % ps.length) 0).toNat (by omega) (M := ps.length) (kd := 5) (ak := ak) (ai := ai) (bk := 3) (bi := ((x.b % ps.length : Nat) : Int)) (z1 := z1) (z2 := z2) (z3 := z3) (z4 := z4) (z5 := z5) (ps.getD (x.b % ps.length) 0).toNat 0 (by omega)
    rw [Int.toNat_of_nonneg p0] at this
    exact this
  have go5 : ∀ (ak ai : Int), mstatement_4 ((x.c / 4 % 4 : Nat) : Int) 0 m1 c2 G c4 ps.length m7 c8 c5 n9 n10 L c12 S c14 x.k x.a x.b x.c z1 z2 z3 z4 z5 5 ak ai (varM G L x.b).k (varM G L x.b).id 0 [] =
      some (.ret (.agg [N .u8 5, N .u8 ak, N .i64 ai, N .u8 (varM G L x.b).k, N .i64 (varM G L x.b).id, .f (.lst (argsM G L x (x.c / 4 % 4)).length (refsF (argsM G L x (x.c / 4 % 4)))), .f (.lst 0 [])]), []) := by
    intro ak ai
    exact args_loop hG hL hL0 x (x.c / 4 % 4) (by omega) (x.c / 4 % 4) 0 (by omega)
  rw [mstatement_3_eq, if_pos rfl, c3, k4, hc4]
  rcases hk with h4 | h5
  · have e : stmt1 G L S ps x = .mk 5 (if x.c % 3 = 0 then ⟨0, 0⟩ else varM G L x.a) ⟨3, ((x.b % ps.length : Nat) : Int)⟩ (argsM G L x (ps.getD (x.b % ps.length) 0).toNat) [] := by
      unfold stmt1; dsimp only; rw [if_neg (by omega), if_neg (by omega), if_neg (by omega), if_pos h4]
    rw [e]
    by_cases h3 : x.c % 3 = 0
    · rw [if_pos (decide_eq_true h3), if_pos (decide_eq_true h4), if_pos h3]; exact go4 0 0
    · rw [if_neg (by simpa using h3), if_pos (decide_eq_true h4), if_neg h3]; exact go4 _ _
  · have e : stmt1 G L S ps x = .mk 5 (if x.c % 3 = 0 then ⟨0, 0⟩ else varM G L x.a) (varM G L x.b) (argsM G L x (x.c / 4 % 4)) [] := by
      unfold stmt1; dsimp only; rw [if_neg (by omega), if_neg (by omega), if_neg (by omega), if_neg (by omega), if_pos h5]
    rw [e]
    by_cases h3 : x.c % 3 = 0
    · rw [if_pos (decide_eq_true h3), if_neg (by simp; omega), if_pos h3]; exact go5 0 0
    · rw [if_neg (by simpa using h3), if_neg (by simp; omega), if_neg h3]; exact go5 _ _
/-- not a block -/
theorem stmt1_go (hc : StC G L S ps c5) (x : MAct) (hx : x.ok) (b : Bool) (hb : b = decide (x.k % 10 = 0 ∨ x.k % 10 = 1)) (h7 : x.k % 10 ≠ 7) {z1 z2 z3 z4 z5 : Int} :
    mstatement_1 ((x.k % 10 : Nat) : Int) b m1 c2 G c4 ps.length m7 c8 c5 n9 n10 L c12 S c14 x.k x.a x.b x.c z1 z2 z3 z4 z5 (varM G L x.a).k (varM G L x.a).id (varM G L x.b).k (varM G L x.b).id = some (.ret (.agg (stmtV (stmt1 G L S ps x))), []) := by
  have hc' := hc
  obtain ⟨hG, hL, hL0, hS, hS0, hN, hN0, hps, hpr⟩ := hc
  have hx' := hx
  obtain ⟨x1, x2, x3, x4⟩ := hx
  have hlt : x.k % 10 < 10 := Nat.mod_lt _ (by omega)
  have c4' : Int.tmod (x.c : Int) 4 = ((x.c % 4 : Nat) : Int) := tmodN x.c 4
  have hbm : Int.tmod (IntKind.wrap .i64 (x.b : Int)) ((ps.length : Nat) : Int) = ((x.b % ps.length : Nat) : Int) := by rw [wN (by omega), tmodN]
  have hsm : Int.tmod (IntKind.wrap .i64 (x.b : Int)) ((S : Nat) : Int) = ((x.b % S : Nat) : Int) := by rw [wN (by omega), tmodN]
  have ne : ∀ (n : Nat) (m : Int), (n : Int) ≠ m → ¬ (((n : Int) == m) = true) := fun n m h q => h (by simpa using q)
  have eq : ∀ (n : Nat) (m : Int), (n : Int) = m → (((n : Int) == m) = true) := fun n m h => by rw [h]; simp
  have s2 : ∀ (q : Bool), mstatement_2 q n9 n10 L c12 S c14 x.k x.a x.b x.c z1 z2 z3 z4 z5 (varM G L x.a).k (varM G L x.a).id (varM G L x.b).k (varM G L x.b).id = some (.ret (.agg (stmtV (.mk 1 (varM G L x.a) (if q then ⟨4, ((x.b % S : Nat) : Int)⟩ else varM G L x.b) [] []))), []) := by
    intro q
    rw [mstatement_2_eq]
    cases q
    · rw [if_neg (by simp)]; rfl
    · rw [if_pos rfl, if_neg (by omega), hsm]; rfl
  rw [mstatement_1_eq, c4']
  by_cases h01 : x.k % 10 = 0 ∨ x.k % 10 = 1
  · have e : stmt1 G L S ps x = .mk 1 (varM G L x.a) (if x.c % 4 = 1 then ⟨3, ((x.b % ps.length : Nat) : Int)⟩ else if x.c % 4 = 2 ∨ x.c % 4 = 3 then ⟨4, ((x.b % S : Nat) : Int)⟩ else varM G L x.b) [] [] := by
      unfold stmt1; dsimp only; rw [if_pos h01]
    rw [if_pos (by rw [hb]; exact decide_eq_true h01), e]
    by_cases h1 : x.c % 4 = 1
    · rw [if_pos (eq _ 1 (by omega)), if_neg (by omega), hbm, if_pos h1]; rfl
    · have b2 : (((x.c % 4 : Nat) : Int) == 2) = decide (x.c % 4 = 2) := by rw [ibeq, decide_eq_decide]; omega
      have b3 : (((x.c % 4 : Nat) : Int) == 3) = decide (x.c % 4 = 3) := by rw [ibeq, decide_eq_decide]; omega
      rw [if_neg (ne _ 1 (by omega)), if_neg h1, s2, s2, b2, b3]
      by_cases h2 : x.c % 4 = 2
      · simp only [h2, decide_true, if_true, true_or]
      · by_cases h3 : x.c % 4 = 3
        · simp only [h3, decide_true, if_true, or_true]; rfl
        · simp only [h2, h3, decide_false, Bool.false_eq_true, if_false, or_self]
  rw [if_neg (by rw [hb]; simpa using h01)]
  by_cases h2 : x.k % 10 = 2
  · have e : stmt1 G L S ps x = .mk 3 (varM G L x.a) (varM G L x.b) [] [] := by
      unfold stmt1; dsimp only; rw [if_neg h01, if_pos h2]
    rw [if_pos (eq _ 2 (by omega)), e]; rfl
  rw [if_neg (ne _ 2 (by omega))]
  by_cases h3 : x.k % 10 = 3
  · have e : stmt1 G L S ps x = .mk 4 (varM G L x.a) (varM G L x.b) [] [] := by
      unfold stmt1; dsimp only; rw [if_neg h01, if_neg h2, if_pos h3]
    rw [if_pos (eq _ 3 (by omega)), e]; rfl
  rw [if_neg (ne _ 3 (by omega))]
  by_cases h4 : x.k % 10 = 4
  · rw [if_pos (eq _ 4 (by omega)), show ((((x.k % 10 : Nat) : Int)) == 4) = true from eq _ 4 (by omega)]
    exact stmt4_go hc' x hx' (.inl h4)
  rw [if_neg (ne _ 4 (by omega))]
  by_cases h5 : x.k % 10 = 5
  · rw [show ((((x.k % 10 : Nat) : Int)) == 5) = true from eq _ 5 (by omega)]
    exact stmt4_go hc' x hx' (.inr h5)
  rw [show ((((x.k % 10 : Nat) : Int)) == 5) = false from Bool.eq_false_iff.2 (ne _ 5 (by omega)), mstatement_3_eq, if_neg (by simp)]
  by_cases h6 : x.k % 10 = 6
  · have e : stmt1 G L S ps x = .mk 6 ⟨0, 0⟩ (varM G L x.b) [] [] := by
      unfold stmt1; dsimp only; rw [if_neg h01, if_neg h2, if_neg h3, if_neg h4, if_neg h5, if_pos h6]
    rw [if_pos (eq _ 6 (by omega)), e]; rfl
  have e : stmt1 G L S ps x = .mk 2 (varM G L x.a) (varM G L x.b) [] [] := by
    unfold stmt1; dsimp only; rw [if_neg h01, if_neg h2, if_neg h3, if_neg h4, if_neg h5, if_neg h6]
  rw [if_neg (ne _ 6 (by omega)), if_neg (ne _ 7 (by omega)), e]; rfl
/-- from the start on -/
theorem stmt0_go (hc : StC G L S ps c5) (x : MAct) (hx : x.ok) :
    mstatement_0 m1 c2 G c4 c5 ps.length m7 c8 n9 n10 L c12 S c14 x.k x.a x.b x.c = mstatement_1 ((x.k % 10 : Nat) : Int) (decide (x.k % 10 = 0 ∨ x.k % 10 = 1)) m1 c2 G c4 ps.length m7 c8 c5 n9 n10 L c12 S c14 x.k x.a x.b x.c 0 0 0 0 0 (varM G L x.a).k (varM G L x.a).id (varM G L x.b).k (varM G L x.b).id := by
  obtain ⟨hG, hL, hL0, hS, hS0, hN, hN0, hps, hpr⟩ := hc
  obtain ⟨x1, x2, x3, x4⟩ := hx
  rw [mstatement_eq, mvariables_vvv_cc4c5c4c7, mvariables_core hG hL hL0 x2, var_go _ _ 5 rfl, mvariables_vvv_cc4c5c4c7c2, mvariables_core hG hL hL0 x3, var_go _ _ 6 rfl, show Int.tmod (x.k : Int) 10 = ((x.k % 10 : Nat) : Int) from tmodN x.k 10]
  by_cases h0 : x.k % 10 = 0
  · rw [if_pos (by rw [h0]; rfl)]
    congr 1
    rw [h0]; rfl
  · rw [if_neg (fun q => h0 (by have := eq_of_beq q; omega))]
    congr 1
    by_cases h1 : x.k % 10 = 1
    · rw [h1]; rfl
    · rw [decide_eq_false (by omega)]
      simp; omega
theorem mstatement_core1 (hc : StC G L S ps c5) (x : MAct) (hx : x.ok) (h7 : x.k % 10 ≠ 7) : mstatement_0 m1 c2 G c4 c5 ps.length m7 c8 n9 n10 L c12 S c14 x.k x.a x.b x.c = some (.ret (.agg (stmtV (stmt1 G L S ps x))), []) :=
  (stmt0_go hc x hx).trans (stmt1_go hc x hx _ rfl h7)
theorem mstatement_core (hc : StC G L S ps c5) (x : MAct) (hx : x.ok) : mstatement_0 m1 c2 G c4 c5 ps.length m7 c8 n9 n10 L c12 S c14 x.k x.a x.b x.c = some (.ret (.agg (stmtV (stmtM G L S ps x))), []) := by
  by_cases h7 : x.k % 10 = 7
  · obtain ⟨x1, x2, x3, x4⟩ := hx
    have hx' : x.ok := ⟨x1, x2, x3, x4⟩
    have c8' : Int.tmod (x.c : Int) 8 = ((x.c % 8 : Nat) : Int) := tmodN x.c 8
    rw [stmt0_go hc x hx', mstatement_1_eq, if_neg (by rw [h7]; simp), h7, if_neg (by decide), if_neg (by decide), if_neg (by decide), show (((7 : Nat) : Int) == 5) = false from rfl, mstatement_3_eq, if_neg (by simp), if_neg (by decide), if_pos (by decide), c8']
    by_cases h8 : x.c % 8 = 7
    · have e : stmtM G L S ps x = .mk 7 ⟨0, 0⟩ ⟨0, 0⟩ [] [] := by unfold stmtM; rw [if_pos h7, if_pos h8]
      rw [if_pos (by rw [h8]; rfl), e]; rfl
    · have e : stmtM G L S ps x = .mk 7 ⟨0, 0⟩ ⟨0, 0⟩ [] [stmt1 G L S ps ⟨x.c % 8, x.a, x.b, x.c⟩, .mk 2 (varM G L x.b) (varM G L x.a) [] []] := by unfold stmtM; rw [if_pos h7, if_neg h8]
      have hk : (MAct.mk (x.c % 8) x.a x.b x.c).ok := ⟨by show x.c % 8 < 256; omega, x2, x3, x4⟩
      have := mstatement_core1 (m1 := m1) (m7 := m7) (c2 := c2) (c4 := c4) (c8 := c8) (c12 := c12) (c14 := c14) (n9 := n9) (n10 := n10) hc ⟨x.c % 8, x.a, x.b, x.c⟩ hk (by show x.c % 8 % 10 ≠ 7; omega)
      dsimp only at this
      rw [if_neg (fun q => h8 (by have := eq_of_beq q; omega)), mstatement_vvv_c4cc5c4c7c2c2c4, this, stmt_go _ _ 8 rfl, e]
      generalize stmt1 G L S ps ⟨x.c % 8, x.a, x.b, x.c⟩ = s
      simp [MStmt.F_eq, MStmt.kind, MStmt.a, MStmt.b, MStmt.args, MStmt.body]
  · rw [mstatement_core1 hc x hx h7]
    unfold stmtM; rw [if_neg h7]
end
end Go.Proofs.Ytjefolfbdohkcaa
