/-
  Modules by numbers: all but the statements.
-/
import Derived.Test.YtlddnplflakmiaaMakeSpec3
set_option autoImplicit false
set_option linter.unusedVariables false
set_option linter.unusedSimpArgs false
namespace Go.Proofs.Ytlddnplflakmiaa
open Go Go.Abs

/-- a function's row, as yet without statements -/
abbrev rowF (f : MFun) : List F := [.s (.int .i64 f.name), .s (.int .i64 f.params), .lst f.locals.length (kF .i64 f.locals), .lst f.sites.length (kF .i64 f.sites), .s (.slice none 0 0)]
theorem rowF_len (f : MFun) : (rowF f).length = 5 := rfl
abbrev rowsF (l : List MFun) : List F := l.flatMap rowF
theorem kI_snoc (i n : Nat) : kI i (n + 1) = kI i n ++ [((i + n : Nat) : Int)] := by unfold kI; rw [List.range'_1_concat]; simp
theorem kI_len (i n : Nat) : (kI i n).length = n := by simp [kI]
theorem sPush (ss : List ByteArray) (s : ByteArray) : (((sF ss).drop 0).take (ss.length * 1)) ++ ([F.s (.string s)]) = sF (ss ++ [s]) := by rw [List.drop_zero, List.take_of_length_le (by simp), sF_append]; rfl
theorem kPush (l : List Int) (n : Int) : (((kF .i64 l).drop 0).take (l.length * 1)) ++ ([F.s (.int .i64 n)]) = kF .i64 (l ++ [n]) := by rw [List.drop_zero, List.take_of_length_le (by simp), kF_append]; rfl
theorem sAll (ss : List ByteArray) : ((sF ss).drop 0).take (ss.length * 1) = sF ss := by rw [List.drop_zero, List.take_of_length_le (by simp)]
theorem kAll (ss : List Int) : ((kF .i64 ss).drop 0).take (ss.length * 1) = kF .i64 ss := by rw [List.drop_zero, List.take_of_length_le (by simp)]
theorem rAll (fs : List MFun) : ((rowsF fs).drop 0).take (fs.length * 5) = rowsF fs := by
  rw [List.drop_zero, List.take_of_length_le (by rw [flat_len rowF_len fs]; exact Nat.le_refl _)]
theorem sAll1 (ss : List ByteArray) (s : ByteArray) : ((sF (ss ++ [s])).drop 0).take ((ss.length + 1) * 1) = sF (ss ++ [s]) := by rw [List.drop_zero, List.take_of_length_le (by simp)]
theorem kAll1 (ss : List Int) (s : Int) : ((kF .i64 (ss ++ [s])).drop 0).take ((ss.length + 1) * 1) = kF .i64 (ss ++ [s]) := by rw [List.drop_zero, List.take_of_length_le (by simp)]
theorem sLe (ss : List ByteArray) : 0 + ss.length * 1 ≤ (sF ss).length := by simp
theorem kLe (ss : List Int) : 0 + ss.length * 1 ≤ (kF .i64 ss).length := by simp
theorem sLe1 (ss : List ByteArray) (s : ByteArray) : 0 + (ss.length + 1) * 1 ≤ (sF (ss ++ [s])).length := by simp
theorem kLe1 (ss : List Int) (s : Int) : 0 + (ss.length + 1) * 1 ≤ (kF .i64 (ss ++ [s])).length := by simp
theorem rLe (fs : List MFun) : 0 + fs.length * 5 ≤ (rowsF fs).length := by rw [flat_len rowF_len fs]; omega

section
variable (g f e : Nat) {A : Nat} {cA : List F}
abbrev gS (i : Nat) : List ByteArray := (List.range' 0 i).map fun i => nameR (i * (1 + g / 4 % 3))
theorem gS_len (i : Nat) : (gS g i).length = i := by simp
theorem mk1 (hg : g < 256) (hf : f < 256) (add : Int) : ∀ r i : Nat, i + r = globN g →
    mMake_1 ((i * (1 + g / 4 % 3) : Nat) : Int) add i g f e A cA (gS g i).length (kI 0 i).length (sF (gS g i)) (kF .i64 (kI 0 i)) = mMake_2 add ((funN f : Nat) : Int) 0 g f e A cA (globS g).length (globN g) (kF .i64 (kI 0 (globN g))) 0 (sF (globS g)) [] := by
  intro r
  have h4 : globN g < 4 := Nat.mod_lt _ (by omega)
  have w1 : IntKind.wrap .i64 (Int.tmod (g : Int) 4) = ((globN g : Nat) : Int) := by rw [show Int.tmod (g : Int) 4 = ((g % 4 : Nat) : Int) from tmodN g 4, wN (by omega)]; rfl
  have w2 : IntKind.wrap .i64 (1 + IntKind.wrap .i64 (Int.tmod (f : Int) 4)) = ((funN f : Nat) : Int) := by
    rw [show Int.tmod (f : Int) 4 = ((f % 4 : Nat) : Int) from tmodN f 4, wN (by omega), wrap_i64 (by omega) (by omega)]; unfold funN; omega
  have w3 : IntKind.wrap .i64 (1 + Int.tmod (IntKind.wrap .i64 (IntKind.wrap .u8 (Int.tdiv (g : Int) 4))) 3) = ((1 + g / 4 % 3 : Nat) : Int) := by
    rw [show Int.tdiv (g : Int) 4 = ((g / 4 : Nat) : Int) from tdivN g 4, w8 (by omega), wN (by omega), show Int.tmod ((g / 4 : Nat) : Int) 3 = ((g / 4 % 3 : Nat) : Int) from tmodN _ 3, wrap_i64 (by omega) (by omega)]; omega
  induction r with
  | zero =>
    intro i hi
    have : i = globN g := by omega
    subst this
    rw [mMake_1_eq, w1, if_neg (by simp), w2, if_pos (sLe _), if_pos (kLe _), sAll, kAll, kI_len]
    rfl
  | succ r ih =>
    intro i hi
    have e1 : gS g (i + 1) = gS g i ++ [nameR (i * (1 + g / 4 % 3))] := by unfold gS; rw [range_snoc]
    have e2 := kI_snoc 0 i
    have hm : i * (1 + g / 4 % 3) ≤ 3 * 3 := Nat.mul_le_mul (by omega) (by omega)
    have i1 := ih (i + 1) (by omega)
    rw [e1, e2, Nat.zero_add] at i1
    rw [mMake_1_eq, w1, if_pos (decide_eq_true (by omega)), mname_spec _ (by omega), pS_some, if_pos ⟨rfl, by rw [gS_len]; omega⟩, if_pos (sLe _), if_pos ⟨rfl, by rw [kI_len]; omega⟩, if_pos (kLe _), sPush, if_pos (sLe1 _ _), kPush, if_pos (kLe1 _ _), sAll1, kAll1, w3,
      show ((((gS g i).length : Nat) : Int) + 1) - 1 = ((i : Nat) : Int) by rw [gS_len]; omega, wN (by omega), show ((i : Nat) : Int) + 1 = ((i + 1 : Nat) : Int) by omega, wN (by omega),
      show (((i * (1 + g / 4 % 3) : Nat) : Int) + ((1 + g / 4 % 3 : Nat) : Int)) = (((i + 1) * (1 + g / 4 % 3) : Nat) : Int) by rw [Nat.add_mul, Nat.one_mul]; omega, wN (by rw [Nat.add_mul]; omega)]
    rw [List.length_append, List.length_append] at i1
    exact i1
/-! ### functions -/
abbrev lS (j n : Nat) : List ByteArray := (List.range' j n).map fun j => nameR (100 + j)
abbrev tS (j n : Nat) : List ByteArray := (List.range' j n).map fun j => nameR (200 + j)
theorem mk5 (add : Int) (i : Nat) (hi : i < 4) {G : Nat} {cG : List F} (fs : List MFun) (nm ps : Int) (lo : List Int) (K : List ByteArray → List Int → R)
    (hK : ∀ (ss : List ByteArray) (l : List Int), mMake_7 add ((funN f : Nat) : Int) i g f e A cA ss.length G cG fs.length (sF ss) (rowsF fs) nm ps lo.length (kF .i64 lo) l.length (kF .i64 l) = K ss l) : ∀ (r j : Nat) (ss : List ByteArray) (l : List Int), j + r = siteN i → ss.length + r ≤ 1000 → l.length = j →
    mMake_5 add ((funN f : Nat) : Int) i j g f e A cA ss.length G cG fs.length (sF ss) (rowsF fs) nm ps lo.length (kF .i64 lo) l.length (kF .i64 l) = K (ss ++ tS j r) (l ++ kI ss.length r) := by
  have w1 : IntKind.wrap .i64 (1 + Int.tmod (i : Int) 2) = ((siteN i : Nat) : Int) := by rw [show Int.tmod (i : Int) 2 = ((i % 2 : Nat) : Int) from tmodN i 2, wrap_i64 (by omega) (by omega)]; unfold siteN; omega
  have hs : siteN i ≤ 2 := by unfold siteN; omega
  intro r
  induction r with
  | zero =>
    intro j ss l hj hss hl
    rw [mMake_5_eq, w1, if_neg (by simp; omega), if_pos (sLe _), if_pos (rLe _), if_pos (kLe _), sAll, rAll, kAll, hK]
    show K ss l = K (ss ++ []) (l ++ [])
    rw [List.append_nil, List.append_nil]
  | succ r ih =>
    intro j ss l hj hss hl
    have i1 := ih (j + 1) (ss ++ [nameR (200 + j)]) (l ++ [((ss.length : Nat) : Int)]) (by omega) (by simp; omega) (by simp; omega)
    rw [mMake_5_eq, w1, if_pos (decide_eq_true (by omega)), show (200 : Int) + ((j : Nat) : Int) = ((200 + j : Nat) : Int) by omega, wN (by omega), mname_spec _ (by omega), pS_some, if_pos ⟨rfl, by omega⟩, if_pos (sLe _), if_pos ⟨rfl, by omega⟩, if_pos (kLe _), sPush, if_pos (sLe1 _ _), if_pos (rLe _), kPush, if_pos (kLe1 _ _), sAll1, rAll, kAll1,
      show (((ss.length : Nat) : Int) + 1) - 1 = ((ss.length : Nat) : Int) by omega, wN (by omega), show ((j : Nat) : Int) + 1 = ((j + 1 : Nat) : Int) by omega, wN (by omega)]
    rw [List.length_append, List.length_append] at i1
    refine i1.trans ?_
    simp [kI, tS, lS, List.range'_succ]
theorem mk3 (add : Int) (i : Nat) (hi : i < 4) (hf : f < 256) {G : Nat} {cG : List F} (fs : List MFun) (nm : Int) (K : List ByteArray → List Int → R)
    (hK : ∀ (ss : List ByteArray) (l : List Int), ss.length ≤ 900 → mMake_5 add ((funN f : Nat) : Int) i 0 g f e A cA ss.length G cG fs.length (sF ss) (rowsF fs) nm ((parN f i : Nat) : Int) l.length (kF .i64 l) 0 [] = K ss l) : ∀ (r j : Nat) (ss : List ByteArray) (l : List Int), j + r = locN f i → ss.length + r ≤ 900 → l.length = j →
    mMake_3 add ((funN f : Nat) : Int) i j g f e A cA ss.length G cG fs.length (sF ss) (rowsF fs) nm ((parN f i : Nat) : Int) l.length (kF .i64 l) = K (ss ++ lS j r) (l ++ kI ss.length r) := by
  have hp : parN f i < 4 := Nat.mod_lt _ (by omega)
  have w1 : IntKind.wrap .i64 (IntKind.wrap .i64 (((parN f i : Nat) : Int) + 1) + Int.tmod (i : Int) 3) = ((locN f i : Nat) : Int) := by
    rw [show Int.tmod (i : Int) 3 = ((i % 3 : Nat) : Int) from tmodN i 3, wrap_i64 (n := ((parN f i : Nat) : Int) + 1) (by omega) (by omega), wrap_i64 (by omega) (by omega)]; unfold locN; omega
  have hs : locN f i ≤ 6 := by unfold locN; omega
  intro r
  induction r with
  | zero =>
    intro j ss l hj hss hl
    rw [mMake_3_eq, w1, if_neg (by simp; omega), if_pos (sLe _), if_pos (rLe _), if_pos (kLe _), sAll, rAll, kAll, hK _ _ (by omega)]
    show K ss l = K (ss ++ []) (l ++ [])
    rw [List.append_nil, List.append_nil]
  | succ r ih =>
    intro j ss l hj hss hl
    have i1 := ih (j + 1) (ss ++ [nameR (100 + j)]) (l ++ [((ss.length : Nat) : Int)]) (by omega) (by simp; omega) (by simp; omega)
    rw [mMake_3_eq, w1, if_pos (decide_eq_true (by omega)), show (100 : Int) + ((j : Nat) : Int) = ((100 + j : Nat) : Int) by omega, wN (by omega), mname_spec _ (by omega), pS_some, if_pos ⟨rfl, by omega⟩, if_pos (sLe _), if_pos ⟨rfl, by omega⟩, if_pos (kLe _), sPush, if_pos (sLe1 _ _), if_pos (rLe _), kPush, if_pos (kLe1 _ _), sAll1, rAll, kAll1,
      show (((ss.length : Nat) : Int) + 1) - 1 = ((ss.length : Nat) : Int) by omega, wN (by omega), show ((j : Nat) : Int) + 1 = ((j + 1 : Nat) : Int) by omega, wN (by omega)]
    rw [List.length_append, List.length_append] at i1
    refine i1.trans ?_
    simp [kI, tS, lS, List.range'_succ]
theorem locS_eq (i : Nat) : lS 0 (locN f i) = locS f i := rfl
theorem siteS_eq (i : Nat) : tS 0 (siteN i) = siteS i := rfl
theorem mk2 (hf : f < 256) {G : Nat} {cG : List F} : ∀ (r i : Nat) (ss : List ByteArray) (fs : List MFun) (add : Int), i + r = funN f → ss.length + 9 * r ≤ 900 → fs.length = i →
    mMake_2 add ((funN f : Nat) : Int) i g f e A cA ss.length G cG fs.length (sF ss) (rowsF fs) =
      mMake_4 ((funN f : Nat) : Int) 0 g f e A cA (ss ++ strF f i r).length (sF (ss ++ strF f i r)) G cG (fs ++ funF0 f i ss.length r).length 0 (rowsF (fs ++ funF0 f i ss.length r)) [] := by
  have hn : funN f ≤ 4 := by unfold funN; omega
  intro r
  induction r with
  | zero =>
    intro i ss fs add hi hss hfs
    rw [mMake_2_eq, if_neg (by simp; omega), if_pos (sLe _), if_pos (rLe _), sAll, rAll]
    simp [strF, funF0]
  | succ r ih =>
    intro i ss fs add hi hss hfs
    have hp : parN f i < 4 := Nat.mod_lt _ (by omega)
    have hl : locN f i ≤ 6 := by unfold locN; omega
    have hs : siteN i ≤ 2 := by unfold siteN; omega
    have w1 : Int.tmod (IntKind.wrap .i64 (((i : Nat) : Int) + IntKind.wrap .i64 (IntKind.wrap .u8 (Int.tdiv (f : Int) 4)))) 4 = ((parN f i : Nat) : Int) := by
      rw [show Int.tdiv (f : Int) 4 = ((f / 4 : Nat) : Int) from tdivN f 4, w8 (by omega), wN (by omega), show ((i : Nat) : Int) + ((f / 4 : Nat) : Int) = ((i + f / 4 : Nat) : Int) by omega, wN (by omega)]; exact tmodN _ 4
    have w2 : IntKind.wrap .u8 (IntKind.wrap .i64 (48 + ((i : Nat) : Int))) = ((48 + i : Nat) : Int) := by rw [wrap_i64 (by omega) (by omega), wrap_u8_in (by omega) (by omega)]; omega
    have e1 : (⟨#[102]⟩ : ByteArray) ++ (⟨[UInt8.ofNat (48 + i)].toArray⟩ : ByteArray) = fnameR i := rfl
    have k3 := mk3 (g := g) (f := f) (e := e) (A := A) (cA := cA) add i (by omega) hf (G := G) (cG := cG) fs ((ss.length : Nat) : Int)
    rw [mMake_2_eq, if_pos (decide_eq_true (by omega)), w2, Int.toNat_natCast, e1, if_neg (by show ¬ (((1 + 1 : Nat) : Int) > 9223372036854775807); decide), if_pos ⟨rfl, by omega⟩, if_pos (sLe _), sPush, if_pos (sLe1 _ _), if_pos (rLe _), sAll1, rAll, w1, show (((ss.length : Nat) : Int) + 1) - 1 = ((ss.length : Nat) : Int) by omega, wN (by omega)]
    have h3 := k3 (fun ss1 l1 => mMake_7 add ((funN f : Nat) : Int) i g f e A cA (ss1 ++ tS 0 (siteN i)).length G cG fs.length (sF (ss1 ++ tS 0 (siteN i))) (rowsF fs) ((ss.length : Nat) : Int) ((parN f i : Nat) : Int) l1.length (kF .i64 l1) ([] ++ kI ss1.length (siteN i)).length (kF .i64 ([] ++ kI ss1.length (siteN i))))
      (fun ss1 l1 h1 => by
        have q := mk5 (g := g) (f := f) (e := e) (A := A) (cA := cA) add i (by omega) (G := G) (cG := cG) fs ((ss.length : Nat) : Int) ((parN f i : Nat) : Int) l1 (fun ss2 l2 => mMake_7 add ((funN f : Nat) : Int) i g f e A cA ss2.length G cG fs.length (sF ss2) (rowsF fs) ((ss.length : Nat) : Int) ((parN f i : Nat) : Int) l1.length (kF .i64 l1) l2.length (kF .i64 l2)) (fun ss2 l2 => rfl) (siteN i) 0 ss1 [] (by omega) (by omega) rfl
        exact q) (locN f i) 0 (ss ++ [fnameR i]) [] (by omega) (by simp; omega) rfl
    rw [List.length_append, List.length_singleton] at h3
    refine h3.trans ?_
    rw [mMake_7_eq]
    have hfun : fun0 f i ss.length = ⟨((ss.length : Nat) : Int), ((parN f i : Nat) : Int), kI (ss.length + 1) (locN f i), kI (ss.length + 1 + locN f i) (siteN i), []⟩ := rfl
    have hl1 : (ss ++ [fnameR i] ++ lS 0 (locN f i)).length = ss.length + 1 + locN f i := by simp; omega
    rw [List.nil_append, List.nil_append, hl1]
    have hi' := ih (i + 1) (ss ++ [fnameR i] ++ lS 0 (locN f i) ++ tS 0 (siteN i)) (fs ++ [fun0 f i ss.length]) (IntKind.wrap .i64 (add + 1)) (by omega) (by simp; omega) (by simp; omega)
    have e2 : ss ++ [fnameR i] ++ lS 0 (locN f i) ++ tS 0 (siteN i) ++ strF f (i + 1) r = ss ++ strF f i (r + 1) := by
      simp [strF, locS, siteS, lS, tS]
    have e3 : fs ++ [fun0 f i ss.length] ++ funF0 f (i + 1) (ss ++ [fnameR i] ++ lS 0 (locN f i) ++ tS 0 (siteN i)).length r = fs ++ funF0 f i ss.length (r + 1) := by
      have : (ss ++ [fnameR i] ++ lS 0 (locN f i) ++ tS 0 (siteN i)).length = ss.length + 1 + locN f i + siteN i := by simp; omega
      rw [this, List.append_assoc]; rfl
    rw [e2, e3] at hi'
    have p := push_mk (f := rowF) (es := 5) rowF_len fs (fun0 f i ss.length) 88 (by omega) fun k c => mMake_2 (IntKind.wrap .i64 (add + 1)) ((funN f : Nat) : Int) ((i + 1 : Nat) : Int) g f e A cA (ss ++ [fnameR i] ++ lS 0 (locN f i) ++ tS 0 (siteN i)).length G cG k (sF (ss ++ [fnameR i] ++ lS 0 (locN f i) ++ tS 0 (siteN i))) c
    rw [if_pos (sLe _), sAll, show ((i : Nat) : Int) + 1 = ((i + 1 : Nat) : Int) by omega, wN (by omega)]
    exact p.trans hi'
/-! ### entries -/
theorem entR_snoc (e n : Nat) : entR e 0 (n + 1) = if e / 2 ^ n % 2 = 1 then entR e 0 n ++ [((n : Nat) : Int)] else entR e 0 n := by
  unfold entR
  rw [List.range'_1_concat, List.filter_append, List.map_append, Nat.zero_add]
  by_cases h : e / 2 ^ n % 2 = 1
  · rw [if_pos h]; simp [h]
  · rw [if_neg h]; simp [h]
theorem entR_len (e n : Nat) : (entR e 0 n).length ≤ n := by
  unfold entR
  rw [List.length_map]
  exact Nat.le_trans (List.length_filter_le _ _) (by simp)
theorem mk4 (he : e < 256) {S : Nat} {cS : List F} {G : Nat} {cG : List F} (fs : List MFun) (n : Nat) (hn : n ≤ 4) : ∀ r i : Nat, i + r = n →
    mMake_4 n i g f e A cA S cS G cG fs.length (entR e 0 i).length (rowsF fs) (kF .i64 (entR e 0 i)) = mMake_6 n g f e A cA S cS G cG fs.length (entR e 0 n).length (kF .i64 (entR e 0 n)) (rowsF fs) := by
  intro r
  induction r with
  | zero =>
    intro i hi
    have : i = n := by omega
    subst this
    rw [mMake_4_eq, if_neg (by simp), if_pos (rLe _), if_pos (kLe _), rAll, kAll]
  | succ r ih =>
    intro i hi
    have i1 := ih (i + 1) (by omega)
    rw [entR_snoc] at i1
    have hl := entR_len e i
    have w1 : Int.tmod (Int.fdiv (e : Int) (2 ^ (min (Int.toNat ((i : Nat) : Int)) 8))) 2 = ((e / 2 ^ i % 2 : Nat) : Int) := by
      rw [Int.toNat_natCast, Nat.min_eq_left (by omega), show ((2 : Int) ^ i) = ((2 ^ i : Nat) : Int) by simp, fdiv_nat]; exact tmodN _ 2
    rw [mMake_4_eq, if_pos (decide_eq_true (by omega)), if_neg (by omega), w1]
    by_cases h : e / 2 ^ i % 2 = 1
    · rw [if_pos h] at i1
      rw [if_pos (by rw [h]; rfl), if_pos ⟨rfl, by omega⟩, if_pos (kLe _), if_pos (rLe _), kPush, if_pos (kLe1 _ _), rAll, kAll1, show ((i : Nat) : Int) + 1 = ((i + 1 : Nat) : Int) by omega, wN (by omega)]
      rw [List.length_append] at i1
      exact i1
    · rw [if_neg h] at i1
      rw [if_neg (fun q => h (by have := eq_of_beq q; omega)), if_pos (rLe _), if_pos (kLe _), rAll, kAll, show ((i : Nat) : Int) + 1 = ((i + 1 : Nat) : Int) by omega, wN (by omega)]
      exact i1
theorem globS_len : (globS g).length = globN g := by simp [globS]
/-- ahead of the statements -/
theorem mk_frame (hg : g < 256) (hf : f < 256) (he : e < 256) : mMake_0 g f e A cA =
    mMake_6 ((funN f : Nat) : Int) g f e A cA (frameM g f e).strings.length (sF (frameM g f e).strings) (frameM g f e).globals.length (kF .i64 (frameM g f e).globals) (frameM g f e).funcs.length (frameM g f e).entries.length (kF .i64 (frameM g f e).entries) (rowsF (frameM g f e).funcs) := by
  have hn : funN f ≤ 4 := by unfold funN; omega
  have hG : globN g ≤ 3 := by unfold globN; omega
  have h1 := mk1 g f e (A := A) (cA := cA) hg hf 0 (globN g) 0 (by omega)
  have h2 := mk2 g f e (A := A) (cA := cA) hf (G := globN g) (cG := kF .i64 (kI 0 (globN g))) (funN f) 0 (globS g) [] 0 (by omega) (by rw [globS_len]; omega) rfl
  have h4 := mk4 g f e (A := A) (cA := cA) he (S := (globS g ++ strF f 0 (funN f)).length) (cS := sF (globS g ++ strF f 0 (funN f))) (G := globN g) (cG := kF .i64 (kI 0 (globN g))) ([] ++ funF0 f 0 (globS g).length (funN f)) (funN f) hn (funN f) 0 (by omega)
  have e0 : (frameM g f e).globals.length = globN g := kI_len _ _
  have e1 : (frameM g f e).funcs = [] ++ funF0 f 0 (globS g).length (funN f) := by rw [globS_len]; rfl
  rw [e0, e1]
  rw [mMake_eq]
  refine Eq.trans ?_ (h1.trans (h2.trans h4))
  simp
  rfl
end
end Go.Proofs.Ytlddnplflakmiaa
