/-
  Modules said the one way: what the document's Canon answers.
-/
import Derived.Test.YtjefolfbdohkcaaMakeSpec2
set_option autoImplicit false
set_option linter.unusedVariables false
set_option linter.unusedSimpArgs false
namespace Go.Proofs.Ytjefolfbdohkcaa
open Go Go.Abs
theorem atS_at {l : List ByteArray} {j : Nat} {s : ByteArray} (h : l[j]? = some s) (K : ByteArray → R) : atS (sF l) j K = K s := by
  simp [atS, sF, F.str?, h]
theorem sF_set (l : List ByteArray) (j : Nat) (s : ByteArray) : (sF l).set j (.s (.string s)) = sF (l.set j s) := by simp [sF, List.map_set]
theorem insB_len (s : ByteArray) : ∀ l : List ByteArray, (insB s l).length = l.length + 1
  | [] => rfl
  | a :: r => by unfold insB; split <;> simp [insB_len s r]
theorem canonL_len (used : List Int) : ∀ (ss : List ByteArray) (i : Nat) (acc : List ByteArray), (canonL used i ss acc).length ≤ acc.length + ss.length
  | [], i, acc => by simp [canonL]
  | s :: r, i, acc => by
    unfold canonL
    have := canonL_len used r (i + 1) (if (i : Int) ∈ used ∧ s ∉ acc then (insB s acc.reverse).reverse else acc)
    split at this
    · rename_i h; rw [if_pos h]; simp only [List.length_reverse, insB_len, List.length_cons] at this ⊢; omega
    · rename_i h; rw [if_neg h]; simp only [List.length_cons]; omega
theorem numB_neg (s : ByteArray) : ∀ (l : List ByteArray) (i : Nat), decide (numB s i l < 0) = decide (s ∉ l)
  | [], i => by simp [numB]
  | a :: r, i => by
    unfold numB
    by_cases h : a = s
    · rw [if_pos h, decide_eq_decide]
      constructor
      · intro q; omega
      · intro q; exact absurd (by simp [h]) q
    · rw [if_neg h, numB_neg s r (i + 1), decide_eq_decide]
      simp only [List.mem_cons, not_or]
      exact ⟨fun q => ⟨fun e => h e.symm, q⟩, fun q => q.2⟩
/-- few of each, and all within -/
structure okCn (m : Mod) : Prop where
  strings : m.strings.length ≤ big
  globals : m.globals.length ≤ big
  funcs : m.funcs.length ≤ big
  rows : ∀ f ∈ m.funcs, f.locals.length ≤ big ∧ f.sites.length ≤ big
  used : ∀ n ∈ usedR m, 0 ≤ n ∧ n < m.strings.length
section
variable {m : Mod}
noncomputable abbrev C1 (m : Mod) (i : Nat) (acc : List ByteArray) : R := mCanon_1 m.strings.length (sF m.strings) m.globals.length (kF .i64 m.globals) m.funcs.length (funsF m.funcs) m.entries.length (kF .i64 m.entries) acc.length i (sF acc)
noncomputable abbrev C2 (m : Mod) (i : Nat) (k : Nat) (acc : List ByteArray) : R := mCanon_2 m.strings.length (sF m.strings) m.globals.length (kF .i64 m.globals) m.funcs.length (funsF m.funcs) m.entries.length (kF .i64 m.entries) acc.length i k (sF acc)
theorem canon2 (i : Nat) (hi : i < big) (s : ByteArray) : ∀ (rp : List ByteArray) (post : List ByteArray), rp.length ≤ big → C2 m i rp.length (rp.reverse ++ s :: post) = C1 m (i + 1) ((insB s rp).reverse ++ post)
  | [], post, hb => by
    unfold C2 C1
    unfold big at hi
    rw [mCanon_2_eq, if_neg (by simp), if_pos (by simp), List.drop_zero, List.take_of_length_le (by simp), show ((i : Nat) : Int) + 1 = ((i + 1 : Nat) : Int) by omega, wN (by omega)]
    simp [insB]
  | a :: rp, post, hb => by
    have hi' := hi
    have hb' := hb
    unfold big at hi hb
    have hlen : ((a :: rp).reverse ++ s :: post).length = rp.length + 2 + post.length := by simp; omega
    have g1 : ((a :: rp).reverse ++ s :: post)[rp.length]? = some a := by simp
    have g2 : ((a :: rp).reverse ++ s :: post)[rp.length + 1]? = some s := by
      rw [List.getElem?_append_right (by simp)]; simp
    have k1 : IntKind.wrap .i64 ((((a :: rp).length : Nat) : Int) - 1) = ((rp.length : Nat) : Int) := by
      rw [show (((a :: rp).length : Nat) : Int) - 1 = ((rp.length : Nat) : Int) by simp, wN (by simp at hb; omega)]
    have k2 : (((a :: rp).length : Nat) : Int) = ((rp.length + 1 : Nat) : Int) := rfl
    have n1 : Int.toNat ((rp.length : Nat) : Int) = rp.length := Int.toNat_natCast _
    have n2 : Int.toNat ((rp.length + 1 : Nat) : Int) = rp.length + 1 := Int.toNat_natCast _
    unfold C2
    rw [mCanon_2_eq, k1, k2, n1, n2]
    simp only [Nat.mul_one, Nat.zero_add]
    have c1 : True ∧ 0 ≤ ((rp.length : Nat) : Int) ∧ ((rp.length : Nat) : Int) < ((((a :: rp).reverse ++ s :: post).length : Nat) : Int) := ⟨trivial, by omega, by omega⟩
    have c2 : True ∧ 0 ≤ ((rp.length + 1 : Nat) : Int) ∧ ((rp.length + 1 : Nat) : Int) < ((((a :: rp).reverse ++ s :: post).length : Nat) : Int) := ⟨trivial, by omega, by omega⟩
    rw [if_pos (decide_eq_true (by omega)), if_pos c1, atS_at g1, if_pos c2, atS_at g2]
    have hgt : (!(Op.bytesLess (a.toList) (s.toList) || a.toList == s.toList)) = gtB a s := rfl
    rw [hgt]
    unfold insB
    by_cases h : gtB a s = true
    · have e1 : (((a :: rp).reverse ++ s :: post).set (rp.length + 1) a).set rp.length s = rp.reverse ++ s :: a :: post := by
        rw [List.reverse_cons, List.append_assoc, List.set_append_right _ _ (by simp), List.set_append_right _ _ (by simp)]
        simp
      rw [if_pos h, if_pos h, if_pos c2, atS_at g2, if_pos c1, atS_at g1, if_pos c2, if_pos (by rw [sF_length]; omega), if_pos c1, if_pos (by rw [List.length_set, sF_length]; omega), sF_set, sF_set, e1]
      have e2 : (rp.reverse ++ s :: a :: post).length = ((a :: rp).reverse ++ s :: post).length := by simp
      rw [if_pos (by rw [sF_length, e2]; exact Nat.le_refl _), List.drop_zero, List.take_of_length_le (by rw [sF_length, e2]; exact Nat.le_refl _)]
      have := canon2 i hi' s rp (a :: post) (by unfold big; simp at hb; omega)
      unfold C2 at this
      rw [e2] at this
      refine this.trans ?_
      simp
    · rw [if_neg h, if_neg h, if_pos (by rw [sF_length]; exact Nat.le_refl _), List.drop_zero, List.take_of_length_le (by rw [sF_length]; exact Nat.le_refl _), show ((i : Nat) : Int) + 1 = ((i + 1 : Nat) : Int) by omega, wN (by omega)]
      have e3 : (s :: a :: rp).reverse ++ post = (a :: rp).reverse ++ s :: post := by simp
      rw [e3]
theorem canon1 (hm : okCn m) : ∀ (rest : List ByteArray) (i : Nat) (acc : List ByteArray), m.strings.drop i = rest → i ≤ m.strings.length → acc.length ≤ i →
    C1 m i acc = mCanon_3 m.strings.length (sF m.strings) m.globals.length (kF .i64 m.globals) m.funcs.length (funsF m.funcs) m.entries.length (kF .i64 m.entries) (canonL (usedR m) i rest acc).length (sF (canonL (usedR m) i rest acc))
  | [], i, acc, hd, hi, ha => by
    have := done_of_drop hd
    unfold C1
    rw [mCanon_1_eq, if_neg (by simp; omega), if_pos (by simp), List.drop_zero, List.take_of_length_le (by simp)]
    rfl
  | s :: rest, i, acc, hd, hi, ha => by
    have hlt := lt_of_drop hd
    have hs := hm.strings
    have hs' := hs
    unfold big at hs
    have keep : C1 m (i + 1) acc = mCanon_3 m.strings.length (sF m.strings) m.globals.length (kF .i64 m.globals) m.funcs.length (funsF m.funcs) m.entries.length (kF .i64 m.entries) (canonL (usedR m) (i + 1) rest acc).length (sF (canonL (usedR m) (i + 1) rest acc)) :=
      canon1 hm rest (i + 1) acc (drop_next hd) (by omega) (by omega)
    unfold C1 at keep
    unfold C1
    rw [mCanon_1_eq, if_pos (decide_eq_true (by omega)), mUsed_spec hm.globals hm.funcs hm.rows, pB_some]
    unfold canonL
    by_cases hu : ((i : Nat) : Int) ∈ usedR m
    · rw [if_pos (decide_eq_true hu), elem_sF hd, atS_zero, mnumber_own acc (by unfold big; omega), pI_some, numB_neg]
      by_cases hn : s ∉ acc
      · rw [if_pos (decide_eq_true hn), elem_sF hd, atS_zero, if_pos (show ((i : Nat) : Int) ∈ usedR m ∧ s ∉ acc from ⟨hu, hn⟩), if_pos ⟨rfl, by omega⟩, if_pos (by simp), List.drop_zero, List.take_of_length_le (l := sF acc) (by simp)]
        have e1 : sF acc ++ [F.s (.string s)] = sF (acc ++ [s]) := by rw [sF_append]; rfl
        rw [e1, if_pos (by simp), List.drop_zero, List.take_of_length_le (by simp), show (((acc.length : Nat) : Int) + 1) - 1 = ((acc.length : Nat) : Int) by omega, wN (by omega)]
        have := canon2 (m := m) i (by unfold big; omega) s acc.reverse [] (by rw [List.length_reverse]; unfold big; omega)
        unfold C2 at this
        rw [List.reverse_reverse, List.length_reverse, List.append_nil, List.length_append, List.length_singleton] at this
        refine this.trans ?_
        exact canon1 hm rest (i + 1) _ (drop_next hd) (by omega) (by rw [List.length_reverse, insB_len, List.length_reverse]; omega)
      · rw [if_neg (by simpa using hn), if_neg (show ¬ (((i : Nat) : Int) ∈ usedR m ∧ s ∉ acc) from fun q => hn q.2), if_pos (by simp), List.drop_zero, List.take_of_length_le (by simp), show ((i : Nat) : Int) + 1 = ((i + 1 : Nat) : Int) by omega, wN (by omega)]
        exact keep
    · rw [if_neg (by simpa using hu), if_neg (show ¬ (((i : Nat) : Int) ∈ usedR m ∧ s ∉ acc) from fun q => hu q.1), if_pos (by simp), List.drop_zero, List.take_of_length_le (by simp), show ((i : Nat) : Int) + 1 = ((i + 1 : Nat) : Int) by omega, wN (by omega)]
      exact keep
/-! ### functions -/
theorem fun_cells {l rest : List MFun} {f : MFun} {i : Nat} (h : l.drop i = f :: rest) (K : Int → Int → Nat → List F → Nat → List F → Nat → List F → R) :
    (elem (.lst l.length (funsF l)) (i : Int) 5 fun c => atI .i64 c 0 fun n => atI .i64 c 1 fun p => atL c 2 fun m1 c1 => atL c 3 fun m2 c2 => atL c 4 fun m3 c3 => K n p m1 c1 m2 c2 m3 c3) =
      K f.name f.params f.locals.length (kF .i64 f.locals) f.sites.length (kF .i64 f.sites) f.body.length (stmtsF f.body) := by
  rw [elem_next MFun.F_len h]
  simp only [MFun.F, List.cons_append, atI_zero, atI_succ, atL_zero, atL_succ]
theorem used_fun (hm : okCn m) {f : MFun} (hf : f ∈ m.funcs) : (0 ≤ f.name ∧ f.name < m.strings.length) ∧ (∀ n ∈ f.locals, 0 ≤ n ∧ n < m.strings.length) ∧ ∀ n ∈ f.sites, 0 ≤ n ∧ n < m.strings.length := by
  have key : ∀ n, n ∈ f.name :: (f.locals ++ f.sites) → 0 ≤ n ∧ n < m.strings.length := fun n hn => hm.used n (List.mem_append_right _ (List.mem_flatMap.2 ⟨f, hf, hn⟩))
  exact ⟨key _ (by simp), fun n hn => key n (by simp [hn]), fun n hn => key n (by simp [hn])⟩
theorem canon4 (hm : okCn m) (l : List ByteArray) (hl : l.length ≤ big) (gl : List Int) : ∀ (rest : List MFun) (i : Nat) (out : List MFun), m.funcs.drop i = rest → i ≤ m.funcs.length → out.length = i →
    mCanon_4 m.strings.length (sF m.strings) m.globals.length (kF .i64 m.globals) m.funcs.length (funsF m.funcs) m.entries.length (kF .i64 m.entries) l.length (sF l) i l.length (sF l) gl.length (kF .i64 gl) out.length m.entries.length (kF .i64 m.entries) (funsF out) =
      some (.ret (.agg (modV ⟨l, gl, out ++ rest.map (canonF l m.strings), m.entries⟩)), [])
  | [], i, out, hd, hi, ho => by
    have := done_of_drop hd
    rw [mCanon_4_eq, if_neg (by simp; omega)]
    have e := keep_mk (f := MFun.F) MFun.F_len out fun c => some (.ret (.agg [.f (.lst l.length (sF l)), .f (.lst gl.length (kF .i64 gl)), .f (.lst out.length c), .f (.lst m.entries.length (kF .i64 m.entries))]), [])
    refine e.trans ?_
    simp
  | f :: rest, i, out, hd, hi, ho => by
    have hlt := lt_of_drop hd
    have hf : f ∈ m.funcs := List.mem_of_mem_drop (by rw [hd]; simp : f ∈ m.funcs.drop i)
    obtain ⟨u1, u2, u3⟩ := used_fun hm hf
    obtain ⟨r1, r2⟩ := hm.rows f hf
    have hfl := hm.funcs
    unfold big at hfl
    rw [mCanon_4_eq, if_pos (decide_eq_true (by omega)), fun_cells hd, str_at u1, mnumber_spec l hl, pI_some, mnumbers_spec l m.strings hl f.locals r1 u2, pL_some, mnumbers_spec l m.strings hl f.sites r2 u3, pL_some, show ((i : Nat) : Int) + 1 = ((i + 1 : Nat) : Int) by omega, wN (by omega)]
    have e := push_mk (f := MFun.F) (es := 5) MFun.F_len out (canonF l m.strings f) 88 (by omega) fun k c => mCanon_4 m.strings.length (sF m.strings) m.globals.length (kF .i64 m.globals) m.funcs.length (funsF m.funcs) m.entries.length (kF .i64 m.entries) l.length (sF l) ((i + 1 : Nat) : Int) l.length (sF l) gl.length (kF .i64 gl) k m.entries.length (kF .i64 m.entries) c
    refine e.trans ?_
    rw [canon4 hm l hl gl rest (i + 1) (out ++ [canonF l m.strings f]) (drop_next hd) (by omega) (by simp; omega)]
    simp
theorem mCanon_core (hm : okCn m) : mCanon_0 m.strings.length (sF m.strings) m.globals.length (kF .i64 m.globals) m.funcs.length (funsF m.funcs) m.entries.length (kF .i64 m.entries) = some (.ret (.agg (modV (canonM m))), []) := by
  have h1 := canon1 hm m.strings 0 [] rfl (by omega) (by simp)
  have hl : (canonS m).length ≤ big := by have := canonL_len (usedR m) m.strings 0 []; have := hm.strings; simp at *; unfold canonS; omega
  rw [mCanon_eq]
  refine h1.trans ?_
  show mCanon_3 _ _ _ _ _ _ _ _ (canonS m).length (sF (canonS m)) = _
  rw [mCanon_3_eq, mnumbers_spec (canonS m) m.strings hl m.globals hm.globals (fun n hn => hm.used n (List.mem_append_left _ hn)), pL_some]
  have h4 := canon4 hm (canonS m) hl (m.globals.map (numI (canonS m) m.strings)) m.funcs 0 [] rfl (by omega) rfl
  exact h4
theorem mCanon_spec (hm : okCn m) (h0 : H) : run w0 15 [.agg (modV m)] h0 = some (.ret (.agg (modV (canonM m))), h0) := by
  rw [mCanon_run, mCanon_core hm, withH_true]
end
end Go.Proofs.Ytjefolfbdohkcaa
/-
  Modules by numbers: all but the statements.
-/
namespace Go.Proofs.Ytjefolfbdohkcaa
open Go Go.Abs
/-- a function's row, as yet without statements -/
abbrev rowF (f : MFun) : List F := [.s (.int .i64 f.name), .s (.int .i64 f.params), .lst f.locals.length (kF .i64 f.locals), .lst f.sites.length (kF .i64 f.sites), .s (.slice none 0 0)]
theorem rowF_len (f : MFun) : (rowF f).length = 5 := rfl
abbrev rowsF (l : List MFun) : List F := l.flatMap rowF
theorem kI_snoc (i n : Nat) : kInt i (n + 1) = kInt i n ++ [((i + n : Nat) : Int)] := by unfold kInt; rw [List.range'_1_concat]; simp
theorem kI_len (i n : Nat) : (kInt i n).length = n := by simp [kInt]
theorem sPush (ss : List ByteArray) (s : ByteArray) : (((sF ss).drop 0).take (ss.length * 1)) ++ ([F.s (.string s)]) = sF (ss ++ [s]) := by rw [List.drop_zero, List.take_of_length_le (by simp), sF_append]; rfl
theorem kPush (l : List Int) (n : Int) : (((kF .i64 l).drop 0).take (l.length * 1)) ++ ([F.s (.int .i64 n)]) = kF .i64 (l ++ [n]) := by rw [List.drop_zero, List.take_of_length_le (by simp), kF_append]; rfl
theorem sAll (ss : List ByteArray) : ((sF ss).drop 0).take (ss.length * 1) = sF ss := by rw [List.drop_zero, List.take_of_length_le (by simp)]
theorem kAll (ss : List Int) : ((kF .i64 ss).drop 0).take (ss.length * 1) = kF .i64 ss := by rw [List.drop_zero, List.take_of_length_le (by simp)]
theorem rAll (fs : List MFun) : ((rowsF fs).drop 0).take (fs.length * 5) = rowsF fs := by
  rw [List.drop_zero, List.take_of_length_le (by rw [flat_len rowF_len fs]; exact Nat.le_refl _)]
theorem sAll1 (ss : List ByteArray) (s : ByteArray) : ((sF (ss ++ [s])).drop 0).take ((ss.length + 1) * 1) = sF (ss ++ [s]) := by rw [List.drop_zero, List.take_of_length_le (by simp)]
theorem kAll1 (ss : List Int) (s : Int) : ((kF .i64 (ss ++ [s])).drop 0).take ((ss.length + 1) * 1) = kF .i64 (ss ++ [s]) := by rw [List.drop_zero, List.take_of_length_le (by simp)]
theorem sLe (ss : List ByteArray) : 0 + ss.length * 1 ≤ (sF ss).length := by simp
theorem kLe (ss : List Int) : 0 + ss.length * 1 ≤ (kF .i64 ss).length := by simp
theorem sLe1 (ss : List ByteArray) (s : ByteArray) : 0 + (ss.length + 1) * 1 ≤ (sF (ss ++ [s])).length := by simp
theorem kLe1 (ss : List Int) (s : Int) : 0 + (ss.length + 1) * 1 ≤ (kF .i64 (ss ++ [s])).length := by simp
theorem rLe (fs : List MFun) : 0 + fs.length * 5 ≤ (rowsF fs).length := by rw [flat_len rowF_len fs]; omega
section
variable (g f e : Nat) {A : Nat} {cA : List F}
abbrev gS (i : Nat) : List ByteArray := (List.range' 0 i).map fun i => nameR (i * (1 + g / 4 % 3))
theorem gS_len (i : Nat) : (gS g i).length = i := by simp
theorem mk1 (hg : g < 256) (hf : f < 256) (add : Int) : ∀ r i : Nat, i + r = globN g →
    mMake_1 ((i * (1 + g / 4 % 3) : Nat) : Int) add i g f e A cA (gS g i).length (kInt 0 i).length (sF (gS g i)) (kF .i64 (kInt 0 i)) = mMake_2 add ((funN f : Nat) : Int) 0 g f e A cA (globS g).length (globN g) (kF .i64 (kInt 0 (globN g))) 0 (sF (globS g)) [] := by
  intro r
  have h4 : globN g < 4 := Nat.mod_lt _ (by omega)
  have w1 : IntKind.wrap .i64 (Int.tmod (g : Int) 4) = ((globN g : Nat) : Int) := by rw [show Int.tmod (g : Int) 4 = ((g % 4 : Nat) : Int) from tmodN g 4, wN (by omega)]; rfl
  have w2 : IntKind.wrap .i64 (1 + IntKind.wrap .i64 (Int.tmod (f : Int) 4)) = ((funN f : Nat) : Int) := by
    rw [show Int.tmod (f : Int) 4 = ((f % 4 : Nat) : Int) from tmodN f 4, wN (by omega), wrap_i64 (by omega) (by omega)]; unfold funN; omega
  have w3 : IntKind.wrap .i64 (1 + Int.tmod (IntKind.wrap .i64 (IntKind.wrap .u8 (Int.tdiv (g : Int) 4))) 3) = ((1 + g / 4 % 3 : Nat) : Int) := by
    rw [show Int.tdiv (g : Int) 4 = ((g / 4 : Nat) : Int) from tdivN g 4, w8 (by omega), wN (by omega), show Int.tmod ((g / 4 : Nat) : Int) 3 = ((g / 4 % 3 : Nat) : Int) from tmodN _ 3, wrap_i64 (by omega) (by omega)]; omega
  induction r with
  | zero =>
    intro i hi
    have : i = globN g := by omega
    subst this
    rw [mMake_1_eq, w1, if_neg (by simp), w2, if_pos (sLe _), if_pos (kLe _), sAll, kAll, kI_len]
    rfl
  | succ r ih =>
    intro i hi
    have e1 : gS g (i + 1) = gS g i ++ [nameR (i * (1 + g / 4 % 3))] := by unfold gS; rw [range_snoc]
    have e2 := kI_snoc 0 i
    have hm : i * (1 + g / 4 % 3) ≤ 3 * 3 := Nat.mul_le_mul (by omega) (by omega)
    have i1 := ih (i + 1) (by omega)
    rw [e1, e2, Nat.zero_add] at i1
    rw [mMake_1_eq, w1, if_pos (decide_eq_true (by omega)), mname_spec _ (by omega), pS_some, if_pos ⟨rfl, by rw [gS_len]; omega⟩, if_pos (sLe _), if_pos ⟨rfl, by rw [kI_len]; omega⟩, if_pos (kLe _), sPush, if_pos (sLe1 _ _), kPush, if_pos (kLe1 _ _), sAll1, kAll1, w3,
      show ((((gS g i).length : Nat) : Int) + 1) - 1 = ((i : Nat) : Int) by rw [gS_len]; omega, wN (by omega), show ((i : Nat) : Int) + 1 = ((i + 1 : Nat) : Int) by omega, wN (by omega),
      show (((i * (1 + g / 4 % 3) : Nat) : Int) + ((1 + g / 4 % 3 : Nat) : Int)) = (((i + 1) * (1 + g / 4 % 3) : Nat) : Int) by rw [Nat.add_mul, Nat.one_mul]; omega, wN (by rw [Nat.add_mul]; omega)]
    rw [List.length_append, List.length_append] at i1
    exact i1
/-! ### functions -/
abbrev lS (j n : Nat) : List ByteArray := (List.range' j n).map fun j => nameR (100 + j)
abbrev tS (j n : Nat) : List ByteArray := (List.range' j n).map fun j => nameR (200 + j)
theorem mk5 (add : Int) (i : Nat) (hi : i < 4) {G : Nat} {cG : List F} (fs : List MFun) (nm ps : Int) (lo : List Int) (K : List ByteArray → List Int → R)
    (hK : ∀ (ss : List ByteArray) (l : List Int), mMake_7 add ((funN f : Nat) : Int) i g f e A cA ss.length G cG fs.length (sF ss) (rowsF fs) nm ps lo.length (kF .i64 lo) l.length (kF .i64 l) = K ss l) : ∀ (r j : Nat) (ss : List ByteArray) (l : List Int), j + r = siteN i → ss.length + r ≤ 1000 → l.length = j →
    mMake_5 add ((funN f : Nat) : Int) i j g f e A cA ss.length G cG fs.length (sF ss) (rowsF fs) nm ps lo.length (kF .i64 lo) l.length (kF .i64 l) = K (ss ++ tS j r) (l ++ kInt ss.length r) := by
  have w1 : IntKind.wrap .i64 (1 + Int.tmod (i : Int) 2) = ((siteN i : Nat) : Int) := by rw [show Int.tmod (i : Int) 2 = ((i % 2 : Nat) : Int) from tmodN i 2, wrap_i64 (by omega) (by omega)]; unfold siteN; omega
  have hs : siteN i ≤ 2 := by unfold siteN; omega
  intro r
  induction r with
  | zero =>
    intro j ss l hj hss hl
    rw [mMake_5_eq, w1, if_neg (by simp; omega), if_pos (sLe _), if_pos (rLe _), if_pos (kLe _), sAll, rAll, kAll, hK]
    show K ss l = K (ss ++ []) (l ++ [])
    rw [List.append_nil, List.append_nil]
  | succ r ih =>
    intro j ss l hj hss hl
    have i1 := ih (j + 1) (ss ++ [nameR (200 + j)]) (l ++ [((ss.length : Nat) : Int)]) (by omega) (by simp; omega) (by simp; omega)
    rw [mMake_5_eq, w1, if_pos (decide_eq_true (by omega)), show (200 : Int) + ((j : Nat) : Int) = ((200 + j : Nat) : Int) by omega, wN (by omega), mname_spec _ (by omega), pS_some, if_pos ⟨rfl, by omega⟩, if_pos (sLe _), if_pos ⟨rfl, by omega⟩, if_pos (kLe _), sPush, if_pos (sLe1 _ _), if_pos (rLe _), kPush, if_pos (kLe1 _ _), sAll1, rAll, kAll1,
      show (((ss.length : Nat) : Int) + 1) - 1 = ((ss.length : Nat) : Int) by omega, wN (by omega), show ((j : Nat) : Int) + 1 = ((j + 1 : Nat) : Int) by omega, wN (by omega)]
    rw [List.length_append, List.length_append] at i1
    refine i1.trans ?_
    simp [kInt, tS, lS, List.range'_succ]
theorem mk3 (add : Int) (i : Nat) (hi : i < 4) (hf : f < 256) {G : Nat} {cG : List F} (fs : List MFun) (nm : Int) (K : List ByteArray → List Int → R)
    (hK : ∀ (ss : List ByteArray) (l : List Int), ss.length ≤ 900 → mMake_5 add ((funN f : Nat) : Int) i 0 g f e A cA ss.length G cG fs.length (sF ss) (rowsF fs) nm ((parN f i : Nat) : Int) l.length (kF .i64 l) 0 [] = K ss l) : ∀ (r j : Nat) (ss : List ByteArray) (l : List Int), j + r = locN f i → ss.length + r ≤ 900 → l.length = j →
    mMake_3 add ((funN f : Nat) : Int) i j g f e A cA ss.length G cG fs.length (sF ss) (rowsF fs) nm ((parN f i : Nat) : Int) l.length (kF .i64 l) = K (ss ++ lS j r) (l ++ kInt ss.length r) := by
  have hp : parN f i < 4 := Nat.mod_lt _ (by omega)
  have w1 : IntKind.wrap .i64 (IntKind.wrap .i64 (((parN f i : Nat) : Int) + 1) + Int.tmod (i : Int) 3) = ((locN f i : Nat) : Int) := by
    rw [show Int.tmod (i : Int) 3 = ((i % 3 : Nat) : Int) from tmodN i 3, wrap_i64 (n := ((parN f i : Nat) : Int) + 1) (by omega) (by omega), wrap_i64 (by omega) (by omega)]; unfold locN; omega
  have hs : locN f i ≤ 6 := by unfold locN; omega
  intro r
  induction r with
  | zero =>
    intro j ss l hj hss hl
    rw [mMake_3_eq, w1, if_neg (by simp; omega), if_pos (sLe _), if_pos (rLe _), if_pos (kLe _), sAll, rAll, kAll, hK _ _ (by omega)]
    show K ss l = K (ss ++ []) (l ++ [])
    rw [List.append_nil, List.append_nil]
  | succ r ih =>
    intro j ss l hj hss hl
    have i1 := ih (j + 1) (ss ++ [nameR (100 + j)]) (l ++ [((ss.length : Nat) : Int)]) (by omega) (by simp; omega) (by simp; omega)
    rw [mMake_3_eq, w1, if_pos (decide_eq_true (by omega)), show (100 : Int) + ((j : Nat) : Int) = ((100 + j : Nat) : Int) by omega, wN (by omega), mname_spec _ (by omega), pS_some, if_pos ⟨rfl, by omega⟩, if_pos (sLe _), if_pos ⟨rfl, by omega⟩, if_pos (kLe _), sPush, if_pos (sLe1 _ _), if_pos (rLe _), kPush, if_pos (kLe1 _ _), sAll1, rAll, kAll1,
      show (((ss.length : Nat) : Int) + 1) - 1 = ((ss.length : Nat) : Int) by omega, wN (by omega), show ((j : Nat) : Int) + 1 = ((j + 1 : Nat) : Int) by omega, wN (by omega)]
    rw [List.length_append, List.length_append] at i1
    refine i1.trans ?_
    simp [kInt, tS, lS, List.range'_succ]
theorem mk2 (hf : f < 256) {G : Nat} {cG : List F} : ∀ (r i : Nat) (ss : List ByteArray) (fs : List MFun) (add : Int), i + r = funN f → ss.length + 9 * r ≤ 900 → fs.length = i →
    mMake_2 add ((funN f : Nat) : Int) i g f e A cA ss.length G cG fs.length (sF ss) (rowsF fs) =
      mMake_4 ((funN f : Nat) : Int) 0 g f e A cA (ss ++ strF f i r).length (sF (ss ++ strF f i r)) G cG (fs ++ funF0 f i ss.length r).length 0 (rowsF (fs ++ funF0 f i ss.length r)) [] := by
  have hn : funN f ≤ 4 := by unfold funN; omega
  intro r
  induction r with
  | zero =>
    intro i ss fs add hi hss hfs
    rw [mMake_2_eq, if_neg (by simp; omega), if_pos (sLe _), if_pos (rLe _), sAll, rAll]
    simp [strF, funF0]
  | succ r ih =>
    intro i ss fs add hi hss hfs
    have hp : parN f i < 4 := Nat.mod_lt _ (by omega)
    have hl : locN f i ≤ 6 := by unfold locN; omega
    have hs : siteN i ≤ 2 := by unfold siteN; omega
    have w1 : Int.tmod (IntKind.wrap .i64 (((i : Nat) : Int) + IntKind.wrap .i64 (IntKind.wrap .u8 (Int.tdiv (f : Int) 4)))) 4 = ((parN f i : Nat) : Int) := by
      rw [show Int.tdiv (f : Int) 4 = ((f / 4 : Nat) : Int) from tdivN f 4, w8 (by omega), wN (by omega), show ((i : Nat) : Int) + ((f / 4 : Nat) : Int) = ((i + f / 4 : Nat) : Int) by omega, wN (by omega)]; exact tmodN _ 4
    have w2 : IntKind.wrap .u8 (IntKind.wrap .i64 (48 + ((i : Nat) : Int))) = ((48 + i : Nat) : Int) := by rw [wrap_i64 (by omega) (by omega), wrap_u8_in (by omega) (by omega)]; omega
    have e1 : (⟨#[102]⟩ : ByteArray) ++ (⟨[UInt8.ofNat (48 + i)].toArray⟩ : ByteArray) = fnameR i := rfl
    have k3 := mk3 (g := g) (f := f) (e := e) (A := A) (cA := cA) add i (by omega) hf (G := G) (cG := cG) fs ((ss.length : Nat) : Int)
    rw [mMake_2_eq, if_pos (decide_eq_true (by omega)), w2, Int.toNat_natCast, e1, if_neg (by show ¬ (((1 + 1 : Nat) : Int) > 9223372036854775807); decide), if_pos ⟨rfl, by omega⟩, if_pos (sLe _), sPush, if_pos (sLe1 _ _), if_pos (rLe _), sAll1, rAll, w1, show (((ss.length : Nat) : Int) + 1) - 1 = ((ss.length : Nat) : Int) by omega, wN (by omega)]
    have h3 := k3 (fun ss1 l1 => mMake_7 add ((funN f : Nat) : Int) i g f e A cA (ss1 ++ tS 0 (siteN i)).length G cG fs.length (sF (ss1 ++ tS 0 (siteN i))) (rowsF fs) ((ss.length : Nat) : Int) ((parN f i : Nat) : Int) l1.length (kF .i64 l1) ([] ++ kInt ss1.length (siteN i)).length (kF .i64 ([] ++ kInt ss1.length (siteN i))))
      (fun ss1 l1 h1 => by
        have q := mk5 (g := g) (f := f) (e := e) (A := A) (cA := cA) add i (by omega) (G := G) (cG := cG) fs ((ss.length : Nat) : Int) ((parN f i : Nat) : Int) l1 (fun ss2 l2 => mMake_7 add ((funN f : Nat) : Int) i g f e A cA ss2.length G cG fs.length (sF ss2) (rowsF fs) ((ss.length : Nat) : Int) ((parN f i : Nat) : Int) l1.length (kF .i64 l1) l2.length (kF .i64 l2)) (fun ss2 l2 => rfl) (siteN i) 0 ss1 [] (by omega) (by omega) rfl
        exact q) (locN f i) 0 (ss ++ [fnameR i]) [] (by omega) (by simp; omega) rfl
    rw [List.length_append, List.length_singleton] at h3
    refine h3.trans ?_
    rw [mMake_7_eq]
    have hfun : fun0 f i ss.length = ⟨((ss.length : Nat) : Int), ((parN f i : Nat) : Int), kInt (ss.length + 1) (locN f i), kInt (ss.length + 1 + locN f i) (siteN i), []⟩ := rfl
    have hl1 : (ss ++ [fnameR i] ++ lS 0 (locN f i)).length = ss.length + 1 + locN f i := by simp; omega
    rw [List.nil_append, List.nil_append, hl1]
    have hi' := ih (i + 1) (ss ++ [fnameR i] ++ lS 0 (locN f i) ++ tS 0 (siteN i)) (fs ++ [fun0 f i ss.length]) (IntKind.wrap .i64 (add + 1)) (by omega) (by simp; omega) (by simp; omega)
    have e2 : ss ++ [fnameR i] ++ lS 0 (locN f i) ++ tS 0 (siteN i) ++ strF f (i + 1) r = ss ++ strF f i (r + 1) := by
      simp [strF, locS, siteS, lS, tS]
    have e3 : fs ++ [fun0 f i ss.length] ++ funF0 f (i + 1) (ss ++ [fnameR i] ++ lS 0 (locN f i) ++ tS 0 (siteN i)).length r = fs ++ funF0 f i ss.length (r + 1) := by
      have : (ss ++ [fnameR i] ++ lS 0 (locN f i) ++ tS 0 (siteN i)).length = ss.length + 1 + locN f i + siteN i := by simp; omega
      rw [this, List.append_assoc]; rfl
    rw [e2, e3] at hi'
    have p := push_mk (f := rowF) (es := 5) rowF_len fs (fun0 f i ss.length) 88 (by omega) fun k c => mMake_2 (IntKind.wrap .i64 (add + 1)) ((funN f : Nat) : Int) ((i + 1 : Nat) : Int) g f e A cA (ss ++ [fnameR i] ++ lS 0 (locN f i) ++ tS 0 (siteN i)).length G cG k (sF (ss ++ [fnameR i] ++ lS 0 (locN f i) ++ tS 0 (siteN i))) c
    rw [if_pos (sLe _), sAll, show ((i : Nat) : Int) + 1 = ((i + 1 : Nat) : Int) by omega, wN (by omega)]
    exact p.trans hi'
/-! ### entries -/
theorem entR_snoc (e n : Nat) : entR e 0 (n + 1) = if e / 2 ^ n % 2 = 1 then entR e 0 n ++ [((n : Nat) : Int)] else entR e 0 n := by
  unfold entR
  rw [List.range'_1_concat, List.filter_append, List.map_append, Nat.zero_add]
  by_cases h : e / 2 ^ n % 2 = 1
  · rw [if_pos h]; simp [h]
  · rw [if_neg h]; simp [h]
theorem entR_len (e n : Nat) : (entR e 0 n).length ≤ n := by
  unfold entR
  rw [List.length_map]
  exact Nat.le_trans (List.length_filter_le _ _) (by simp)
theorem mk4 (he : e < 256) {S : Nat} {cS : List F} {G : Nat} {cG : List F} (fs : List MFun) (n : Nat) (hn : n ≤ 4) : ∀ r i : Nat, i + r = n →
    mMake_4 n i g f e A cA S cS G cG fs.length (entR e 0 i).length (rowsF fs) (kF .i64 (entR e 0 i)) = mMake_6 n g f e A cA S cS G cG fs.length (entR e 0 n).length (kF .i64 (entR e 0 n)) (rowsF fs) := by
  intro r
  induction r with
  | zero =>
    intro i hi
    have : i = n := by omega
    subst this
    rw [mMake_4_eq, if_neg (by simp), if_pos (rLe _), if_pos (kLe _), rAll, kAll]
  | succ r ih =>
    intro i hi
    have i1 := ih (i + 1) (by omega)
    rw [entR_snoc] at i1
    have hl := entR_len e i
    have w1 : Int.tmod (Int.fdiv (e : Int) (2 ^ (min (Int.toNat ((i : Nat) : Int)) 8))) 2 = ((e / 2 ^ i % 2 : Nat) : Int) := by
      rw [Int.toNat_natCast, Nat.min_eq_left (by omega), show ((2 : Int) ^ i) = ((2 ^ i : Nat) : Int) by simp, fdiv_nat]; exact tmodN _ 2
    rw [mMake_4_eq, if_pos (decide_eq_true (by omega)), if_neg (by omega), w1]
    by_cases h : e / 2 ^ i % 2 = 1
    · rw [if_pos h] at i1
      rw [if_pos (by rw [h]; rfl), if_pos ⟨rfl, by omega⟩, if_pos (kLe _), if_pos (rLe _), kPush, if_pos (kLe1 _ _), rAll, kAll1, show ((i : Nat) : Int) + 1 = ((i + 1 : Nat) : Int) by omega, wN (by omega)]
      rw [List.length_append] at i1
      exact i1
    · rw [if_neg h] at i1
      rw [if_neg (fun q => h (by have := eq_of_beq q; omega)), if_pos (rLe _), if_pos (kLe _), rAll, kAll, show ((i : Nat) : Int) + 1 = ((i + 1 : Nat) : Int) by omega, wN (by omega)]
      exact i1
theorem globS_len : (globS g).length = globN g := by simp [globS]
/-- ahead of the statements -/
theorem mk_frame (hg : g < 256) (hf : f < 256) (he : e < 256) : mMake_0 g f e A cA =
    mMake_6 ((funN f : Nat) : Int) g f e A cA (frameM g f e).strings.length (sF (frameM g f e).strings) (frameM g f e).globals.length (kF .i64 (frameM g f e).globals) (frameM g f e).funcs.length (frameM g f e).entries.length (kF .i64 (frameM g f e).entries) (rowsF (frameM g f e).funcs) := by
  have hn : funN f ≤ 4 := by unfold funN; omega
  have hG : globN g ≤ 3 := by unfold globN; omega
  have h1 := mk1 g f e (A := A) (cA := cA) hg hf 0 (globN g) 0 (by omega)
  have h2 := mk2 g f e (A := A) (cA := cA) hf (G := globN g) (cG := kF .i64 (kInt 0 (globN g))) (funN f) 0 (globS g) [] 0 (by omega) (by rw [globS_len]; omega) rfl
  have h4 := mk4 g f e (A := A) (cA := cA) he (S := (globS g ++ strF f 0 (funN f)).length) (cS := sF (globS g ++ strF f 0 (funN f))) (G := globN g) (cG := kF .i64 (kInt 0 (globN g))) ([] ++ funF0 f 0 (globS g).length (funN f)) (funN f) hn (funN f) 0 (by omega)
  have e0 : (frameM g f e).globals.length = globN g := kI_len _ _
  have e1 : (frameM g f e).funcs = [] ++ funF0 f 0 (globS g).length (funN f) := by rw [globS_len]; rfl
  rw [e0, e1]
  rw [mMake_eq]
  refine Eq.trans ?_ (h1.trans (h2.trans h4))
  simp
  rfl
end
end Go.Proofs.Ytjefolfbdohkcaa
