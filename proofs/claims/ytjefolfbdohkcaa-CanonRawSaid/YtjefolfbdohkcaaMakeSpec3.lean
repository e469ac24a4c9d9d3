/-
  Modules said the one way: what the document's Canon answers.
-/
import Derived.Test.YtjefolfbdohkcaaMakeSpec2
set_option autoImplicit false
set_option linter.unusedVariables false
set_option linter.unusedSimpArgs false
namespace Go.Proofs.Ytjefolfbdohkcaa
open Go Go.Abs
theorem atS_at {l : List ByteArray} {j : Nat} {s : ByteArray} (h : l[j]? = some s) (K : ByteArray → R) : atS (sF l) j K = K s := by
  simp [atS, sF, F.str?, h]
theorem sF_set (l : List ByteArray) (j : Nat) (s : ByteArray) : (sF l).set j (.s (.string s)) = sF (l.set j s) := by simp [sF, List.map_set]
theorem insB_len (s : ByteArray) : ∀ l : List ByteArray, (insB s l).length = l.length + 1
  | [] => rfl
  | a :: r => by unfold insB; split <;> simp [insB_len s r]
theorem canonL_len (used : List Int) : ∀ (ss : List ByteArray) (i : Nat) (acc : List ByteArray), (canonL used i ss acc).length ≤ acc.length + ss.length
  | [], i, acc => by simp [canonL]
  | s :: r, i, acc => by
    unfold canonL
    have := canonL_len used r (i + 1) (if (i : Int) ∈ used ∧ s ∉ acc then (insB s acc.reverse).reverse else acc)
    split at this
    · rename_i h; rw [if_pos h]; simp only [List.length_reverse, insB_len, List.length_cons] at this ⊢; omega
    · rename_i h; rw [if_neg h]; simp only [List.length_cons]; omega
theorem numB_neg (s : ByteArray) : ∀ (l : List ByteArray) (i : Nat), decide (numB s i l < 0) = decide (s ∉ l)
  | [], i => by simp [numB]
  | a :: r, i => by
    unfold numB
    by_cases h : a = s
    · rw [if_pos h, decide_eq_decide]
      constructor
      · intro q; omega
      · intro q; exact absurd (by simp [h]) q
    · rw [if_neg h, numB_neg s r (i + 1), decide_eq_decide]
      simp only [List.mem_cons, not_or]
      exact ⟨fun q => ⟨fun e => h e.symm, q⟩, fun q => q.2⟩
/-- few of each, and all within -/
structure okCn (m : Mod) : Prop where
  strings : m.strings.length ≤ big
  globals : m.globals.length ≤ big
  funcs : m.funcs.length ≤ big
  rows : ∀ f ∈ m.funcs, f.locals.length ≤ big ∧ f.sites.length ≤ big
  used : ∀ n ∈ usedR m, 0 ≤ n ∧ n < m.strings.length
section
variable {m : Mod}
noncomputable abbrev C1 (m : Mod) (i : Nat) (acc : List ByteArray) : R := mCanon_1 m.strings.length (sF m.strings) m.globals.length (kF .i64 m.globals) m.funcs.length (funsF m.funcs) m.entries.length (kF .i64 m.entries) acc.length i (sF acc)
noncomputable abbrev C2 (m : Mod) (i : Nat) (k : Nat) (acc : List ByteArray) : R := mCanon_2 m.strings.length (sF m.strings) m.globals.length (kF .i64 m.globals) m.funcs.length (funsF m.funcs) m.entries.length (kF .i64 m.entries) acc.length i k (sF acc)
theorem canon2 (i : Nat) (hi : i < big) (s : ByteArray) : ∀ (rp : List ByteArray) (post : List ByteArray), rp.length ≤ big → C2 m i rp.length (rp.reverse ++ s :: post) = C1 m (i + 1) ((insB s rp).reverse ++ post)
  | [], post, hb => by
    unfold C2 C1
    unfold big at hi
    rw [mCanon_2_eq, if_neg (by simp), if_pos (by simp), List.drop_zero, List.take_of_length_le (by simp), show ((i : Nat) : Int) + 1 = ((i + 1 : Nat) : Int) by omega, wN (by omega)]
    simp [insB]
  | a :: rp, post, hb => by
    have hi' := hi
    have hb' := hb
    unfold big at hi hb
    have hlen : ((a :: rp).reverse ++ s :: post).length = rp.length + 2 + post.length := by simp; omega
    have g1 : ((a :: rp).reverse ++ s :: post)[rp.length]? = some a := by simp
    have g2 : ((a :: rp).reverse ++ s :: post)[rp.length + 1]? = some s := by
      rw [List.getElem?_append_right (by simp)]; simp
    have k1 : IntKind.wrap .i64 ((((a :: rp).length : Nat) : Int) - 1) = ((rp.length : Nat) : Int) := by
      rw [show (((a :: rp).length : Nat) : Int) - 1 = ((rp.length : Nat) : Int) by simp, wN (by simp at hb; omega)]
    have k2 : (((a :: rp).length : Nat) : Int) = ((rp.length + 1 : Nat) : Int) := rfl
    have n1 : Int.toNat ((rp.length : Nat) : Int) = rp.length := Int.toNat_natCast _
    have n2 : Int.toNat ((rp.length + 1 : Nat) : Int) = rp.length + 1 := Int.toNat_natCast _
    unfold C2
    rw [mCanon_2_eq, k1, k2, n1, n2]
    simp only [Nat.mul_one, Nat.zero_add]
    have c1 : True ∧ 0 ≤ ((rp.length : Nat) : Int) ∧ ((rp.length : Nat) : Int) < ((((a :: rp).reverse ++ s :: post).length : Nat) : Int) := ⟨trivial, by omega, by omega⟩
    have c2 : True ∧ 0 ≤ ((rp.length + 1 : Nat) : Int) ∧ ((rp.length + 1 : Nat) : Int) < ((((a :: rp).reverse ++ s :: post).length : Nat) : Int) := ⟨trivial, by omega, by omega⟩
    rw [if_pos (decide_eq_true (by omega)), if_pos c1, atS_at g1, if_pos c2, atS_at g2]
    have hgt : (!(Op.bytesLess (a.toList) (s.toList) || a.toList == s.toList)) = gtB a s := rfl
    rw [hgt]
    unfold insB
    by_cases h : gtB a s = true
    · have e1 : (((a :: rp).reverse ++ s :: post).set (rp.length + 1) a).set rp.length s = rp.reverse ++ s :: a :: post := by
        rw [List.reverse_cons, List.append_assoc, List.set_append_right _ _ (by simp), List.set_append_right _ _ (by simp)]
        simp
      rw [if_pos h, if_pos h, if_pos c2, atS_at g2, if_pos c1, atS_at g1, if_pos c2, if_pos (by rw [sF_length]; omega), if_pos c1, if_pos (by rw [List.length_set, sF_length]; omega), sF_set, sF_set, e1]
      have e2 : (rp.reverse ++ s :: a :: post).length = ((a :: rp).reverse ++ s :: post).length := by simp
      rw [if_pos (by rw [sF_length, e2]; exact Nat.le_refl _), List.drop_zero, List.take_of_length_le (by rw [sF_length, e2]; exact Nat.le_refl _)]
      have := canon2 i hi' s rp (a :: post) (by unfold big; simp at hb; omega)
      unfold C2 at this
      rw [e2] at this
      refine this.trans ?_
      simp
    · rw [if_neg h, if_neg h, if_pos (by rw [sF_length]; exact Nat.le_refl _), List.drop_zero, List.take_of_length_le (by rw [sF_length]; exact Nat.le_refl _), show ((i : Nat) : Int) + 1 = ((i + 1 : Nat) : Int) by omega, wN (by omega)]
      have e3 : (s :: a :: rp).reverse ++ post = (a :: rp).reverse ++ s :: post := by simp
      rw [e3]
theorem canon1 (hm : okCn m) : ∀ (rest : List ByteArray) (i : Nat) (acc : List ByteArray), m.strings.drop i = rest → i ≤ m.strings.length → acc.length ≤ i →
    C1 m i acc = mCanon_3 m.strings.length (sF m.strings) m.globals.length (kF .i64 m.globals) m.funcs.length (funsF m.funcs) m.entries.length (kF .i64 m.entries) (canonL (usedR m) i rest acc).length (sF (canonL (usedR m) i rest acc))
  | [], i, acc, hd, hi, ha => by
    have := done_of_drop hd
    unfold C1
    rw [mCanon_1_eq, if_neg (by simp; omega), if_pos (by simp), List.drop_zero, List.take_of_length_le (by simp)]
    rfl
  | s :: rest, i, acc, hd, hi, ha => by
    have hlt := lt_of_drop hd
    have hs := hm.strings
    have hs' := hs
    unfold big at hs
    have keep : C1 m (i + 1) acc = mCanon_3 m.strings.length (sF m.strings) m.globals.length (kF .i64 m.globals) m.funcs.length (funsF m.funcs) m.entries.length (kF .i64 m.entries) (canonL (usedR m) (i + 1) rest acc).length (sF (canonL (usedR m) (i + 1) rest acc)) :=
      canon1 hm rest (i + 1) acc (drop_next hd) (by omega) (by omega)
    unfold C1 at keep
    unfold C1
    rw [mCanon_1_eq, if_pos (decide_eq_true (by omega)), mUsed_spec hm.globals hm.funcs hm.rows, pB_some]
    unfold canonL
    by_cases hu : ((i : Nat) : Int) ∈ usedR m
    · rw [if_pos (decide_eq_true hu), elem_sF hd, atS_zero, mnumber_own acc (by unfold big; omega), pI_some, numB_neg]
      by_cases hn : s ∉ acc
      · rw [if_pos (decide_eq_true hn), elem_sF hd, atS_zero, if_pos (show ((i : Nat) : Int) ∈ usedR m ∧ s ∉ acc from ⟨hu, hn⟩), if_pos ⟨rfl, by omega⟩, if_pos (by simp), List.drop_zero, List.take_of_length_le (l := sF acc) (by simp)]
        have e1 : sF acc ++ [F.s (.string s)] = sF (acc ++ [s]) := by rw [sF_append]; rfl
        rw [e1, if_pos (by simp), List.drop_zero, List.take_of_length_le (by simp), show (((acc.length : Nat) : Int) + 1) - 1 = ((acc.length : Nat) : Int) by omega, wN (by omega)]
        have := canon2 (m := m) i (by unfold big; omega) s acc.reverse [] (by rw [List.length_reverse]; unfold big; omega)
        unfold C2 at this
        rw [List.reverse_reverse, List.length_reverse, List.append_nil, List.length_append, List.length_singleton] at this
        refine this.trans ?_
        exact canon1 hm rest (i + 1) _ (drop_next hd) (by omega) (by rw [List.length_reverse, insB_len, List.length_reverse]; omega)
      · rw [if_neg (by simpa using hn), if_neg (show ¬ (((i : Nat) : Int) ∈ usedR m ∧ s ∉ acc) from fun q => hn q.2), if_pos (by simp), List.drop_zero, List.take_of_length_le (by simp), show ((i : Nat) : Int) + 1 = ((i + 1 : Nat) : Int) by omega, wN (by omega)]
        exact keep
    · rw [if_neg (by simpa using hu), if_neg (show ¬ (((i : Nat) : Int) ∈ usedR m ∧ s ∉ acc) from fun q => hu q.1), if_pos (by simp), List.drop_zero, List.take_of_length_le (by simp), show ((i : Nat) : Int) + 1 = ((i + 1 : Nat) : Int) by omega, wN (by omega)]
      exact keep
/-! ### functions -/
theorem fun_cells {l rest : List MFun} {f : MFun} {i : Nat} (h : l.drop i = f :: rest) (K : Int → Int → Nat → List F → Nat → List F → Nat → List F → R) :
    (elem (.lst l.length (funsF l)) (i : Int) 5 fun c => atI .i64 c 0 fun n => atI .i64 c 1 fun p => atL c 2 fun m1 c1 => atL c 3 fun m2 c2 => atL c 4 fun m3 c3 => K n p m1 c1 m2 c2 m3 c3) =
      K f.name f.params f.locals.length (kF .i64 f.locals) f.sites.length (kF .i64 f.sites) f.body.length (stmtsF f.body) := by
  rw [elem_next MFun.F_len h]
  simp only [MFun.F, List.cons_append, atI_zero, atI_succ, atL_zero, atL_succ]
theorem used_fun (hm : okCn m) {f : MFun} (hf : f ∈ m.funcs) : (0 ≤ f.name ∧ f.name < m.strings.length) ∧ (∀ n ∈ f.locals, 0 ≤ n ∧ n < m.strings.length) ∧ ∀ n ∈ f.sites, 0 ≤ n ∧ n < m.strings.length := by
  have key : ∀ n, n ∈ f.name :: (f.locals ++ f.sites) → 0 ≤ n ∧ n < m.strings.length := fun n hn => hm.used n (List.mem_append_right _ (List.mem_flatMap.2 ⟨f, hf, hn⟩))
  exact ⟨key _ (by simp), fun n hn => key n (by simp [hn]), fun n hn => key n (by simp [hn])⟩
theorem canon4 (hm : okCn m) (l : List ByteArray) (hl : l.length ≤ big) (gl : List Int) : ∀ (rest : List MFun) (i : Nat) (out : List MFun), m.funcs.drop i = rest → i ≤ m.funcs.length → out.length = i →
    mCanon_4 m.strings.length (sF m.strings) m.globals.length (kF .i64 m.globals) m.funcs.length (funsF m.funcs) m.entries.length (kF .i64 m.entries) l.length (sF l) i l.length (sF l) gl.length (kF .i64 gl) out.length m.entries.length (kF .i64 m.entries) (funsF out) =
      some (.ret (.agg (modV ⟨l, gl, out ++ rest.map (canonF l m.strings), m.entries⟩)), [])
  | [], i, out, hd, hi, ho => by
    have := done_of_drop hd
    rw [mCanon_4_eq, if_neg (by simp; omega)]
    have e := keep_mk (f := MFun.F) MFun.F_len out fun c => some (.ret (.agg [.f (.lst l.length (sF l)), .f (.lst gl.length (kF .i64 gl)), .f (.lst out.length c), .f (.lst m.entries.length (kF .i64 m.entries))]), [])
    refine e.trans ?_
    simp
  | f :: rest, i, out, hd, hi, ho => by
    have hlt := lt_of_drop hd
    have hf : f ∈ m.funcs := List.mem_of_mem_drop (by rw [hd]; simp : f ∈ m.funcs.drop i)
    obtain ⟨u1, u2, u3⟩ := used_fun hm hf
    obtain ⟨r1, r2⟩ := hm.rows f hf
    have hfl := hm.funcs
    unfold big at hfl
    rw [mCanon_4_eq, if_pos (decide_eq_true (by omega)), fun_cells hd, str_at u1, mnumber_spec l hl, pI_some, mnumbers_spec l m.strings hl f.locals r1 u2, pL_some, mnumbers_spec l m.strings hl f.sites r2 u3, pL_some, show ((i : Nat) : Int) + 1 = ((i + 1 : Nat) : Int) by omega, wN (by omega)]
    have e := push_mk (f := MFun.F) (es := 5) MFun.F_len out (canonF l m.strings f) 88 (by omega) fun k c => mCanon_4 m.strings.length (sF m.strings) m.globals.length (kF .i64 m.globals) m.funcs.length (funsF m.funcs) m.entries.length (kF .i64 m.entries) l.length (sF l) ((i + 1 : Nat) : Int) l.length (sF l) gl.length (kF .i64 gl) k m.entries.length (kF .i64 m.entries) c
    refine e.trans ?_
    rw [canon4 hm l hl gl rest (i + 1) (out ++ [canonF l m.strings f]) (drop_next hd) (by omega) (by simp; omega)]
    simp
theorem mCanon_core (hm : okCn m) : mCanon_0 m.strings.length (sF m.strings) m.globals.length (kF .i64 m.globals) m.funcs.length (funsF m.funcs) m.entries.length (kF .i64 m.entries) = some (.ret (.agg (modV (canonM m))), []) := by
  have h1 := canon1 hm m.strings 0 [] rfl (by omega) (by simp)
  have hl : (canonS m).length ≤ big := by have := canonL_len (usedR m) m.strings 0 []; have := hm.strings; simp at *; unfold canonS; omega
  rw [mCanon_eq]
  refine h1.trans ?_
  show mCanon_3 _ _ _ _ _ _ _ _ (canonS m).length (sF (canonS m)) = _
  rw [mCanon_3_eq, mnumbers_spec (canonS m) m.strings hl m.globals hm.globals (fun n hn => hm.used n (List.mem_append_left _ hn)), pL_some]
  have h4 := canon4 hm (canonS m) hl (m.globals.map (numI (canonS m) m.strings)) m.funcs 0 [] rfl (by omega) rfl
  exact h4
theorem mCanon_spec (hm : okCn m) (h0 : H) : run w0 15 [.agg (modV m)] h0 = some (.ret (.agg (modV (canonM m))), h0) := by
  rw [mCanon_run, mCanon_core hm, withH_true]
end
end Go.Proofs.Ytjefolfbdohkcaa
/-
  Modules by numbers: all but the statements.
-/
namespace Go.Proofs.Ytjefolfbdohkcaa
open Go Go.Abs
section
variable (g f e : Nat) {A : Nat} {cA : List F}
abbrev gS (i : Nat) : List ByteArray := (List.range' 0 i).map fun i => nameR (i * (1 + g / 4 % 3))
/-! ### functions -/
abbrev tS (j n : Nat) : List ByteArray := (List.range' j n).map fun j => nameR (200 + j)
/-! ### entries -/
end
end Go.Proofs.Ytjefolfbdohkcaa
