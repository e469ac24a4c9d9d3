/-
  slices.BinarySearch of strings; the closure of canon.Of; canon.each.
-/
import Derived.Test.YtjefolfbdohkcaaCanCopy
set_option autoImplicit false
set_option linter.unusedVariables false
set_option linter.unusedSimpArgs false
namespace Go.Proofs.Ytjefolfbdohkcaa
open Go Go.Abs
theorem cmpNaN_spec (s : ByteArray) : run w0 73 [S s] [] = some (.ret (B false), []) := by
  rw [cmpIsNaN_run, cmpIsNaN_eq]; simp [withH_true]
theorem cmpLess_spec (a b : ByteArray) : run w0 51 [S a, S b] [] = some (.ret (B (Op.bytesLess a.toList b.toList)), []) := by
  rw [cmpLess_run, cmpLess_eq, cmpNaN_spec, pB_some, if_neg (by simp), withH_true]
/-- where a string stands in a row in order -/
structure Found (l : List ByteArray) (s : ByteArray) (j : Nat) : Prop where
  at_ : l[j]? = some s
  lt : ∀ (a : Nat) (x : ByteArray), a < j → l[a]? = some x → Op.bytesLess x.toList s.toList = true
  ge : ∀ (a : Nat) (x : ByteArray), j ≤ a → l[a]? = some x → Op.bytesLess x.toList s.toList = false
theorem half_eq {i j : Nat} (h : i + j < 9223372036854775808) : IntKind.wrap .i64 (Int.fdiv (IntKind.wrap .u64 (IntKind.wrap .i64 ((i : Int) + (j : Int)))) (2 ^ 1)) = (((i + j) / 2 : Nat) : Int) := by
  have h1 : IntKind.wrap .i64 ((i : Int) + (j : Int)) = ((i + j : Nat) : Int) := by rw [wrap_i64 (by omega) (by omega)]; omega
  rw [h1, wrap_u64]
  have h2 : (((i + j : Nat) : Int) % 18446744073709551616) = ((i + j : Nat) : Int) := by omega
  rw [h2, show ((2 : Int) ^ 1) = ((2 : Nat) : Int) by rfl, fdiv_nat, wrap_i64 (by omega) (by omega)]
theorem bsearch_loop {l : List ByteArray} {s : ByteArray} {p : Nat} (hf : Found l s p) (hl : l.length < 1000000000) : ∀ (k i j : Nat), j - i ≤ k → i ≤ p → p ≤ j → j ≤ l.length →
    bsearchS_1 l.length (sF l) s l.length i j = some (.ret (.tup [N .i64 p, B true]), [])
  | k, i, j, hk, h1, h2, h3 => by
    have hp : p < l.length := (List.getElem?_eq_some_iff.1 hf.at_).1
    by_cases hij : i < j
    · match k, hk with
      | 0, hk => omega
      | k + 1, hk =>
      rw [bsearchS_1_eq, if_pos (by simp; omega), half_eq (by omega)]
      have hm1 : (i + j) / 2 < j := by omega
      have hm0 : i ≤ (i + j) / 2 := by omega
      generalize (i + j) / 2 = q at hm0 hm1
      obtain ⟨x, hx⟩ : ∃ x, l[q]? = some x := ⟨l[q]'(by omega), List.getElem?_eq_getElem (by omega)⟩
      have hd : l.drop q = x :: l.drop (q + 1) := by
        have := drop_get (l := l) (i := q) (by omega)
        rw [this]; congr 1
        rw [List.getElem?_eq_getElem (by omega)] at hx; exact Option.some.inj hx
      rw [elem_sF hd, atS_zero, cmpLess_spec, pB_some]
      by_cases hq : q < p
      · rw [if_pos (hf.lt q x hq hx), wrap_i64 (by omega) (by omega), show ((q : Int) + 1) = ((q + 1 : Nat) : Int) by omega]
        exact bsearch_loop hf hl k (q + 1) j (by omega) (by omega) h2 h3
      · rw [if_neg (by rw [hf.ge q x (by omega) hx]; simp)]
        exact bsearch_loop hf hl k i q (by omega) h1 (by omega) (by omega)
    · have : i = p := by omega
      subst this
      have hd : l.drop i = s :: l.drop (i + 1) := by
        have := drop_get (l := l) (i := i) hp
        rw [this]; congr 1
        have h4 := hf.at_
        rw [List.getElem?_eq_getElem hp] at h4; exact Option.some.inj h4
      rw [bsearchS_1_eq, if_neg (by simp; omega), if_pos (by simp; omega), elem_sF hd, atS_zero, if_neg (by simp)]
theorem bsearch_spec {l : List ByteArray} {s : ByteArray} {p : Nat} (hf : Found l s p) (hl : l.length < 1000000000) : bsearchS_0 l.length (sF l) s = some (.ret (.tup [N .i64 p, B true]), []) := by
  rw [bsearchS_eq]
  have hp : p < l.length := (List.getElem?_eq_some_iff.1 hf.at_).1
  exact bsearch_loop hf hl l.length 0 l.length (by omega) (by omega) (by omega) (Nat.le_refl _)
theorem frz_row {h : H} {k off n : Nat} {cs : List F} (hk : h[k]? = some (.fz cs)) (hn : off + n * 1 ≤ cs.length) (K : V → R) : frz1K h (.ref k off n 1) K = K (.f (.lst n ((cs.drop off).take (n * 1)))) := by
  unfold frz1K
  simp only [hk]
  rw [if_pos hn]
theorem bsearch_call {l : List ByteArray} {s : ByteArray} {p : Nat} (hf : Found l s p) (hl : l.length < 1000000000) {h : H} {kL : Nat} {cs : List F} (hk : h[kL]? = some (.fz cs)) (hc : cs.take l.length = sF l) : run w0 26 [.ref kL 0 l.length 1, S s] h = some (.ret (.tup [N .i64 p, B true]), h) := by
  have hlen : l.length ≤ cs.length := by
    have := congrArg List.length hc
    simp at this; omega
  have e1 : (cs.drop 0).take (l.length * 1) = sF l := by simpa using hc
  have hp : (w0.an 26).pol = .pure := rfl
  rw [run_eq]
  have : runF w0.P w0.an w0.po w0.ext (run w0) (runLoop w0) 26 [.ref kL 0 l.length 1, S s] h = frzArgsK h [.ref kL 0 l.length 1, S s] fun a => withH false h (pureOf w0 26 Try.f26 a) := by kernel_rfl
  rw [this]
  simp only [frzArgsK]
  rw [frz_row hk (by omega), e1]
  have e2 : ∀ K : V → R, frz1K h (S s) K = K (S s) := fun K => rfl
  rw [e2]
  show withH false h (bsearchS_0 l.length (sF l) s) = _
  rw [bsearch_spec hf hl]
  rfl
/-- what a number stands for -/
structure Here (h : H) (kl km kL kS : Nat) (S0 L : List ByteArray) : Prop where
  l : h[kl]? = some (.cells [.ref kL 0 L.length 1])
  ll : ∃ cs, h[kL]? = some (.fz cs) ∧ cs.take L.length = sF L
  m : ∃ a b c, h[km]? = some (.cells [.ref kS 0 S0.length 1, a, b, c])
  ms : h[kS]? = some (.fz (sF S0))
theorem Here.set {h : H} {kl km kL kS k : Nat} {S0 L : List ByteArray} (x : Here h kl km kL kS S0 L) (h1 : k ≠ kl) (h2 : k ≠ km) (h3 : k ≠ kL) (h4 : k ≠ kS) (o : Ob) : Here (h.set k o) kl km kL kS S0 L :=
  ⟨by rw [List.getElem?_set_ne h1]; exact x.l, by obtain ⟨cs, a, b⟩ := x.ll; exact ⟨cs, by rw [List.getElem?_set_ne h3]; exact a, b⟩, by obtain ⟨a, b, c, e⟩ := x.m; exact ⟨a, b, c, by rw [List.getElem?_set_ne h2]; exact e⟩, by rw [List.getElem?_set_ne h4]; exact x.ms⟩
theorem Here.app {h : H} {kl km kL kS : Nat} {S0 L : List ByteArray} (x : Here h kl km kL kS S0 L) (t : H) : Here (h ++ t) kl km kL kS S0 L :=
  ⟨get_app x.l t, by obtain ⟨cs, a, b⟩ := x.ll; exact ⟨cs, get_app a t, b⟩, by obtain ⟨a, b, c, e⟩ := x.m; exact ⟨a, b, c, get_app e t⟩, get_app x.ms t⟩
/-- the closure: a name's number -/
theorem clos_eq {h : H} {kl km kL kS kn on : Nat} {S0 L : List ByteArray} (x : Here h kl km kL kS S0 L) {i : Nat} {s : ByteArray} {p : Nat} (hs : S0[i]? = some s) (hf : Found L s p) (hl : L.length < 1000000000)
    (hn : ∀ K : Int → R, gI .i64 (.ptr kn on) h K = K i) : run w0 25 [.ptr kn on, .ptr kl 0, .ptr km 0] h = stC (.ptr kn on) [N .i64 p] h fun h17 => some (.ret (.tup []), h17) := by
  obtain ⟨cs, a2, a3⟩ := x.ll
  obtain ⟨a, b, c, b1⟩ := x.m
  have b2 := x.ms
  have hi : i < S0.length := (List.getElem?_eq_some_iff.1 hs).1
  rw [canonOf1_eq, gL_c x.l rfl]
  simp only [coeSl_ref, Nat.zero_add]
  rw [gL_c b1 rfl]
  simp only [coeSl_ref]
  rw [hn, idx_ref u25 s9 (by omega) (by omega)]
  simp only [Int.toNat_natCast, Nat.zero_add, Nat.mul_one]
  rw [gS_z b2 (s := s) (by simp [sF, hs])]
  simp only [onFoot_eq]
  refine ite_go (by simp [nocl, show ldFoot Try.prog 9 (.ptr kS i) = .ldc kS i 1 from by kernel_rfl, Foot.clash]) ?_
  rw [bsearch_call hf hl a2 a3, xT_some]
  simp [cI, cB, V.int?, V.bool?, V.f?, F.int?, F.bool?]
end Go.Proofs.Ytjefolfbdohkcaa
/-
  canon.each with canon.Of's closure: each name becomes its number.
-/
namespace Go.Proofs.Ytjefolfbdohkcaa
open Go Go.Abs
/-- a number's string stands where the other number says -/
def Val (S0 L : List ByteArray) (num : Int → Int) (x : Int) : Prop := ∃ (i p : Nat) (s : ByteArray), x = i ∧ S0[i]? = some s ∧ Found L s p ∧ num x = p
abbrev clo (kl km : Nat) : V := .fn 25 [.ptr kl 0, .ptr km 0]
theorem dyn_clo {h h2 : H} {kl km kL kS kn on : Nat} {S0 L : List ByteArray} {num : Int → Int} {x : Int} (e : Here h kl km kL kS S0 L) (hl : L.length < 1000000000) (hv : Val S0 L num x)
    (hn : ∀ K : Int → R, gI .i64 (.ptr kn on) h K = K x) (hst : ∀ K : H → R, stC (.ptr kn on) [N .i64 (num x)] h K = K h2) (K : V → H → R) : dynK w0 (clo kl km) [.ptr kn on] (zr Try.prog 0) h pn K = K (.tup []) h2 := by
  obtain ⟨i, p, s, rfl, h1, h2', h3⟩ := hv
  unfold dynK clo
  simp only [List.cons_append, List.nil_append]
  rw [clos_eq e h1 h2' hl hn, ← h3, hst]
  have hz : zr Try.prog 0 = .tuple #[] := by kernel_rfl
  rw [hz]
  rfl
theorem kF_set (k : IntKind) (a r : List Int) (x y : Int) : (kF k (a ++ x :: r)).set a.length (.s (.int k y)) = kF k (a ++ y :: r) := by
  simp only [kF, List.map_append, List.map_cons]
  rw [List.set_append_right _ _ (by simp)]
  simp
theorem kF_get (k : IntKind) (a r : List Int) (x : Int) : (kF k (a ++ x :: r))[a.length]? = some (.s (.int k x)) := by
  simp only [kF, List.map_append, List.map_cons]
  rw [List.getElem?_append_right (by simp)]
  simp
theorem take_next {α : Type} {l rest : List α} {x : α} {i : Nat} (h : l.drop i = x :: rest) : l.take (i + 1) = l.take i ++ [x] := by
  have hlt := lt_of_drop h
  rw [List.take_succ_eq_append_getElem hlt]
  congr 2
  have := drop_get hlt
  rw [h] at this; exact (List.cons.inj this).1.symm
theorem set_get_self {h : H} {k : Nat} {o : Ob} (e : h[k]? = some o) : h.set k o = h := set_self e
theorem inner {F : Int → H → R} {G : H → R} {kl km kL kS kO : Nat} {S0 L : List ByteArray} {num : Int → Int} (ns : List Int) (hl : L.length < 1000000000) (hns : ns.length ≤ 1000000) (hv : ∀ x ∈ ns, Val S0 L num x) (h1 : kO ≠ kl) (h2 : kO ≠ km) (h3 : kO ≠ kL) (h4 : kO ≠ kS)
    (hF : ∀ (n : Int) (h : H), F n h = if (decide (n < (ns.length : Int))) = true then idx Try.prog 27 (.ref kO 0 ns.length 1) n fun v => dynK w0 (clo kl km) [v] (zr Try.prog 0) h pn fun _ h' => F (IntKind.wrap .i64 (n + 1)) h' else G h) :
    ∀ (rest : List Int) (i : Nat) (h : H), ns.drop i = rest → i ≤ ns.length → Here h kl km kL kS S0 L → h[kO]? = some (.fz (kF .i64 ((ns.take i).map num ++ rest))) → F i h = G (h.set kO (.fz (kF .i64 (ns.map num))))
  | [], i, h, hd, hi, e, hk => by
    have := done_of_drop hd
    rw [hF, if_neg (by simp; omega)]
    rw [List.append_nil, List.take_of_length_le this] at hk
    rw [set_get_self hk]
  | x :: rest, i, h, hd, hi, e, hk => by
    have hlt := lt_of_drop hd
    have hx := hv x (List.mem_of_mem_drop (by rw [hd]; simp))
    have hti : ((ns.take i).map num).length = i := by simp; omega
    have hkl := get_lt hk
    rw [hF, if_pos (by simp; omega), idx_ref u27 s3 (by omega) (by omega)]
    simp only [Int.toNat_natCast, Nat.zero_add, Nat.mul_one]
    rw [dyn_clo e hl hx (h2 := h.set kO (.fz (kF .i64 ((ns.take (i + 1)).map num ++ rest)))) (fun K => gI_z hk (by have := kF_get .i64 ((ns.take i).map num) rest x; rwa [hti] at this) K) (fun K => ?_)]
    · rw [wrap_i64 (by omega) (by omega), show ((i : Int) + 1) = ((i + 1 : Nat) : Int) by omega]
      rw [inner ns hl hns hv h1 h2 h3 h4 hF rest (i + 1) _ (drop_next hd) (by omega) (e.set h1 h2 h3 h4 _) (by rw [List.getElem?_set_self hkl]), List.set_set]
    · rw [stC_z hk rfl (by simp; omega)]
      have := kF_set .i64 ((ns.take i).map num) rest x (num x)
      rw [hti] at this
      rw [this, take_next hd, List.map_append, List.append_assoc]
      rfl
def mapF (num : Int → Int) (f : MFun) : MFun := ⟨num f.name, f.params, f.locals.map num, f.sites.map num, f.body⟩
theorem rowV_map (num : Int → Int) (n j : Nat) (f : MFun) : rowV n j (mapF num f) = rowV n j { f with name := num f.name } := by simp [rowV, mapF]
theorem rows_name (n : Nat) (a r : List MFun) (f : MFun) (x : Int) : (rowsV n 0 (a ++ f :: r)).set (a.length * 5) (N .i64 x) = rowsV n 0 (a ++ { f with name := x } :: r) := by
  rw [rowsV_append, rowsV_append, List.set_append_right _ _ (by rw [rowsV_len]; omega), rowsV_len, Nat.sub_self]
  rfl
theorem rows_mapF (num : Int → Int) (n : Nat) (a r : List MFun) (f : MFun) : rowsV n 0 (a ++ { f with name := num f.name } :: r) = rowsV n 0 (a ++ mapF num f :: r) := by
  rw [rowsV_append, rowsV_append]
  simp only [rowsV, rowV_map]
theorem rows_at (n : Nat) (a r : List MFun) (f : MFun) (j : Nat) (hj : j < 5) : (rowsV n 0 (a ++ f :: r))[a.length * 5 + j]? = (rowV n a.length f)[j]? := by
  rw [rowsV_append, List.getElem?_append_right (by rw [rowsV_len]; omega), rowsV_len, Nat.zero_add, show a.length * 5 + j - a.length * 5 = j by omega, rowsV, List.getElem?_append_left (by rw [rowV_len]; omega)]
theorem bs2 (a b c d a' b' c' d' : Nat) (h : H) (K : V → H → R) : buildSlice Try.prog 108 2 [(0, .ref a b c d), (1, .ref a' b' c' d')] true h K = K (.ref h.length 0 2 1) (h ++ [.cells [.ref a b c d, .ref a' b' c' d']]) := by kernel_rfl
theorem bs1 (a b c d : Nat) (h : H) (K : V → H → R) : buildSlice Try.prog 108 1 [(0, .ref a b c d)] true h K = K (.ref h.length 0 1 1) (h ++ [.cells [.ref a b c d]]) := by kernel_rfl
theorem u108 : Try.prog.underlying 108 = some (.slice 27) := by kernel_rfl
theorem s27 : szOf Try.prog 27 = some 1 := by kernel_rfl
/-- what isn't a function's stays -/
structure Keep (kR b n : Nat) (h h' : H) : Prop where
  len : h.length ≤ h'.length
  at_ : ∀ k, k < h.length → k ≠ kR → ¬ (b ≤ k ∧ k < b + 2 * n) → h'[k]? = h[k]?
theorem Keep.refl (kR b n : Nat) (h : H) : Keep kR b n h h := ⟨Nat.le_refl _, fun _ _ _ _ => rfl⟩
theorem Keep.trans {kR b n : Nat} {x y z : H} (p : Keep kR b n x y) (q : Keep kR b n y z) : Keep kR b n x z := ⟨Nat.le_trans p.len q.len, fun k h1 h2 h3 => (q.at_ k (Nat.lt_of_lt_of_le h1 p.len) h2 h3).trans (p.at_ k h1 h2 h3)⟩
theorem Keep.app {kR b n : Nat} {x y : H} (p : Keep kR b n x y) (t : H) : Keep kR b n x (y ++ t) := ⟨by have := p.len; simp; omega, fun k h1 h2 h3 => by rw [List.getElem?_append_left (Nat.lt_of_lt_of_le h1 p.len)]; exact p.at_ k h1 h2 h3⟩
theorem Keep.setR {kR b n : Nat} {x y : H} (p : Keep kR b n x y) (o : Ob) : Keep kR b n x (y.set kR o) := ⟨by simpa using p.len, fun k h1 h2 h3 => by rw [List.getElem?_set_ne (Ne.symm h2)]; exact p.at_ k h1 h2 h3⟩
theorem Keep.setO {kR b n k0 : Nat} {x y : H} (p : Keep kR b n x y) (h0 : b ≤ k0 ∧ k0 < b + 2 * n) (o : Ob) : Keep kR b n x (y.set k0 o) := ⟨by simpa using p.len, fun k h1 h2 h3 => by rw [List.getElem?_set_ne (fun e => h3 (by omega))]; exact p.at_ k h1 h2 h3⟩
theorem Keep.get {kR b n : Nat} {x y : H} (p : Keep kR b n x y) {k : Nat} {o : Ob} (e : x[k]? = some o) (h2 : k ≠ kR) (h3 : ¬ (b ≤ k ∧ k < b + 2 * n)) : y[k]? = some o := by rw [p.at_ k (get_lt e) h2 h3, e]
section
variable {kl km kL kS kR b kB : Nat} {S0 L : List ByteArray} {num : Int → Int} (hl : L.length < 1000000000) (fs : List MFun) (hfs : fs.length ≤ 1000)
  (hbd : ∀ f ∈ fs, f.locals.length ≤ 1000 ∧ f.sites.length ≤ 1000) (hv : ∀ f ∈ fs, ∀ x ∈ usedF f, Val S0 L num x)
  (a1 : km < kR) (a2 : kS < kR) (a3 : kR < b) (a4 : b + 2 * fs.length ≤ kl) (a5 : b + 2 * fs.length ≤ kL) (a6 : b + 2 * fs.length ≤ kB)
include hl hfs hbd hv a1 a2 a3 a4 a5 a6
theorem efuns_loop : ∀ (rest : List MFun) (i : Nat) (h : H), fs.drop i = rest → i ≤ fs.length → Here h kl km kL kS S0 L → (∃ x y z, h[kB]? = some (.cells [x, y, .ref kR 0 fs.length 5, z])) →
    (rest ≠ [] → h[kR]? = some (.cells (rowsV b 0 ((fs.take i).map (mapF num) ++ rest)))) → ObjsAt h b ((fs.take i).map (mapF num) ++ rest) →
    ∃ h', canoneach_3 (clo kl km) kB 0 fs.length i h = some (.ret (.tup []), h') ∧ Keep kR b fs.length h h' ∧ (rest ≠ [] → h'[kR]? = some (.cells (rowsV b 0 (fs.map (mapF num))))) ∧ ObjsAt h' b (fs.map (mapF num))
  | [], i, h, hd, hi, e, hB, hR, hO => by
    have := done_of_drop hd
    refine ⟨h, ?_, Keep.refl _ _ _ _, fun q => absurd rfl q, by rwa [List.append_nil, List.take_of_length_le this] at hO⟩
    rw [canoneach_3_eq, if_neg (by simp; omega)]
  | f :: rest, i, h, hd, hi, e, hB, hR, hO => by
    have hlt := lt_of_drop hd
    have hmem : f ∈ fs := List.mem_of_mem_drop (by rw [hd]; simp)
    obtain ⟨b1, b2⟩ := hbd f hmem
    have hval := hv f hmem
    obtain ⟨bx, by_, bz, hB⟩ := hB
    have hti : ((fs.take i).map (mapF num)).length = i := by simp; omega
    generalize hA : (fs.take i).map (mapF num) = A at hti hR hO
    have hR := hR (by simp)
    have hRl := get_lt hR
    have hBl := get_lt hB
    obtain ⟨o1, o2⟩ := hO i f (by rw [List.getElem?_append_right (by omega), hti]; simp)
    -- the heaps
    let f1 : MFun := { f with name := num f.name }
    let h1 : H := h.set kR (.cells (rowsV b 0 (A ++ f1 :: rest)))
    let h2 : H := h1 ++ [.cells [.ref (b + 2 * i) 0 f.locals.length 1, .ref (b + 2 * i + 1) 0 f.sites.length 1]]
    let h3 : H := h2.set (b + 2 * i) (.fz (kF .i64 (f.locals.map num)))
    let h4 : H := h3.set (b + 2 * i + 1) (.fz (kF .i64 (f.sites.map num)))
    have l1 : h1.length = h.length := by simp [h1]
    have l2 : h2.length = h.length + 1 := by simp [h2, l1]
    have l3 : h3.length = h.length + 1 := by simp [h3, l2]
    have hO1 := get_lt o1
    have hO2 := get_lt o2
    have k1 : Keep kR b fs.length h h1 := (Keep.refl _ _ _ h).setR _
    have k2 : Keep kR b fs.length h h2 := k1.app _
    have k3 : Keep kR b fs.length h h3 := k2.setO ⟨by omega, by omega⟩ _
    have k4 : Keep kR b fs.length h h4 := k3.setO ⟨by omega, by omega⟩ _
    have e1 : Here h1 kl km kL kS S0 L := e.set (by omega) (by omega) (by omega) (by omega) _
    have e2 : Here h2 kl km kL kS S0 L := e1.app _
    have e3 : Here h3 kl km kL kS S0 L := e2.set (by omega) (by omega) (by omega) (by omega) _
    have e4 : Here h4 kl km kL kS S0 L := e3.set (by omega) (by omega) (by omega) (by omega) _
    have r1 : h1[kR]? = some (.cells (rowsV b 0 (A ++ f1 :: rest))) := by simp [h1, hRl]
    have hA1 : (fs.take (i + 1)).map (mapF num) = A ++ [mapF num f] := by rw [take_next hd, List.map_append, hA]; rfl
    have rr : rowsV b 0 (A ++ f1 :: rest) = rowsV b 0 ((fs.take (i + 1)).map (mapF num) ++ rest) := by
      rw [hA1, List.append_assoc]; exact rows_mapF num b A rest f
    have r4 : h4[kR]? = some (.cells (rowsV b 0 ((fs.take (i + 1)).map (mapF num) ++ rest))) := by
      rw [← rr]
      show ((h2.set _ _).set _ _)[kR]? = _
      rw [List.getElem?_set_ne (by omega), List.getElem?_set_ne (by omega)]
      exact get_app r1 _
    have hO4 : ObjsAt h4 b ((fs.take (i + 1)).map (mapF num) ++ rest) := by
      intro j g hg
      rw [hA1, List.append_assoc] at hg
      by_cases hj : j = i
      · subst hj
        rw [List.getElem?_append_right (by omega), hti] at hg
        simp at hg
        subst hg
        refine ⟨?_, ?_⟩
        · show ((h2.set _ _).set _ _)[b + 2 * j]? = _
          rw [List.getElem?_set_ne (by omega), List.getElem?_set_self (by omega)]; rfl
        · show ((h2.set _ _).set _ _)[b + 2 * j + 1]? = _
          rw [List.getElem?_set_self (by simp; omega)]; rfl
      · have hg' : (A ++ f :: rest)[j]? = some g := by
          rcases Nat.lt_or_ge j i with hji | hji
          · rw [List.getElem?_append_left (by omega)] at hg ⊢; exact hg
          · rw [List.getElem?_append_right (by omega), hti] at hg ⊢
            obtain ⟨q, hq⟩ : ∃ q, j - i = q + 1 := ⟨j - i - 1, by omega⟩
            rw [hq] at hg ⊢; simpa using hg
        obtain ⟨g1, g2⟩ := hO j g hg'
        have t1 := get_lt g1
        have t2 := get_lt g2
        have look : ∀ k, k < h.length → k ≠ kR → k ≠ b + 2 * i → k ≠ b + 2 * i + 1 → h4[k]? = h[k]? := by
          intro k p1 p2 p3 p4
          show ((h2.set _ _).set _ _)[k]? = _
          rw [List.getElem?_set_ne (Ne.symm p4), List.getElem?_set_ne (Ne.symm p3)]
          show (h1 ++ _)[k]? = _
          rw [List.getElem?_append_left (by omega)]
          show (h.set _ _)[k]? = _
          rw [List.getElem?_set_ne (Ne.symm p2)]
        exact ⟨by rw [look _ t1 (by omega) (by omega) (by omega)]; exact g1, by rw [look _ t2 (by omega) (by omega) (by omega)]; exact g2⟩
    obtain ⟨h', p1, p2, p3, p4⟩ := efuns_loop rest (i + 1) h4 (drop_next hd) (by omega) e4 ⟨bx, by_, bz, k4.get hB (by omega) (by omega)⟩ (fun _ => r4) hO4
    refine ⟨h', Eq.trans ?_ p1, k4.trans p2, fun _ => ?_, p4⟩
    rotate_left
    · cases rest with
      | nil =>
        have hall : i + 1 = fs.length := by have := done_of_drop (drop_next hd); omega
        have : h'[kR]? = h4[kR]? := by
          have : canoneach_3 (clo kl km) kB 0 fs.length ((i + 1 : Nat) : Int) h4 = some (.ret (.tup []), h4) := by rw [canoneach_3_eq, if_neg (by simp; omega)]
          have e := this.symm.trans p1
          have e2 := (Prod.mk.inj (Option.some.inj e)).2
          rw [← e2]
        rw [this, r4, List.append_nil, List.take_of_length_le (by omega)]
      | cons g rest => exact p3 (by simp)
    -- the steps
    have hname : (rowsV b 0 (A ++ f :: rest))[i * 5 + 0]? = some (N .i64 f.name) := by have := rows_at b A rest f 0 (by omega); rw [hti] at this; rw [this]; rfl
    rw [canoneach_3_eq, if_pos (by simp; omega), gL_c hB rfl]
    simp only [List.getElem?_cons_succ, List.getElem?_cons_zero, coeSl_ref, Nat.zero_add]
    rw [idx_ref u28 s42 (by omega) (by omega)]
    simp only [nilK_ptr, addP_ptr, Option.bind_some, Int.toNat_natCast, Nat.zero_add]
    rw [dyn_clo e hl (hval f.name (by simp [usedF])) (h2 := h1) (fun K => gI_c hR hname K) (fun K => ?_)]
    rotate_left
    · rw [stC_one (o := .dead) hR (by rw [rowsV_len]; simp; omega)]
      have := rows_name b A rest f (num f.name)
      rw [hti] at this
      rw [Nat.add_zero, this]
    have q2 : (rowsV b 0 (A ++ f1 :: rest))[i * 5 + 2]? = some (.ref (b + 2 * i) 0 f.locals.length 1) := by have := rows_at b A rest f1 2 (by omega); rw [hti] at this; rw [this]; rfl
    have q3 : (rowsV b 0 (A ++ f1 :: rest))[i * 5 + 3]? = some (.ref (b + 2 * i + 1) 0 f.sites.length 1) := by have := rows_at b A rest f1 3 (by omega); rw [hti] at this; rw [this]; rfl
    rw [gL_c r1 q2]
    simp only [coeSl_ref, onFoot_eq]
    rw [gL_c r1 q3]
    simp only [coeSl_ref, onFoot_eq, ldF27]
    refine ite_go (by simp [nocl, Foot.clash]) ?_
    rw [bs2]
    simp only [lnV_ref, onFoot_eq]
    rw [show h1 ++ [Ob.cells [V.ref (b + 2 * i) 0 f.locals.length 1, .ref (b + 2 * i + 1) 0 f.sites.length 1]] = h2 from rfl]
    have c2 : h2[h1.length]? = some (.cells [.ref (b + 2 * i) 0 f.locals.length 1, .ref (b + 2 * i + 1) 0 f.sites.length 1]) := get_new _ _
    -- locals
    rw [canoneach_4_eq, if_pos (by simp), idx_ref u108 s27 (by omega) (by omega)]
    rw [gL_c c2 rfl]
    simp only [coeSl_ref, lnV_ref]
    have o1' : h2[b + 2 * i]? = some (.fz (kF .i64 f.locals)) := by
      show (h1 ++ _)[_]? = _
      refine get_app ?_ _
      show (h.set _ _)[_]? = _
      rw [List.getElem?_set_ne (by omega)]; exact o1
    have i1 := inner (F := fun n h => canoneach_5 (clo kl km) kB 0 (.ref (b + 2 * i) 0 f.locals.length 1) fs.length i (.ref h1.length 0 2 1) ((2 : Nat) : Int) 0 f.locals.length n h) (G := fun h => canoneach_4 (clo kl km) kB 0 fs.length i (.ref h1.length 0 2 1) ((2 : Nat) : Int) (IntKind.wrap .i64 (0 + 1)) h)
      (kO := b + 2 * i) (kl := kl) (km := km) (kL := kL) (kS := kS) f.locals hl (by omega) (fun x hx => hval x (by simp [usedF, hx])) (by omega) (by omega) (by omega) (by omega) (fun n h => canoneach_5_eq ..) f.locals 0 h2 rfl (Nat.zero_le _) e2 o1'
    refine Eq.trans i1 ?_
    rw [show h2.set (b + 2 * i) (Ob.fz (kF .i64 (f.locals.map num))) = h3 from rfl, show IntKind.wrap .i64 (0 + 1) = 1 from rfl]
    -- sites
    have c3 : h3[h1.length]? = some (.cells [.ref (b + 2 * i) 0 f.locals.length 1, .ref (b + 2 * i + 1) 0 f.sites.length 1]) := by
      show (h2.set _ _)[_]? = _
      rw [List.getElem?_set_ne (by omega)]; exact c2
    rw [canoneach_4_eq, if_pos (by simp), idx_ref u108 s27 (by omega) (by omega)]
    rw [gL_c c3 rfl]
    simp only [coeSl_ref, lnV_ref]
    have o2' : h3[b + 2 * i + 1]? = some (.fz (kF .i64 f.sites)) := by
      show (h2.set _ _)[_]? = _
      rw [List.getElem?_set_ne (by omega)]
      show (h1 ++ _)[_]? = _
      refine get_app ?_ _
      show (h.set _ _)[_]? = _
      rw [List.getElem?_set_ne (by omega)]; exact o2
    have i2 := inner (F := fun n h => canoneach_5 (clo kl km) kB 0 (.ref (b + 2 * i + 1) 0 f.sites.length 1) fs.length i (.ref h1.length 0 2 1) ((2 : Nat) : Int) 1 f.sites.length n h) (G := fun h => canoneach_4 (clo kl km) kB 0 fs.length i (.ref h1.length 0 2 1) ((2 : Nat) : Int) (IntKind.wrap .i64 (1 + 1)) h)
      (kO := b + 2 * i + 1) (kl := kl) (km := km) (kL := kL) (kS := kS) f.sites hl (by omega) (fun x hx => hval x (by simp [usedF, hx])) (by omega) (by omega) (by omega) (by omega) (fun n h => canoneach_5_eq ..) f.sites 0 h3 rfl (Nat.zero_le _) e3 o2'
    refine Eq.trans i2 ?_
    rw [show h3.set (b + 2 * i + 1) (Ob.fz (kF .i64 (f.sites.map num))) = h4 from rfl, show IntKind.wrap .i64 (1 + 1) = 2 from rfl]
    rw [canoneach_4_eq, if_neg (by simp), wrap_i64 (by omega) (by omega), show ((i : Int) + 1) = ((i + 1 : Nat) : Int) by omega]
end
end Go.Proofs.Ytjefolfbdohkcaa
/-
  canon.each of a copy.
-/
namespace Go.Proofs.Ytjefolfbdohkcaa
open Go Go.Abs
def mapM (num : Int → Int) (m : Abs.Mod) : Abs.Mod := ⟨m.strings, m.globals.map num, m.funcs.map (mapF num), m.entries⟩
theorem usedR_mem {m : Abs.Mod} {f : MFun} (hf : f ∈ m.funcs) {x : Int} (hx : x ∈ usedF f) : x ∈ usedR m := List.mem_append_right _ (List.mem_flatMap.2 ⟨f, hf, hx⟩)
theorem each_spec {h : H} {kl km kL n : Nat} {m : Abs.Mod} (hm : okC m) {L : List ByteArray} {num : Int → Int} {o : Ob} (hl : L.length < 1000000000) (hv : ∀ x ∈ usedR m, Val m.strings L num x)
    (e : Here h kl km kL (n + 2) m.strings L) (hG : h[n + 3]? = some (.fz (kF .i64 m.globals))) (hR : h[n + 5]? = some o) (ho : o.vl = some (rowsV (n + 6) 0 m.funcs)) (hO : ObjsAt h (n + 6) m.funcs)
    (a1 : km < n) (a2 : n + 6 + 2 * m.funcs.length ≤ kl) (a3 : n + 6 + 2 * m.funcs.length ≤ kL) :
    ∃ o' h', run w0 27 [.agg (refsC n m), clo kl km] h = some (.ret (.tup []), h') ∧ h.length ≤ h'.length ∧ (∀ k, k < h.length → k ≠ n + 3 → k ≠ n + 5 → ¬ (n + 6 ≤ k ∧ k < n + 6 + 2 * m.funcs.length) → h'[k]? = h[k]?) ∧
      h'[n + 3]? = some (.fz (kF .i64 (m.globals.map num))) ∧ h'[n + 5]? = some o' ∧ o'.vl = some (rowsV (n + 6) 0 (m.funcs.map (mapF num))) ∧ ObjsAt h' (n + 6) (m.funcs.map (mapF num)) := by
  obtain ⟨hs, hg, hf, he, hfs⟩ := hm
  let h1 : H := h ++ [.cells (refsC n m)]
  let h2 : H := h1 ++ [.cells [.ref (n + 3) 0 m.globals.length 1]]
  let h3 : H := h2.set (n + 3) (.fz (kF .i64 (m.globals.map num)))
  have hGl := get_lt hG
  have hRl := get_lt hR
  have l1 : h1.length = h.length + 1 := by simp [h1]
  have l2 : h2.length = h.length + 2 := by simp [h2, l1]
  have l3 : h3.length = h.length + 2 := by simp [h3, l2]
  have e2 : Here h2 kl km kL (n + 2) m.strings L := (e.app _).app _
  have e3 : Here h3 kl km kL (n + 2) m.strings L := e2.set (by omega) (by omega) (by omega) (by omega) _
  have c1 : h1[h.length]? = some (.cells (refsC n m)) := get_new _ _
  have c2 : h2[h1.length]? = some (.cells [.ref (n + 3) 0 m.globals.length 1]) := get_new _ _
  have look : ∀ k, k < h.length → k ≠ n + 3 → h3[k]? = h[k]? := by
    intro k p1 p2
    show (h2.set _ _)[k]? = _
    rw [List.getElem?_set_ne (Ne.symm p2)]
    show (h1 ++ _)[k]? = _
    rw [List.getElem?_append_left (by omega)]
    show (h ++ _)[k]? = _
    rw [List.getElem?_append_left p1]
  have cB : h3[h.length]? = some (.cells (refsC n m)) := by
    show (h2.set _ _)[_]? = _
    rw [List.getElem?_set_ne (by omega)]
    exact get_app c1 _
  have cG : h3[n + 3]? = some (.fz (kF .i64 (m.globals.map num))) := by
    show (h2.set _ _)[_]? = _
    rw [List.getElem?_set_self (by omega)]
  have hR3 : h3[n + 5]? = some o := by rw [look _ hRl (by omega)]; exact hR
  have hO3 : ObjsAt h3 (n + 6) m.funcs := fun j f hj => by
    obtain ⟨p, q⟩ := hO j f hj
    exact ⟨by rw [look _ (get_lt p) (by omega)]; exact p, by rw [look _ (get_lt q) (by omega)]; exact q⟩
  have main : ∃ o' h', canoneach_3 (clo kl km) h.length 0 m.funcs.length 0 h3 = some (.ret (.tup []), h') ∧ Keep (n + 5) (n + 6) m.funcs.length h3 h' ∧ h'[n + 5]? = some o' ∧ o'.vl = some (rowsV (n + 6) 0 (m.funcs.map (mapF num))) ∧ ObjsAt h' (n + 6) (m.funcs.map (mapF num)) := by
    rcases Classical.em (m.funcs = []) with h0 | h0
    · rw [h0]
      refine ⟨o, h3, ?_, Keep.refl _ _ _ _, hR3, by rw [ho, h0]; rfl, fun j f hj => by simp at hj⟩
      rw [canoneach_3_eq, if_neg (by simp)]
    · obtain ⟨f, r, hd⟩ := List.exists_cons_of_ne_nil h0
      have hoc := rows_cells (i := 0) ho (by rw [List.drop_zero]; exact hd)
      subst hoc
      obtain ⟨h', p1, p2, p3, p4⟩ := efuns_loop (kl := kl) (km := km) (kL := kL) (kS := n + 2) (kR := n + 5) (b := n + 6) (kB := h.length) (S0 := m.strings) (L := L) (num := num) hl m.funcs hf (fun f hf' => ⟨(hfs f hf').1, (hfs f hf').2.1⟩) (fun f hf' x hx => hv x (usedR_mem hf' hx)) (by omega) (by omega) (by omega) a2 a3
        (by
          have hlast : m.funcs.length - 1 < m.funcs.length := by rw [hd]; simp
          obtain ⟨_, q⟩ := hO (m.funcs.length - 1) m.funcs[m.funcs.length - 1] (List.getElem?_eq_getElem hlast)
          have := get_lt q
          omega)
        m.funcs 0 h3 rfl (Nat.zero_le _) e3 ⟨_, _, _, cB⟩ (fun _ => hR3) hO3
      exact ⟨_, h', p1, p2, p3 h0, rfl, p4⟩
  obtain ⟨o', h', p1, p2, p3, p4, p5⟩ := main
  have len' := p2.len
  refine ⟨o', h', Eq.trans ?_ p1, by omega, fun k q1 q2 q3 q4 => ?_, ?_, p3, p4, p5⟩
  rotate_left
  · rw [p2.at_ k (by omega) q3 q4, look k q1 q2]
  · exact p2.get cG (by omega) (by omega)
  rw [refsC, canoneach_eq]
  simp only [newO_eq]
  rw [show h ++ [Ob.cells [V.ref (n + 2) 0 m.strings.length 1, .ref (n + 3) 0 m.globals.length 1, .ref (n + 5) 0 m.funcs.length 5, .ref (n + 4) 0 m.entries.length 1]] = h1 from rfl]
  rw [gL_c c1 rfl]
  simp only [coeSl_ref]
  rw [bs1]
  simp only [lnV_ref]
  rw [show h1 ++ [Ob.cells [V.ref (n + 3) 0 m.globals.length 1]] = h2 from rfl]
  rw [canoneach_1_eq, if_pos (by simp), idx_ref u108 s27 (by omega) (by omega), gL_c c2 rfl]
  simp only [coeSl_ref, lnV_ref]
  have i1 := inner (F := fun n' h' => canoneach_2 (clo kl km) h.length 0 (.ref (n + 3) 0 m.globals.length 1) (.ref h1.length 0 1 1) ((1 : Nat) : Int) 0 m.globals.length n' h') (G := fun h' => canoneach_1 (clo kl km) h.length 0 (.ref h1.length 0 1 1) ((1 : Nat) : Int) (IntKind.wrap .i64 (0 + 1)) h')
    (kO := n + 3) (kl := kl) (km := km) (kL := kL) (kS := n + 2) m.globals hl (by omega) (fun x hx => hv x (List.mem_append_left _ hx)) (by omega) (by omega) (by omega) (by omega) (fun n' h' => canoneach_2_eq ..) m.globals 0 h2 rfl (Nat.zero_le _) e2 (get_app (get_app hG _) _)
  refine Eq.trans i1 ?_
  rw [show h2.set (n + 3) (Ob.fz (kF .i64 (m.globals.map num))) = h3 from rfl, show IntKind.wrap .i64 (0 + 1) = 1 from rfl]
  rw [canoneach_1_eq, if_neg (by simp), gL_c cB (by rfl)]
  simp only [coeSl_ref, lnV_ref]
end Go.Proofs.Ytjefolfbdohkcaa
