/-
  canon.Of.
-/
import Derived.Test.YtjefolfbdohkcaaCanComp
import Derived.Test.YtjefolfbdohkcaaRuleSpec
import Derived.Test.YtjefolfbdohkcaaMakes
set_option autoImplicit false
set_option linter.unusedVariables false
set_option linter.unusedSimpArgs false
namespace Go.Proofs.Ytjefolfbdohkcaa
open Go Go.Abs
/-- a row of strings, or none at all -/
def Row1 (h : H) (v : V) (L : List ByteArray) : Prop := (L = [] ∧ v = .f (.lst 0 [])) ∨ ∃ kA cs, v = .ref kA 0 L.length 1 ∧ h[kA]? = some (.fz cs) ∧ cs.take L.length = sF L
/-- a module that one owns -/
structure Said (h : H) (n : Nat) (v : V) (m : Abs.Mod) : Prop where
  s : Row1 h v m.strings
  g : h[n + 3]? = some (.fz (kF .i64 m.globals))
  e : h[n + 4]? = some (.fz (kF .i64 m.entries))
  f : ∃ o, h[n + 5]? = some o ∧ o.vl = some (rowsV (n + 6) 0 m.funcs)
  o : ObjsAt h (n + 6) m.funcs
def saidV (n : Nat) (v : V) (m : Abs.Mod) : List V := [v, .ref (n + 3) 0 m.globals.length 1, .ref (n + 5) 0 m.funcs.length 5, .ref (n + 4) 0 m.entries.length 1]
def okV : List V := [N .i64 0, N .i64 0, N .i64 0, N .i64 0, N .i64 0, N .i64 (-1), N .i64 (-1)]
def saidM (L : List ByteArray) (num : Int → Int) (m : Abs.Mod) : Abs.Mod := ⟨L, m.globals.map num, m.funcs.map (mapF num), m.entries⟩
theorem each_none {n : Nat} {m : Abs.Mod} (v : V) (h : H) (hg : m.globals = []) (hf : m.funcs = []) : run w0 27 [.agg (refsC n m), v] h = some (.ret (.tup []), h ++ [.cells (refsC n m), .cells [.ref (n + 3) 0 0 1]]) := by
  have c1 : (h ++ [Ob.cells (refsC n m)])[h.length]? = some (.cells (refsC n m)) := get_new _ _
  rw [refsC, canoneach_eq]
  simp only [newO_eq]
  rw [show Ob.cells [V.ref (n + 2) 0 m.strings.length 1, .ref (n + 3) 0 m.globals.length 1, .ref (n + 5) 0 m.funcs.length 5, .ref (n + 4) 0 m.entries.length 1] = .cells (refsC n m) from rfl]
  rw [gL_c c1 rfl]
  simp only [coeSl_ref]
  rw [bs1]
  simp only [lnV_ref]
  rw [canoneach_1_eq, if_pos (by simp), idx_ref u108 s27 (by omega) (by omega), gL_c (get_new _ _) rfl]
  simp only [coeSl_ref, lnV_ref]
  rw [canoneach_2_eq, if_neg (by rw [hg]; simp), show IntKind.wrap .i64 (0 + 1) = 1 from rfl, canoneach_1_eq, if_neg (by simp), gL_c (get_app c1 _) (by rfl)]
  simp only [coeSl_ref, lnV_ref]
  rw [canoneach_3_eq, if_neg (by rw [hf]; simp), hg]
  simp
section
variable {m : Abs.Mod} (hm : okC m) {km kl n B K cnt : Nat} (hn : n = km + 4) (hkl : kl = n + 6 + 2 * m.funcs.length) (hB : kl < B)
include hm hn hkl hB
omit hm hB in
/-- what's behind the numbers: the answer -/
theorem tail_spec {h : H} {v : V} {M : Abs.Mod} {cs : List V} {z7 z9 : List V} (hs : Said h n v M) (hM : M.globals.length = m.globals.length ∧ M.funcs.length = m.funcs.length ∧ M.entries.length = m.entries.length)
    (h1 : h[km]? = some (.cells (refsC n m))) (h7 : h[km + 1]? = some (.cells z7)) (l7 : z7.length = 4) (h9 : h[km + 2]? = some (.cells z9)) (l9 : z9.length = 7) (hv : cellsOf v = some [v]) (hlow : ∀ kA a b c, v = .ref kA a b c → km + 4 ≤ kA) :
    ∃ h', (stV (.ptr km 0) v 1 h fun h1023 => gA Try.prog 30 4 (.ptr km 0) h1023 fun l1024 => stL (.ptr (km + 1) 0) l1024 4 h1023 fun h1025 => stC (.ptr (km + 2) 0) okV h1025 fun h1026 => gA Try.prog 30 4 (.ptr (km + 1) 0) h1026 fun l1027 => gA Try.prog 34 7 (.ptr (km + 2) 0) h1026 fun l1028 => some (.ret (.tup [.agg l1027, .agg l1028]), h1026)) = some (.ret (.tup [.agg (saidV n v M), .agg okV]), h') ∧
      Said h' n v M ∧ h'.length = h.length ∧ ∀ k, k ≠ km → k ≠ km + 1 → k ≠ km + 2 → h'[k]? = h[k]? := by
  have g1 := get_lt h1
  have g7 := get_lt h7
  have g9 := get_lt h9
  refine ⟨((h.set km (.cells (saidV n v M))).set (km + 1) (.cells (saidV n v M))).set (km + 2) (.cells okV), ?_, ?_, by simp, ?_⟩
  rotate_left
  · have look : ∀ k, km + 3 ≤ k → (((h.set km (Ob.cells (saidV n v M))).set (km + 1) (Ob.cells (saidV n v M))).set (km + 2) (Ob.cells okV))[k]? = h[k]? := by
      intro k hk
      rw [List.getElem?_set_ne (by omega), List.getElem?_set_ne (by omega), List.getElem?_set_ne (by omega)]
    refine ⟨?_, by rw [look _ (by omega)]; exact hs.g, by rw [look _ (by omega)]; exact hs.e, ?_, fun j f hj => ?_⟩
    · rcases hs.s with ⟨a, b⟩ | ⟨kA, cs, a, b, c⟩
      · exact .inl ⟨a, b⟩
      · exact .inr ⟨kA, cs, a, by rw [look _ (by have := hlow _ _ _ _ a; omega)]; exact b, c⟩
    · obtain ⟨o, a, b⟩ := hs.f
      exact ⟨o, by rw [look _ (by omega)]; exact a, b⟩
    · obtain ⟨a, b⟩ := hs.o j f hj
      exact ⟨by rw [look _ (by omega)]; exact a, by rw [look _ (by omega)]; exact b⟩
  · intro k q1 q2 q3
    rw [List.getElem?_set_ne (Ne.symm q3), List.getElem?_set_ne (Ne.symm q2), List.getElem?_set_ne (Ne.symm q1)]
  · have e0 : splice (refsC n m) 0 [v] = saidV n v M := by
      simp [refsC, saidV, splice, hM.1, hM.2.1, hM.2.2]
    rw [stV_c (n := 1) hv h1 rfl (by simp [refsC]), e0]
    rw [gA_c (get_set' _ _ g1) (by simp [saidV])]
    rw [show (List.drop 0 (saidV n v M)).take 4 = saidV n v M from rfl]
    rw [stL_c (n := 4) (off := 0) (cs := z7) (l := saidV n v M) (by rw [List.getElem?_set_ne (by omega)]; exact h7) rfl (by omega), splice_all (by simp [saidV, l7])]
    rw [stC_c (off := 0) (cs := z9) (l := okV) (by rw [List.getElem?_set_ne (by omega), List.getElem?_set_ne (by omega)]; exact h9) (by simp [okV, l9]), splice_all (by simp [okV, l9])]
    rw [gA_c (cs := saidV n v M) (by rw [List.getElem?_set_ne (by omega)]; exact get_set' _ _ (by simpa using g7)) (by simp [saidV])]
    rw [gA_c (cs := okV) (get_set' _ _ (by simpa using g9)) (by simp [okV])]
    rfl
/-- from the last string on -/
theorem end_spec {h : H} {acc : List ByteArray} {num : Int → Int} {o : Ob} {z7 z9 : List V} {vK : V} (hacc : acc = (usedR m).map (strM m.strings)) (hal : acc.length ≤ 10000000) (hA : Acc h B kl acc) (hBl : B ≤ h.length)
    (hv : ∀ x ∈ usedR m, Val m.strings (compL (srtB acc)) num x)
    (h1 : h[km]? = some (.cells (refsC n m))) (h7 : h[km + 1]? = some (.cells z7)) (l7 : z7.length = 4) (h9 : h[km + 2]? = some (.cells z9)) (l9 : z9.length = 7)
    (hS : h[n + 2]? = some (.fz (sF m.strings))) (hG : h[n + 3]? = some (.fz (kF .i64 m.globals))) (hE : h[n + 4]? = some (.fz (kF .i64 m.entries))) (hR : h[n + 5]? = some o) (ho : o.vl = some (rowsV (n + 6) 0 m.funcs)) (hO : ObjsAt h (n + 6) m.funcs) :
    ∃ h' v, canonOf_1 km 0 (km + 1) 0 (km + 2) 0 kl 0 vK cnt cnt h = some (.ret (.tup [.agg (saidV n v (saidM (compL (srtB acc)) num m)), .agg okV]), h') ∧ Said h' n v (saidM (compL (srtB acc)) num m) ∧ h.length ≤ h'.length ∧ ∀ k, k < km → h'[k]? = h[k]? := by
  rw [canonOf_1_eq, if_neg (by simp)]
  rcases hA with ⟨rfl, hA⟩ | ⟨kA, hkA, hne, hA, hAr⟩
  · -- nothing is named
    have hu : usedR m = [] := by simpa using hacc.symm
    obtain ⟨hg0, hf0⟩ : m.globals = [] ∧ m.funcs = [] := by
      simp only [usedR, List.append_eq_nil_iff] at hu
      refine ⟨hu.1, ?_⟩
      cases hfs : m.funcs with
      | nil => rfl
      | cons f r => rw [hfs] at hu; simp at hu
    have hkll := get_lt hA
    rw [gLn_nil ag25 hA rfl, sort_nil, kV_some, gLn_nil ag25 hA rfl, compactS_eq]
    simp only [lnV_nil]
    rw [if_pos (by simp), kL_some, coeSl_nil, stV_c (n := 1) (l := [.f (.lst 0 [])]) rfl hA rfl (by simp)]
    rw [show splice [nilS] 0 [V.f (F.lst 0 [])] = [V.f (F.lst 0 [])] from rfl]
    let g1 : H := h.set kl (.cells [.f (.lst 0 [])])
    have k1 : g1[km]? = some (.cells (refsC n m)) := by show (h.set _ _)[_]? = _; rw [List.getElem?_set_ne (by omega)]; exact h1
    rw [show h.set kl (Ob.cells [V.f (F.lst 0 [])]) = g1 from rfl]
    rw [gA_c k1 (by simp [refsC]), show (List.drop 0 (refsC n m)).take 4 = refsC n m from rfl, each_none _ _ hg0 hf0, kV_some]
    let g2 : H := g1 ++ [.cells (refsC n m), .cells [.ref (n + 3) 0 0 1]]
    rw [show g1 ++ [Ob.cells (refsC n m), .cells [.ref (n + 3) 0 0 1]] = g2 from rfl]
    have look : ∀ k, k ≠ kl → k < h.length → g2[k]? = h[k]? := by
      intro k q1 q2
      show (g1 ++ _)[k]? = _
      rw [List.getElem?_append_left (by simp [g1]; omega)]
      show (h.set _ _)[k]? = _
      rw [List.getElem?_set_ne (Ne.symm q1)]
    have kk : g2[kl]? = some (.cells [.f (.lst 0 [])]) := get_app (get_set' _ _ hkll) _
    rw [gL_c kk rfl, coeSl_lst]
    have hM : saidM (compL (srtB [])) num m = ⟨[], [], [], m.entries⟩ := by simp [saidM, hg0, hf0, srtB, compL, sortL]
    obtain ⟨h', p1, p2, p3, p4⟩ := tail_spec hn hkl (h := g2) (v := .f (.lst 0 [])) (M := saidM (compL (srtB [])) num m) (cs := []) (z7 := z7) (z9 := z9)
      (by
        rw [hM]
        refine ⟨.inl ⟨rfl, rfl⟩, ?_, ?_, ⟨o, ?_, by rw [ho, hf0]⟩, fun j f hj => by simp at hj⟩
        · rw [look _ (by omega) (get_lt hG), hG, hg0]
        · rw [look _ (by omega) (get_lt hE), hE]
        · rw [look _ (by omega) (get_lt hR), hR])
      (by simp [saidM]) (by rw [look _ (by omega) (get_lt h1)]; exact h1) (by rw [look _ (by omega) (get_lt h7)]; exact h7) l7 (by rw [look _ (by omega) (get_lt h9)]; exact h9) l9 rfl (fun _ _ _ _ e => by cases e)
    refine ⟨h', _, p1, p2, by rw [p3]; simp [g2, g1], fun k hk => ?_⟩
    rw [p4 k (by omega) (by omega) (by omega), look k (by omega) (by have := get_lt h1; omega)]
  · have hkll := get_lt hA
    have hkAl := get_lt hAr
    have hsl := srtB_len acc
    generalize hL : compL (srtB acc) = L at hv
    let g1 : H := h.set kA (.fz (sF (srtB acc)))
    have a1 : g1[kA]? = some (.fz (sF (srtB acc))) := get_set' _ _ hkAl
    obtain ⟨ys, y1, y2, y3, y4⟩ := compact_spec hal (srtB acc) hsl g1 a1
    rw [hL] at y2 y3 y4
    let g2 : H := g1.set kA (.fz (sF ys))
    let g3 : H := g2.set kl (.cells [.ref kA 0 L.length 1])
    have look3 : ∀ k, k ≠ kA → k ≠ kl → g3[k]? = h[k]? := by
      intro k q1 q2
      show (g2.set _ _)[k]? = _
      rw [List.getElem?_set_ne (Ne.symm q2)]
      show (g1.set _ _)[k]? = _
      rw [List.getElem?_set_ne (Ne.symm q1)]
      show (h.set _ _)[k]? = _
      rw [List.getElem?_set_ne (Ne.symm q1)]
    have len3 : g3.length = h.length := by simp [g3, g2, g1]
    have b1 : g3[kl]? = some (.cells [.ref kA 0 L.length 1]) := get_set' _ _ (by simp [g2, g1]; omega)
    have b2 : g3[kA]? = some (.fz (sF ys)) := by
      show (g2.set _ _)[kA]? = _
      rw [List.getElem?_set_ne (by omega)]
      exact get_set' _ _ (by simp [g1]; omega)
    have b3 : g3[km]? = some (.cells (refsC n m)) := by rw [look3 _ (by omega) (by omega)]; exact h1
    have here : Here g3 kl km kA (n + 2) m.strings L := ⟨b1, ⟨_, b2, by simp only [sF] at y3 ⊢; rw [← List.map_take, y3]⟩, ⟨_, _, _, b3⟩, by rw [look3 _ (by omega) (by omega)]; exact hS⟩
    have hO3 : ObjsAt g3 (n + 6) m.funcs := fun j f hj => by
      obtain ⟨p, q⟩ := hO j f hj
      have hj' : j < m.funcs.length := (List.getElem?_eq_some_iff.1 hj).1
      exact ⟨by rw [look3 _ (by omega) (by omega)]; exact p, by rw [look3 _ (by omega) (by omega)]; exact q⟩
    obtain ⟨o', g4, p1, p2, p3, p4, p5, p6, p7⟩ := each_spec hm (num := num) (by omega) hv here (by rw [look3 _ (by omega) (by omega)]; exact hG) (by rw [look3 _ (by omega) (by omega)]; exact hR) ho hO3 (by omega) (by omega) (by omega)
    have look4 : ∀ k, k < h.length → k ≠ n + 3 → k ≠ n + 5 → ¬ (n + 6 ≤ k ∧ k < n + 6 + 2 * m.funcs.length) → g4[k]? = g3[k]? := fun k q1 q2 q3 q4 => p3 k (by omega) q2 q3 q4
    have c1 : g4[kl]? = some (.cells [.ref kA 0 L.length 1]) := by rw [look4 _ hkll (by omega) (by omega) (by omega)]; exact b1
    obtain ⟨h', t1, t2, t3, t4⟩ := tail_spec hn hkl (h := g4) (v := .ref kA 0 L.length 1) (M := saidM L num m) (cs := []) (z7 := z7) (z9 := z9)
      ⟨.inr ⟨kA, sF ys, rfl, by rw [look4 _ hkAl (by omega) (by omega) (by omega)]; exact b2, by simp only [saidM, sF] at y3 ⊢; rw [← List.map_take, y3]⟩, p4,
        by rw [look4 _ (get_lt hE) (by omega) (by omega) (by omega), look3 _ (by omega) (by omega)]; exact hE, ⟨o', p5, p6⟩, p7⟩
      (by simp [saidM]) (by rw [look4 _ (get_lt h1) (by omega) (by omega) (by omega)]; exact b3) (by rw [look4 _ (get_lt h7) (by omega) (by omega) (by omega), look3 _ (by omega) (by omega)]; exact h7) l7
      (by rw [look4 _ (get_lt h9) (by omega) (by omega) (by omega), look3 _ (by omega) (by omega)]; exact h9) l9 rfl (fun _ _ _ _ e => by cases e; omega)
    refine ⟨h', _, Eq.trans ?_ t1, t2, by omega, fun k hk => ?_⟩
    rotate_left
    · rw [t4 k (by omega) (by omega) (by omega), look4 _ (by have := get_lt h1; omega) (by omega) (by omega) (by omega), look3 _ (by omega) (by omega)]
    rw [gLn_ref hA rfl, sort_ref hAr hne (by omega), kV_some]
    rw [show h.set kA (Ob.fz (sF (srtB acc))) = g1 from rfl]
    have a2 : g1[kl]? = some (.cells [.ref kA 0 acc.length 1]) := by
      show (h.set _ _)[_]? = _
      rw [List.getElem?_set_ne (by omega)]; exact hA
    rw [gLn_ref a2 rfl, y4, kL_some, coeSl_ref]
    rw [show g1.set kA (Ob.fz (sF ys)) = g2 from rfl]
    have a3 : g2[kl]? = some (.cells [.ref kA 0 acc.length 1]) := by
      show (g1.set _ _)[_]? = _
      rw [List.getElem?_set_ne (by omega)]; exact a2
    rw [stV_ref a3 rfl (by simp)]
    rw [show g2.set kl (Ob.cells ([V.ref kA 0 acc.length 1].set 0 (.ref kA 0 L.length 1))) = g3 from rfl]
    rw [gA_c b3 (by simp [refsC]), show (List.drop 0 (refsC n m)).take 4 = refsC n m from rfl, p1, kV_some, gL_c c1 rfl]
    rfl
end
end Go.Proofs.Ytjefolfbdohkcaa
/-
  canon.Of: of any module.
-/
namespace Go.Proofs.Ytjefolfbdohkcaa
open Go Go.Abs
theorem flat_le {α β : Type} (f : α → List β) (b : Nat) : ∀ l : List α, (∀ a ∈ l, (f a).length ≤ b) → (l.flatMap f).length ≤ l.length * b
  | [], _ => by simp
  | a :: r, h => by
    have h1 := h a (by simp)
    have h2 := flat_le f b r fun x hx => h x (by simp [hx])
    rw [List.flatMap_cons, List.length_append, List.length_cons, Nat.succ_mul]
    omega
theorem used_le {m : Abs.Mod} (hm : okC m) : (usedR m).length ≤ 10000000 := by
  obtain ⟨hs, hg, hf, he, hfs⟩ := hm
  have := flat_le usedF 2001 m.funcs fun f hf' => by
    obtain ⟨a, b, c, d⟩ := hfs f hf'
    simp [usedF]; omega
  have e : usedR m = m.globals ++ m.funcs.flatMap usedF := rfl
  rw [e, List.length_append]
  have : m.funcs.length * 2001 ≤ 1000 * 2001 := Nat.mul_le_mul_right _ hf
  omega
/-- a module that is handed in -/
structure ArgM (vs : List V) (m : Abs.Mod) : Prop where
  ex : ∃ v1 v2 v3 v4, vs = [v1, v2, v3, v4] ∧ Arg v1 m.strings.length (sF m.strings) ∧ Arg v2 m.globals.length (kF .i64 m.globals) ∧ Arg v3 m.funcs.length (funsF m.funcs) ∧ Arg v4 m.entries.length (kF .i64 m.entries)
  fz : ∀ (h : H) (K : V → R), frz1K h (.agg vs) K = K (.agg (modV m))
  rp : [V.agg vs].all ripe = true
theorem argM_mod (m : Abs.Mod) : ArgM (modV m) m := ⟨⟨_, _, _, _, rfl, arg_lst _ _, arg_lst _ _, arg_lst _ _, arg_lst _ _⟩, fun h K => rfl, rfl⟩
theorem tree_any {vs : List V} {m : Abs.Mod} (hA : ArgM vs m) (hl : m.funcs.length ≤ big) (ha : argsOk m) (h : H) : run w0 20 [.agg vs] h = some (.ret (.agg (faultV (treeR m))), h) := by
  rw [run_eq]
  have : runF w0.P w0.an w0.po w0.ext (run w0) (runLoop w0) 20 [.agg vs] h = frzArgsK h [.agg vs] fun a => withH ([.agg vs].all ripe) h (pureOf w0 20 Try.f20 a) := by kernel_rfl
  rw [this]
  simp only [frzArgsK]
  rw [hA.fz]
  show withH _ h (ruleTree_0 m.strings.length (sF m.strings) m.globals.length (kF .i64 m.globals) m.funcs.length (funsF m.funcs) m.entries.length (kF .i64 m.entries)) = _
  rw [ruleTree_core m hl ha, hA.rp]
  rfl
/-- no fault: the one way to say it -/
theorem canonOf_fine {vs : List V} {m : Abs.Mod} (hA : ArgM vs m) (hm : okC m) (ha : argsOk m) (ht : treeR m = none) (hu : ∀ x ∈ usedR m, ∃ i : Nat, x = i ∧ i < m.strings.length)
    (hL : compL (srtB ((usedR m).map (strM m.strings))) = canonS m) (hv : ∀ x ∈ usedR m, Val m.strings (canonS m) (numI (canonS m) m.strings) x) (h : H) :
    ∃ h' v, run w0 10 [.agg vs] h = some (.ret (.tup [.agg (saidV (h.length + 4) v (canonM m)), .agg okV]), h') ∧ Said h' (h.length + 4) v (canonM m) ∧ Ext h h' := by
  have hul := used_le hm
  obtain ⟨v1, v2, v3, v4, hvs, a1, a2, a3, a4⟩ := hA.ex
  have hlen : vs.length = 4 := by rw [hvs]; rfl
  have htk : (List.drop 0 vs).take 4 = vs := by rw [hvs]; rfl
  have hm0 := hm
  obtain ⟨hs, hg, hf, he, hfs⟩ := hm0
  -- the heaps
  let zF : List V := [N .i64 0, N .i64 0, N .i64 0, N .i64 0, N .i64 0, N .i64 0, N .i64 0]
  let zM : List V := [nilS, nilS, nilS, nilS]
  let h0 : H := h ++ [.cells vs, .cells zM, .cells zF, .cells okV]
  have l0 : h0.length = h.length + 4 := by simp [h0]
  obtain ⟨o, q1, q2⟩ := copy_spec m hm h0 a1 a2 a3 a4
  rw [← hvs] at q2
  let T : H := [.cells (refsC h0.length m), .cells (refsC h0.length m), .fz (sF m.strings), .fz (kF .i64 m.globals), .fz (kF .i64 m.entries), o] ++ objs m.funcs
  let h1 : H := (h0 ++ T).set h.length (.cells (refsC h0.length m))
  have lT : T.length = 6 + 2 * m.funcs.length := by simp [T, objs_len]; omega
  have l1 : h1.length = h.length + 4 + 6 + 2 * m.funcs.length := by simp [h1, lT, l0]; omega
  let h2 : H := h1 ++ [.cells [nilS]]
  have l2 : h2.length = h.length + 4 + 6 + 2 * m.funcs.length + 1 := by simp [h2, l1]
  have tl : ∀ (j : Nat) (a : Ob), T[j]? = some a → h2[h.length + 4 + j]? = some a := by
    intro j a e
    refine get_app ?_ _
    show ((h0 ++ T).set _ _)[_]? = _
    rw [List.getElem?_set_ne (by omega), show h.length + 4 + j = h0.length + j by omega, get_tail]
    exact e
  have fr : ∀ (j : Nat) (a : Ob), 1 ≤ j → j < 4 → ([.cells vs, .cells zM, .cells zF, .cells okV] : H)[j]? = some a → h2[h.length + j]? = some a := by
    intro j a e1 e2 e
    refine get_app ?_ _
    show ((h0 ++ T).set _ _)[_]? = _
    rw [List.getElem?_set_ne (by omega), List.getElem?_append_left (by omega)]
    show (h ++ _)[_]? = _
    rw [get_tail]; exact e
  have km : h2[h.length]? = some (.cells (refsC (h.length + 4) m)) := by
    refine get_app ?_ _
    show ((h0 ++ T).set _ _)[_]? = _
    rw [get_set' _ _ (by simp [l0]; omega), l0]
  have low : ∀ k, k < h.length → h2[k]? = h[k]? := by
    intro k hk
    show (h1 ++ _)[k]? = _
    rw [List.getElem?_append_left (by omega)]
    show ((h0 ++ T).set _ _)[k]? = _
    rw [List.getElem?_set_ne (by omega), List.getElem?_append_left (by omega)]
    show (h ++ _)[k]? = _
    rw [List.getElem?_append_left hk]
  have hO : ObjsAt h2 (h.length + 4 + 6) m.funcs := by
    have ob : ∀ (fs : List MFun) (j : Nat) (f : MFun), fs[j]? = some f → (objs fs)[2 * j]? = some (.fz (kF .i64 f.locals)) ∧ (objs fs)[2 * j + 1]? = some (.fz (kF .i64 f.sites)) := by
      intro fs
      induction fs with
      | nil => intro j f e; simp at e
      | cons g r ih =>
        intro j f e
        cases j with
        | zero => cases e; exact ⟨rfl, rfl⟩
        | succ j =>
          obtain ⟨a, b⟩ := ih j f (by simpa using e)
          rw [show 2 * (j + 1) = 2 * j + 1 + 1 by omega]
          exact ⟨a, b⟩
    intro j f e
    obtain ⟨a, b⟩ := ob m.funcs j f e
    have c1 := tl (6 + 2 * j) _ (by show (_ ++ _)[_]? = _; rw [List.getElem?_append_right (by simp)]; simpa using a)
    have c2 := tl (6 + 2 * j + 1) _ (by show (_ ++ _)[_]? = _; rw [List.getElem?_append_right (by simp; omega)]; simpa [Nat.add_assoc, Nat.add_sub_cancel_left] using b)
    exact ⟨by rw [show h.length + 4 + 6 + 2 * j = h.length + 4 + (6 + 2 * j) by omega]; exact c1, by rw [show h.length + 4 + 6 + 2 * j + 1 = h.length + 4 + (6 + 2 * j + 1) by omega]; exact c2⟩
  have tS : h2[h.length + 4 + 2]? = some (.fz (sF m.strings)) := tl 2 _ rfl
  have tG : h2[h.length + 4 + 3]? = some (.fz (kF .i64 m.globals)) := tl 3 _ rfl
  have tE : h2[h.length + 4 + 4]? = some (.fz (kF .i64 m.entries)) := tl 4 _ rfl
  have tR : h2[h.length + 4 + 5]? = some o := tl 5 _ rfl
  rw [l0] at q1
  obtain ⟨K, h3, u1, u2, u3, u4⟩ := used_spec h2 m hm (h.length + 4 + 6) (h.length + 4 + 2) (h.length + 4 + 3) (h.length + 4 + 5) (h.length + 4 + 4) (.ref (h.length + 4 + 2) 0 m.strings.length 1) (.ref (h.length + 4 + 4) 0 m.entries.length 1) o tG tR q1 hO
  have hK := get_lt u4
  have l3 := u2.len
  have kl2 : h2[h.length + 4 + 6 + 2 * m.funcs.length]? = some (.cells [nilS]) := by
    have := get_new h1 (.cells [nilS])
    rwa [l1] at this
  obtain ⟨h4, s1, s2, s3, s4⟩ := str_loop (km := h.length) (k7 := h.length + 1) (k9 := h.length + 2) (kl := h.length + 4 + 6 + 2 * m.funcs.length) (K := K) (n := h.length + 4) (B := h3.length) (m := m) hul hu (by omega) hK (by omega) (by omega) (by omega) (by omega) (by omega)
    (usedR m) 0 [] h3 rfl (Nat.zero_le _) rfl (Nat.le_refl _) u4 (u2.get km) (u2.get tS) (.inl ⟨rfl, u2.get kl2⟩)
  have see : ∀ (k : Nat) (a : Ob), k ≠ h.length + 4 + 6 + 2 * m.funcs.length → h2[k]? = some a → h4[k]? = some a := fun k a e1 e2 => by
    have := u2.get e2
    rw [s3 k (get_lt this) e1]; exact this
  have hO4 : ObjsAt h4 (h.length + 4 + 6) m.funcs := fun j f e => by
    obtain ⟨a, b⟩ := hO j f e
    have hj := (List.getElem?_eq_some_iff.1 e).1
    exact ⟨see _ _ (by omega) a, see _ _ (by omega) b⟩
  obtain ⟨h5, v, e1, e2, e3, e4⟩ := end_spec (m := m) hm (km := h.length) (kl := h.length + 4 + 6 + 2 * m.funcs.length) (n := h.length + 4) (B := h3.length) (cnt := (usedR m).length) rfl rfl (by omega) (h := h4) (acc := (usedR m).map (strM m.strings)) (num := numI (canonS m) m.strings) (o := o) (z7 := zM) (z9 := zF) (vK := .ref K 0 (usedR m).length 1)
    rfl (by simpa using hul) (by simpa using s4) s2 (by rw [hL]; exact hv) (see _ _ (by omega) km) (see _ _ (by omega) (fr 1 _ (by omega) (by omega) rfl)) rfl (see _ _ (by omega) (fr 2 _ (by omega) (by omega) rfl)) rfl
    (see _ _ (by omega) tS) (see _ _ (by omega) tG) (see _ _ (by omega) tE) (see _ _ (by omega) tR) q1 hO4
  have hM : saidM (canonS m) (numI (canonS m) m.strings) m = canonM m := rfl
  rw [hL, hM] at e1 e2
  refine ⟨h5, v, Eq.trans ?_ e1, e2, ⟨by omega, fun k hk => ?_⟩⟩
  rotate_left
  · rw [e4 k hk, s3 k (by omega) (by omega), u2.at_ k (by omega), low k hk]
  refine Eq.trans ?_ s1
  rw [hvs, canonOf_eq]
  simp only [newO_eq]
  have eh : ((h ++ [Ob.cells vs]) ++ [Ob.cells zM]) ++ [Ob.cells zF] = h ++ [Ob.cells vs, Ob.cells zM, Ob.cells zF] := by simp
  rw [show Ob.cells [v1, v2, v3, v4] = .cells vs from by rw [hvs], eh]
  have g0 : ∀ (a : Ob) (t : H), (h ++ a :: t)[h.length]? = some a := fun a t => by rw [show h.length = h.length + 0 by omega, get_tail]; rfl
  rw [gA_c (g0 _ _) (by omega), htk, tree_any hA (by unfold big; omega) ha, ht, xA_some]
  simp only [faultV, cI, List.getElem?_cons_zero, List.getElem?_cons_succ, Option.bind_some, V.int?, V.f?, F.int?, if_true, List.length_cons, List.length_nil]
  simp only [List.append_assoc, List.cons_append, List.nil_append, List.length_append, List.length_cons, List.length_nil, Nat.zero_add, newO_eq]
  have gj : ∀ (t : H) (j : Nat) (a : Ob), t[j]? = some a → (h ++ t)[h.length + j]? = some a := fun t j a e => by rw [get_tail]; exact e
  rw [stC_c (off := 0) (gj _ 3 _ rfl) (by simp), set_tail]
  simp only [List.set_cons_succ, List.set_cons_zero]
  rw [gI_c (i := 0) (gj _ 3 _ rfl) rfl, if_neg (by simp)]
  rw [show (h ++ [Ob.cells vs, Ob.cells zM, Ob.cells zF, Ob.cells (splice zF 0 [N .i64 0, N .i64 0, N .i64 0, N .i64 0, N .i64 0, N .i64 (-1), N .i64 (-1)])] : H) = h0 from rfl]
  have g1 : h0[h.length]? = some (.cells vs) := g0 _ _
  rw [gA_c g1 (by omega), htk, q2, kV_some]
  rw [stV_c (n := 4) (l := refsC h0.length m) rfl (get_app g1 _) rfl (by omega), splice_all (by rw [hlen]; rfl)]
  rw [show (h0 ++ ([Ob.cells (refsC h0.length m), Ob.cells (refsC h0.length m), Ob.fz (sF m.strings), Ob.fz (kF .i64 m.globals), Ob.fz (kF .i64 m.entries), o] ++ objs m.funcs)).set h.length (Ob.cells (refsC h0.length m)) = h1 from rfl]
  rw [show h1 ++ [Ob.cells [nilS]] = h2 from rfl, gA_c km (by simp [refsC]), show (List.drop 0 (refsC (h.length + 4) m)).take 4 = refsC (h.length + 4) m from rfl, refsC, u1, kL_some, coeSl_ref]
  simp only [lnV_ref]
  rw [l1]
  rfl
end Go.Proofs.Ytjefolfbdohkcaa
