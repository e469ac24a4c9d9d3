/-
  canon.Table: the law.
-/
import Derived.Test.YtjefolfbdohkcaaCanTab
import Derived.Test.YtjefolfbdohkcaaCanSame
import Derived.Test.YtjefolfbdohkcaaCanSort
import Derived.Test.YtjefolfbdohkcaaAbsRowS
set_option autoImplicit false
set_option linter.unusedVariables false
set_option linter.unusedSimpArgs false
namespace Go.Proofs.Ytjefolfbdohkcaa
open Go Go.Abs
def wantV (W n : Nat) : V := if n = 0 then nilS else .ref W 0 n 1
theorem wrap1 {i : Int} (h0 : 0 ≤ i) (h1 : i ≤ 1000000000) : IntKind.wrap .i64 (i + 1) = i + 1 := by
  rw [wrap_i64] <;> omega
theorem ldF_fp (l : List F) : ldFoot Try.prog 9 (.f (.fp l)) = .rd [] := by kernel_rfl
theorem gS_fp {s : ByteArray} {l : List F} (h : H) (h1 : l[0]? = some (.s (.string s))) (K : ByteArray → R) : Abs.gS (.f (.fp l)) h K = K s := by
  simp [Abs.gS, h1, F.str?]
theorem fp_at {l : List ByteArray} {i : Nat} {s : ByteArray} (h : l[i]? = some s) : ((sF l).drop ((i : Int).toNat * 1))[0]? = some (.s (.string s)) := by
  rw [List.getElem?_drop]; simpa using sF_at h
/-- where a string was last met -/
def atI (s : ByteArray) (xs : List ByteArray) (j : Nat) : Int := if s ∈ xs.take j then ((xs.idxOf s : Nat) : Int) else -1
theorem find_loop {W T : Nat} {l xs : List ByteArray} {s : ByteArray} {i : Nat} {h : H} (hs : l[i]? = some s) (hW : xs ≠ [] → h[W]? = some (.fz (sF xs))) (hn : xs.Nodup) (hb : xs.length ≤ 1000000) :
    ∀ (d j : Nat), xs.length - j = d → j ≤ xs.length → CanonTables_2 (.f (.lst l.length (sF l))) T 0 (wantV W xs.length) i (atI s xs j) j h = CanonTables_2 (.f (.lst l.length (sF l))) T 0 (wantV W xs.length) i (atI s xs xs.length) xs.length h := by
  intro d
  induction d with
  | zero => intro j h1 h2; rw [show j = xs.length by omega]
  | succ d ih =>
    intro j h1 h2
    have hne : xs ≠ [] := by intro q; subst q; simp at h1
    have hpos : xs.length ≠ 0 := by simpa using hne
    have hi : i < l.length := (List.getElem?_eq_some_iff.1 hs).1
    rw [← ih (j + 1) (by omega) (by omega)]
    have hv : wantV W xs.length = .ref W 0 xs.length 1 := by rw [wantV, if_neg hpos]
    rw [hv] at ih ⊢
    rw [CanonTables_2_eq, lnV_ref, if_pos (by simp; omega)]
    rw [idx_ref u25 s9 (by omega) (by omega)]
    have hx : xs[j]? = some xs[j] := List.getElem?_eq_getElem (by omega)
    rw [gS_z (hW hne) (s := xs[j]) (by simpa using sF_at hx)]
    simp only [onFoot_eq]
    rw [idx_lst u25 s9 (by omega) (by omega), gS_fp (s := s) _ (fp_at hs)]
    rw [ldF9, ldF_fp]
    refine ite_go (by simp [nocl, Foot.clash]) ?_
    rw [wrap1 (by omega) (by omega), ba_eq_iff]
    have ht : xs.take (j + 1) = xs.take j ++ [xs[j]] := by rw [List.take_succ_eq_append_getElem (by omega)]
    by_cases e : xs[j] = s
    · rw [if_pos (by simpa using e)]
      have : atI s xs (j + 1) = j := by
        rw [atI, if_pos (by rw [ht]; simp [e])]
        congr 1
        have := hn.idxOf_getElem j (by omega)
        rw [e] at this; exact this
      rw [this]; rfl
    · rw [if_neg (by simpa using e)]
      have : atI s xs (j + 1) = atI s xs j := by
        unfold atI; rw [ht]; simp only [List.mem_append, List.mem_singleton, show ¬ s = xs[j] from fun q => e q.symm, or_false]
      rw [this]; rfl
theorem kI_one (n : Int) (g : H) (kp : V → H → R) (K : Int → H → R) : kI .i64 (some (.ret (N .i64 n), g)) kp K = K n g := rfl
theorem lnV_want (W n : Nat) (K : Nat → R) : lnV (wantV W n) K = K n := by
  unfold wantV; split
  · next e => subst e; rfl
  · rfl
/-- the gathered are told as they were gathered -/
theorem same_loop {W A T : Nat} {xs : List ByteArray} {h : H} (hW : h[W]? = some (.fz (sF xs))) (hA : h[A]? = some (.fz (sF xs))) (hb : xs.length ≤ 1000000) (hne : xs ≠ []) :
    ∀ (d j : Nat), xs.length - j = d → j ≤ xs.length → CanonTables_3 (wantV W xs.length) (.ref A 0 xs.length 1) j h = some (.ret (B true), []) := by
  intro d
  have hpos : xs.length ≠ 0 := by simpa using hne
  have hv : wantV W xs.length = .ref W 0 xs.length 1 := by rw [wantV, if_neg hpos]
  induction d with
  | zero =>
    intro j h1 h2
    rw [CanonTables_3_eq, lnV_want, if_neg (by simp; omega), tAll_nil]
    rfl
  | succ d ih =>
    intro j h1 h2
    rw [CanonTables_3_eq, lnV_want, if_pos (by simp; omega)]
    have hx : xs[j]? = some xs[j] := List.getElem?_eq_getElem (by omega)
    rw [idx_ref u25 s9 (by omega) (by omega), gS_z hA (s := xs[j]) (by simpa using sF_at hx)]
    simp only [onFoot_eq]
    rw [hv, idx_ref u25 s9 (by omega) (by omega), gS_z hW (s := xs[j]) (by simpa using sF_at hx)]
    rw [ldF9, ldF9]
    refine ite_go (by simp [nocl, Foot.clash]) ?_
    rw [if_neg (by simp), wrap1 (by omega) (by omega)]
    have := ih (j + 1) (by omega) (by omega)
    rw [hv] at this
    exact this
theorem tab_end {l xs : List ByteArray} {W : Nat} {h : H} (hb : xs.length ≤ 1000000) (hW : xs ≠ [] → h[W]? = some (.fz (sF xs))) (hT : Tab h 0 W xs) :
    CanonTables_1 (.f (.lst l.length (sF l))) 0 0 (wantV W xs.length) l.length h = some (.ret (B true), []) := by
  rw [CanonTables_1_eq, lnV_lst, if_neg (by simp)]
  rcases hT with ⟨rfl, h0⟩ | ⟨K, M, hk, h1, h2, h3⟩
  · have : run w0 17 [.ptr 0 0] h = some (.ret (.ref h.length 0 0 1), h ++ [.fz []]) := by
      rw [tAll_eq, nil_eq3, cnd_B, if_neg (by simp), gL_c h0 rfl, coeSl_nil, callS (n := 0) (c := []) h rfl (by omega)]
    rw [this, kL_some, coeSl_ref, lnV_ref, lnV_want, if_neg (by simp)]
    rw [CanonTables_3_eq, lnV_want, if_neg (by simp), tAll_nil]
    rfl
  · rw [tAll_some hk h1 h2 hb, kL_some, coeSl_ref, lnV_ref, lnV_want, if_neg (by simp)]
    by_cases hne : xs = []
    · subst hne
      rw [CanonTables_3_eq, lnV_want, if_neg (by simp), tAll_nil]
      rfl
    · exact same_loop (A := h.length) (T := 0) (get_app (by rw [get_set_ne' _ _ hk, hW hne]) _) (by rw [List.getElem?_append_right (by simp)]; simp) hb hne _ 0 rfl (by omega)
theorem tables_loop {l : List ByteArray} (hl : l.length ≤ 30) : ∀ (d i : Nat), l.length - i = d → i ≤ l.length → ∀ (xs : List ByteArray) (W : Nat) (h : H), xs.Nodup → xs.length ≤ i → (xs ≠ [] → h[W]? = some (.fz (sF xs))) → W < h.length → Tab h 0 W xs →
    CanonTables_1 (.f (.lst l.length (sF l))) 0 0 (wantV W xs.length) i h = some (.ret (B true), []) := by
  intro d
  induction d with
  | zero =>
    intro i h1 h2 xs W h hn hx hW hWl hT
    rw [show i = l.length by omega]
    exact tab_end (by omega) hW hT
  | succ d ih =>
    intro i h1 h2 xs W h hn hx hW hWl hT
    have hs : l[i]? = some l[i] := List.getElem?_eq_getElem (by omega)
    generalize l[i] = s at hs
    rw [CanonTables_1_eq, lnV_lst, if_pos (by simp; omega)]
    have e0 : (-1 : Int) = atI s xs 0 := by simp [atI]
    have := find_loop (T := 0) hs hW hn (by omega) xs.length 0 (by omega) (by omega)
    rw [e0]; refine this.trans ?_
    rw [CanonTables_2_eq, lnV_want, if_neg (by simp)]
    by_cases hm : s ∈ xs
    · have ha : atI s xs xs.length = ((xs.idxOf s : Nat) : Int) := by rw [atI, List.take_length, if_pos hm]
      rw [ha, if_neg (by simp), idx_lst u25 s9 (by omega) (by omega), gS_fp (s := s) _ (fp_at hs)]
      rcases hT with ⟨rfl, h0⟩ | ⟨K, M, hk, q1, q2, q3⟩
      · simp at hm
      · rw [tAdd_old hk q1 q2 q3 hm, kI_one, if_neg (by simp), wrap1 (by omega) (by omega)]
        exact ih (i + 1) (by omega) (by omega) xs W h hn (by omega) hW hWl (.inr ⟨K, M, hk, q1, q2, q3⟩)
    · have ha : atI s xs xs.length = -1 := by rw [atI, List.take_length, if_neg hm]
      rw [ha, if_pos (by simp), lnV_want, idx_lst u25 s9 (by omega) (by omega), gS_fp (s := s) _ (fp_at hs)]
      have hap : ∃ h1, (∀ K : V → H → R, append Try.prog 25 25 (wantV W xs.length) (.lit 1 [S s]) h K = K (.ref h.length 0 (xs.length + 1) 1) h1) ∧ h1[h.length]? = some (.fz (sF (xs ++ [s]))) ∧ h1.length = h.length + 1 ∧ Tab h1 0 h.length xs := by
        by_cases hne : xs = []
        · subst hne
          refine ⟨_, fun K => ap_n s h K, by rw [get_new]; rfl, by simp, ?_⟩
          rcases hT with ⟨_, h0⟩ | ⟨K, M, hk, q1, q2, q3⟩
          · exact .inl ⟨rfl, get_app h0 _⟩
          · exact .inr ⟨K, M, by have := get_lt q2; omega, get_app q1 _, get_app q2 _, get_app q3 _⟩
        · have hv : wantV W xs.length = .ref W 0 xs.length 1 := by rw [wantV, if_neg (by simpa using hne)]
          have hw := hW hne
          refine ⟨_, fun K => by rw [hv]; exact ap_1 s hw (by omega) K, by rw [List.getElem?_append_right (by simp)]; simp, by simp, ?_⟩
          rcases hT with ⟨rfl, _⟩ | ⟨K, M, hk, q1, q2, q3⟩
          · exact absurd rfl hne
          · have n1 : W ≠ 0 := fun q => by subst q; rw [hw] at q1; cases q1
            have n2 : W ≠ M := fun q => by subst q; rw [hw] at q3; cases q3
            exact .inr ⟨K, M, by have := get_lt q2; omega, get_app (by rw [get_set_ne' _ _ n1, q1]) _, get_app (by rw [get_set_ne' _ _ (fun q => hk q.symm), q2]) _, get_app (by rw [get_set_ne' _ _ n2, q3]) _⟩
      obtain ⟨g, ea, gW, gl, gT⟩ := hap
      rw [ea, idx_lst u25 s9 (by omega) (by omega), gS_fp (s := s) _ (fp_at hs)]
      have hadd : ∃ g', run w0 16 [.ptr 0 0, S s] g = some (.ret (N .i64 xs.length), g') ∧ Tab g' 0 h.length (xs ++ [s]) ∧ g'[h.length]? = some (.fz (sF (xs ++ [s]))) := by
        rcases gT with ⟨rfl, h0⟩ | ⟨K, M, hk, q1, q2, q3⟩
        · obtain ⟨g', e1, e2, e3⟩ := tAdd_nil 0 h.length g s h0 (by omega)
          exact ⟨g', e1, e2, by rw [e3 _ (by omega) (by omega), gW]⟩
        · obtain ⟨g', e1, e2, e3⟩ := tAdd_new hk q1 q2 q3 hm (by omega) (by omega)
          refine ⟨g', e1, e2, by rw [e3 _ (by omega) (by omega) (fun q => hk q.symm) (fun q => by rw [← q, gW] at q3; cases q3), gW]⟩
      obtain ⟨g', e1, e2, e3⟩ := hadd
      rw [e1, kI_one, if_neg (by simp), wrap1 (by omega) (by omega)]
      have := ih (i + 1) (by omega) (by omega) (xs ++ [s]) h.length g' (by rw [List.nodup_append]; exact ⟨hn, by simp, by intro a hc b hb q; simp at hb; subst hb; subst q; exact hm hc⟩) (by simp; omega) (fun _ => e3) (get_lt e3) e2
      rw [← this]
      simp [wantV]
theorem CanonTables_law (l : List ByteArray) : CanonTables_0 (.f (.lst l.length (sF l))) = some (.ret (B true), []) := by
  rw [CanonTables_eq]
  simp only [cawake_spec, xB_some, lnV_lst]
  rw [if_pos (by rfl)]
  by_cases h : l.length ≤ 30
  · rw [if_neg (by simp; omega), newO_eq]
    exact tables_loop h _ 0 rfl (by omega) [] 0 _ (by simp) (by simp) (by simp) (by simp) (.inl ⟨rfl, rfl⟩)
  · rw [if_pos (by simp; omega)]
set_option maxRecDepth 100000 in
theorem CanonTables_all (l : List (List F)) (h : Args Try.prog Try.f7.params.toList l) : ∃ h', run w0 7 (argVs Try.prog Try.f7.params.toList l) [] = some (.ret (B true), h') := by
  obtain ⟨x1, l1, rfl, h1, h⟩ := h.cons_inv
  obtain rfl := h.nil_inv
  obtain ⟨l, rfl, _, _⟩ := h1.of_strs (e := 9) (by kernel_rfl) (by kernel_rfl)
  have h : run w0 7 [.f (.lst l.length (sF l))] [] = some (.ret (B true), []) := by
    rw [CanonTables_run]
    show withH true [] (CanonTables_0 (.f (.lst l.length (sF l)))) = _
    rw [CanonTables_law, withH_true]
  exact ⟨[], h⟩
end Go.Proofs.Ytjefolfbdohkcaa
