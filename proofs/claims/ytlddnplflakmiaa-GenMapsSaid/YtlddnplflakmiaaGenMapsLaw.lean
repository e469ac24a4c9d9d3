/-
  The law GenMaps: where each name is; whose each number is.
-/
import Derived.Test.YtlddnplflakmiaaGenOk
import Derived.Test.YtlddnplflakmiaaGenSpec
import Derived.Test.YtlddnplflakmiaaDraftArgs
import Derived.Test.YtlddnplflakmiaaEqGenM
set_option autoImplicit false
set_option linter.unusedVariables false
set_option linter.unusedSimpArgs false
namespace Go.Proofs.Ytlddnplflakmiaa
open Go Go.Abs

/-! ### places -/
theorem posAt_get {x : Thing} : ∀ {l : List Thing} {i j : Nat}, posAt x i l = ((i + j : Nat) : Int) → l[j]? = some x
  | [], i, j, h => by simp [posAt] at h; omega
  | y :: l, i, j, h => by
    rw [posAt] at h
    by_cases e : y = x
    · rw [if_pos e] at h
      obtain rfl : j = 0 := by omega
      rw [e]; rfl
    · rw [if_neg e] at h
      cases j with
      | zero =>
        have := @posAt_in x l (i + 1)
        by_cases hm : x ∈ l
        · have := (this hm).1; omega
        · rw [posAt_none hm] at h; omega
      | succ j => exact posAt_get (i := i + 1) (j := j) (by rw [h]; congr 1; omega)
theorem posAt_self {x : Thing} {l rest : List Thing} {i : Nat} (hn : l.Nodup) (h : l.drop i = x :: rest) : posAt x 0 l = i := by
  have hx : x ∉ l.take i := by
    intro hm
    have e := List.take_append_drop i l
    rw [h] at e
    rw [← e] at hn
    exact (List.nodup_append.1 hn).2.2 x hm x (by simp) rfl
  have hlt := lt_of_drop h
  have e := List.take_append_drop i l
  rw [h] at e
  rw [← e, posAt_append, if_neg hx, posAt, if_pos rfl, List.length_take]
  omega
theorem blk_nodup (k f : Int) : ∀ (n i : Nat), (blk k f i n).Nodup
  | 0, i => List.nodup_nil
  | n + 1, i => by
    rw [blk, List.nodup_cons]
    refine ⟨fun h => ?_, blk_nodup k f n (i + 1)⟩
    have := mem_blk.1 h
    omega
theorem fromF_nodup {b : Int → MFun → List Thing} (hb : ∀ (f : Int) (g : MFun), (b f g).Nodup) (hm : ∀ (f : Int) (g : MFun) (x : Thing), x ∈ b f g → x.2.1 = f) : ∀ (fs : List MFun) (f0 : Nat), (fromF b f0 fs).Nodup ∧ ∀ x ∈ fromF b f0 fs, (f0 : Int) ≤ x.2.1
  | [], f0 => ⟨List.nodup_nil, fun x hx => by cases hx⟩
  | g :: r, f0 => by
    obtain ⟨h1, h2⟩ := fromF_nodup hb hm r (f0 + 1)
    rw [fromF]
    refine ⟨List.nodup_append.2 ⟨hb _ _, h1, fun x hx y hy e => ?_⟩, fun x hx => ?_⟩
    · subst e
      have h3 := hm _ _ _ hx
      have h4 := h2 _ hy
      omega
    · rcases List.mem_append.1 hx with hx | hx
      · have := hm _ _ _ hx; omega
      · have := h2 _ hx; omega
theorem vF_nodup (f : Int) (g : MFun) : (varsOfF f g).Nodup := by
  unfold varsOfF
  refine List.nodup_append.2 ⟨blk_nodup _ _ _ _, List.nodup_cons.2 ⟨fun h => ?_, blk_nodup _ _ _ _⟩, fun x hx y hy e => ?_⟩
  · have := mem_blk.1 h; omega
  · subst e
    obtain ⟨a, b, c⟩ := x
    have h1 := mem_blk.1 hx
    rcases List.mem_cons.1 hy with h2 | h2
    · simp at h2; omega
    · have := mem_blk.1 h2; omega
theorem cF_nodup (f : Int) (g : MFun) : (cellsOfF f g).Nodup := by
  unfold cellsOfF
  refine List.nodup_cons.2 ⟨fun h => ?_, List.nodup_append.2 ⟨blk_nodup _ _ _ _, blk_nodup _ _ _ _, fun x hx y hy e => ?_⟩⟩
  · rcases List.mem_append.1 h with h | h
    · have := mem_blk.1 h; omega
    · have := mem_blk.1 h; omega
  · subst e
    obtain ⟨a, b, c⟩ := x
    have h1 := mem_blk.1 hx
    have h2 := mem_blk.1 hy
    omega
/-- what there is -/
theorem vF_kind {f : Int} {g : MFun} {x : Thing} (h : x ∈ varsOfF f g) : x.2.1 = f ∧ (x.1 = 1 ∨ x.1 = 3 ∧ x.2.2 = 0 ∨ x.1 = 4) := by
  obtain ⟨a, b, c⟩ := x
  unfold varsOfF at h
  rcases List.mem_append.1 h with h | h
  · have := mem_blk.1 h; dsimp only; omega
  · rcases List.mem_cons.1 h with h | h
    · simp at h; dsimp only; omega
    · have := mem_blk.1 h; dsimp only; omega
theorem cF_kind {f : Int} {g : MFun} {x : Thing} (h : x ∈ cellsOfF f g) : x.2.1 = f ∧ (x.1 = 1 ∨ x.1 = 3 ∧ x.2.2 = 0 ∨ x.1 = 4) := by
  obtain ⟨a, b, c⟩ := x
  unfold cellsOfF at h
  rcases List.mem_cons.1 h with h | h
  · simp at h; dsimp only; omega
  · rcases List.mem_append.1 h with h | h
    · have := mem_blk.1 h; dsimp only; omega
    · have := mem_blk.1 h; dsimp only; omega
theorem varsR_nodup (m : Abs.Mod) : (varsR m).Nodup := by
  unfold varsR
  obtain ⟨h1, h2⟩ := fromF_nodup (b := varsOfF) vF_nodup (fun f g x h => (vF_kind h).1) m.funcs 0
  refine List.nodup_append.2 ⟨blk_nodup _ _ _ _, h1, fun x hx y hy e => ?_⟩
  subst e
  obtain ⟨f, g, h3⟩ := fromF_some hy
  have := (vF_kind h3).2
  obtain ⟨a, b, c⟩ := x
  have h1 := mem_blk.1 hx
  dsimp only at this; omega
theorem cellsR_nodup (m : Abs.Mod) : (cellsR m).Nodup := by
  unfold cellsR
  obtain ⟨h1, h2⟩ := fromF_nodup (b := cellsOfF) cF_nodup (fun f g x h => (cF_kind h).1) m.funcs 0
  refine List.nodup_append.2 ⟨blk_nodup _ _ _ _, h1, fun x hx y hy e => ?_⟩
  subst e
  obtain ⟨f, g, h3⟩ := fromF_some hy
  have := (cF_kind h3).2
  obtain ⟨a, b, c⟩ := x
  have h1 := mem_blk.1 hx
  dsimp only at this; omega
theorem vars_kind {m : Abs.Mod} {x : Thing} (h : x ∈ varsR m) : x.1 = 1 ∨ x.1 = 2 ∧ x.2.1 = 0 ∨ x.1 = 3 ∧ x.2.2 = 0 ∨ x.1 = 4 := by
  unfold varsR at h
  rcases List.mem_append.1 h with h | h
  · obtain ⟨a, b, c⟩ := x
    have := mem_blk.1 h; dsimp only; omega
  · obtain ⟨f, g, h3⟩ := fromF_some h
    have := (vF_kind h3).2; omega
theorem cells_kind {m : Abs.Mod} {x : Thing} (h : x ∈ cellsR m) : x.1 = 1 ∨ x.1 = 2 ∧ x.2.1 = 0 ∨ x.1 = 3 ∧ x.2.2 = 0 ∨ x.1 = 4 := by
  unfold cellsR at h
  rcases List.mem_append.1 h with h | h
  · obtain ⟨a, b, c⟩ := x
    have := mem_blk.1 h; dsimp only; omega
  · obtain ⟨f, g, h3⟩ := fromF_some h
    have := (cF_kind h3).2; omega
/-! ### whose an object is -/
def idxI (n : Int) : Nat → List Int → Int
  | _, [] => -1
  | i, x :: r => if x = n then i else idxI n (i + 1) r
theorem gmFunction_loop (l : List Int) (hl : l.length ≤ big) (n : Int) : ∀ (rest : List Int) (i : Nat), l.drop i = rest → i ≤ l.length → gmFunction_1 n l.length (kF .i64 l) l.length i = some (.ret (I (idxI n i rest)), [])
  | [], i, hd, hi => by
    have := done_of_drop hd
    rw [gmFunction_1_eq, if_neg (by simp; omega)]; rfl
  | x :: rest, i, hd, hi => by
    have hlt := lt_of_drop hd
    have ih := gmFunction_loop l hl n rest (i + 1) (drop_next hd) (by omega)
    unfold big at hl
    rw [gmFunction_1_eq, if_pos (decide_eq_true (by omega)), elem_kF hd, atI_zero, ibeq]
    unfold idxI
    by_cases h : x = n
    · rw [if_pos (decide_eq_true h), if_pos h]
    · rw [if_neg (by simpa using h), if_neg h, show ((i : Nat) : Int) + 1 = ((i + 1 : Nat) : Int) by omega, wrap_i64 (by omega) (by omega), ih]
theorem idxI_in {n : Int} : ∀ {l : List Int} {i : Nat}, n ∈ l → ∃ j : Nat, idxI n i l = ((i + j : Nat) : Int) ∧ l[j]? = some n
  | [], i, h => by cases h
  | x :: r, i, h => by
    unfold idxI
    by_cases e : x = n
    · exact ⟨0, by rw [if_pos e]; rfl, by rw [e]; rfl⟩
    · obtain ⟨j, h1, h2⟩ := idxI_in (i := i + 1) ((List.mem_cons.1 h).resolve_left fun q => e q.symm)
      exact ⟨j + 1, by rw [if_neg e, h1]; congr 1; omega, h2⟩
theorem idxI_out {n : Int} : ∀ {l : List Int} {i : Nat}, n ∉ l → idxI n i l = -1
  | [], i, h => rfl
  | x :: r, i, h => by
    unfold idxI
    rw [if_neg fun e => h (by simp [e]), idxI_out fun q => h (by simp [q])]
section
variable (m : Abs.Mod) (hm : okM m)
include hm in
theorem gmFunction_spec (n : Int) (h0 : H) : run w0 24 [.agg (mapV m), I n] h0 = some (.ret (I (idxI n 0 (firstsR m))), h0) := by
  have hl : (firstsR m).length ≤ big := by rw [firstsR, firsts_len]; have := hm.2.1; unfold big; omega
  have := gmFunction_loop (firstsR m) hl n (firstsR m) 0 rfl (by omega)
  rw [show ((0 : Nat) : Int) = 0 from rfl] at this
  rw [gmFunction_run, gmFunction_eq, this, withH_true]
theorem gmCells_spec (h0 : H) : run w0 19 [.agg (mapV m)] h0 = some (.ret (I (allR m)), h0) := by
  rw [gmCells_run, gmCells_eq, withH_true]
theorem firsts_at {n : Nat} (h : n < m.funcs.length) : (firstsR m)[n]? = some (firstR m n : Int) := by
  unfold firstsR firstR
  rw [firsts_get _ _ _ h]
theorem getF_nat {n : Nat} (h : n < m.funcs.length) : getF m (n : Int) = some m.funcs[n] := by
  unfold getF
  rw [if_pos (by omega), Int.toNat_natCast, List.getElem?_eq_getElem h]
theorem fun_pos {n : Nat} (h : n < m.funcs.length) : posAt (3, (n : Int), 0) 0 (cellsR m) = firstR m n := by
  rw [cells_pos m _ _ _ (by omega), getF_nat m h]
  simp [inC, firstR]
/-- the function of the i-th object -/
theorem idx_cell {t : Thing} {rest : List Thing} {i : Nat} (hd : (cellsR m).drop i = t :: rest) : idxI (i : Int) 0 (firstsR m) = if t.1 = 3 then t.2.1 else -1 := by
  have hlt := lt_of_drop hd
  have hg : (cellsR m)[i]? = some t := by rw [← List.head?_drop, hd]; rfl
  have key : ∀ k : Nat, (firstsR m)[k]? = some (i : Int) → t = (3, (k : Int), 0) := fun k hk => by
    have hkl : k < m.funcs.length := by
      have := (List.getElem?_eq_some_iff.1 hk).1
      rw [firstsR, firsts_len] at this; exact this
    rw [firsts_at m hkl] at hk
    have h1 := fun_pos m hkl
    rw [Option.some.inj hk] at h1
    have h2 := posAt_get (i := 0) (j := i) (by rw [h1]; simp)
    rw [hg] at h2
    exact Option.some.inj h2
  by_cases h : (i : Int) ∈ firstsR m
  · obtain ⟨j, h1, h2⟩ := idxI_in (i := 0) h
    have := key j h2
    rw [h1, this]; simp
  · rw [idxI_out h, if_neg]
    intro h3
    have hk := cells_kind (m := m) (List.mem_of_getElem? hg)
    obtain ⟨a, b, c⟩ := t
    dsimp only at h3 hk
    subst h3
    have hc : c = 0 := by omega
    subst hc
    have hp := posAt_self (cellsR_nodup m) hd
    rw [cells_pos m _ _ _ (by omega)] at hp
    unfold getF at hp
    by_cases hb : 0 ≤ b
    · rw [if_pos hb] at hp
      rcases hq : m.funcs[b.toNat]? with _ | g
      · rw [hq] at hp; dsimp only at hp; omega
      · have hbl := (List.getElem?_eq_some_iff.1 hq).1
        refine h (List.mem_of_getElem? (i := b.toNat) ?_)
        rw [firsts_at m hbl, ← fun_pos m hbl]
        congr 1
        have := posAt_self (cellsR_nodup m) hd
        rwa [show ((b.toNat : Nat) : Int) = b by omega]
    · rw [if_neg hb] at hp; dsimp only at hp; omega
end
/-! ### the law -/
noncomputable abbrev GM1 (m : Abs.Mod) (fn n : Int) (r : MRef) (i : Int) : R := GenMaps_1 fn n r.k r.id m.strings.length (sF m.strings) m.globals.length (kF .i64 m.globals) m.funcs.length (funsF m.funcs) m.entries.length (kF .i64 m.entries) m.strings.length (sF m.strings) m.globals.length (kF .i64 m.globals) m.funcs.length (funsF m.funcs) m.entries.length (kF .i64 m.entries) (firstsR m).length (kF .i64 (firstsR m)) (firstsR m).length (kF .i64 (firstsR m)) (allR m) (allR m) (varsR m).length (thingsF (varsR m)) (cellsR m).length (thingsF (cellsR m)) i
noncomputable abbrev GM2 (m : Abs.Mod) (fn n : Int) (r : MRef) (i : Int) : R := GenMaps_2 fn n r.k r.id m.strings.length (sF m.strings) m.globals.length (kF .i64 m.globals) m.funcs.length (funsF m.funcs) m.entries.length (kF .i64 m.entries) m.strings.length (sF m.strings) m.globals.length (kF .i64 m.globals) m.funcs.length (funsF m.funcs) m.entries.length (kF .i64 m.entries) (firstsR m).length (kF .i64 (firstsR m)) (firstsR m).length (kF .i64 (firstsR m)) (allR m) (allR m) (varsR m).length (thingsF (varsR m)) (cellsR m).length (thingsF (cellsR m)) i
noncomputable abbrev GM3 (m : Abs.Mod) (fn n : Int) (b : Bool) (v w : Int) : R := GenMaps_3 fn n m.strings.length (sF m.strings) m.globals.length (kF .i64 m.globals) m.funcs.length (funsF m.funcs) m.entries.length (kF .i64 m.entries) m.strings.length (sF m.strings) m.globals.length (kF .i64 m.globals) m.funcs.length (funsF m.funcs) m.entries.length (kF .i64 m.entries) (firstsR m).length (kF .i64 (firstsR m)) (firstsR m).length (kF .i64 (firstsR m)) (allR m) (allR m) (cellsR m).length (thingsF (cellsR m)) b v w
theorem gm1 (m : Abs.Mod) (hm : okM m) (fn n : Int) (r : MRef) : ∀ (rest : List Thing) (i : Nat), (varsR m).drop i = rest → i ≤ (varsR m).length → GM1 m fn n r i = GM2 m fn n r 0
  | [], i, hd, hi => by
    have := done_of_drop hd
    unfold GM1
    rw [GenMaps_1_eq, if_neg (by simp; omega)]
  | t :: rest, i, hd, hi => by
    have hlt := lt_of_drop hd
    have hl := vars_le m hm
    have ih := gm1 m hm fn n r rest (i + 1) (drop_next hd) (by omega)
    have hp := posAt_self (varsR_nodup m) hd
    have hk := vars_kind (m := m) (List.mem_of_mem_drop (by rw [hd]; simp : t ∈ (varsR m).drop i))
    obtain ⟨a, b, c⟩ := t
    dsimp only at hk
    have e1 : ∀ h0 : H, run w0 20 [.agg (mapV m), N .i64 b] h0 = _ := fun h0 => gmResult_spec m hm b h0
    have e2 : ∀ h0 : H, run w0 21 [.agg (mapV m), N .i64 b, N .i64 c] h0 = _ := fun h0 => gmContent_spec m hm b c h0
    have e3 : ∀ h0 : H, run w0 22 [.agg (mapV m), N .i64 b, .agg [N .u8 a, N .i64 c]] h0 = _ := fun h0 => gmVar_spec m hm b ⟨a, c⟩ h0
    have hw : IntKind.wrap .i64 ((i : Int) + 1) = ((i + 1 : Nat) : Int) := by rw [show ((i : Nat) : Int) + 1 = ((i + 1 : Nat) : Int) by omega, wrap_i64 (by omega) (by omega)]
    unfold GM1 at ih ⊢
    rw [GenMaps_1_eq, if_pos (decide_eq_true (by omega)), elem_next Thing.F_len hd]
    simp only [Thing.F, List.cons_append, List.nil_append, atI_zero, atI_succ]
    rw [hw, ih]
    by_cases h3 : a = 3
    · have hc : c = 0 := by omega
      subst h3 hc
      rw [if_pos (by rfl), e1, pI_some, hp, if_neg (by simp)]
    · rw [if_neg (by simpa using h3)]
      by_cases h4 : a = 4
      · subst h4
        rw [if_pos (by rfl), e2, pI_some, hp, if_neg (by simp)]
      · have hv : gVarP m b ⟨a, c⟩ = i := by
          unfold gVarP ofR
          dsimp only
          rw [if_pos (by omega)]
          by_cases h2 : a = 2
          · have hb : b = 0 := by omega
            subst h2 hb
            rw [if_pos rfl, hp]
          · rw [if_neg h2, if_neg h3, hp]
        rw [if_neg (by simpa using h4), e3, pI_some, hv, if_neg (by simp)]
theorem gm3 (m : Abs.Mod) (hm : okM m) (fn n : Int) (b : Bool) (v : Int) (hb : b = (getF m fn).isSome) : GM3 m fn n b v v = some (.ret (B true), []) := by
  have hfl := hm.2.1
  have hcl := cells_le m hm
  have e1 : ∀ h0 : H, run w0 20 [.agg (mapV m), N .i64 fn] h0 = _ := fun h0 => gmResult_spec m hm fn h0
  have e2 : ∀ h0 : H, run w0 21 [.agg (mapV m), N .i64 fn, N .i64 n] h0 = _ := fun h0 => gmContent_spec m hm fn n h0
  have e3 : ∀ h0 : H, run w0 24 [.agg (mapV m), N .i64 n] h0 = _ := fun h0 => gmFunction_spec m hm n h0
  have hclamp : ∀ (a : Int) (l : Nat), 0 ≤ a → a < l → l ≤ 30000 → (if 0 > (if (IntKind.wrap .i64 ((l : Int) - 1)) < a then (IntKind.wrap .i64 ((l : Int) - 1)) else a) then 0 else (if (IntKind.wrap .i64 ((l : Int) - 1)) < a then (IntKind.wrap .i64 ((l : Int) - 1)) else a)) = a := fun a l h0 h1 h2 => by
    rw [wrap_i64 (by omega) (by omega), if_neg (show ¬ ((l : Int) - 1 < a) by omega), if_neg (by omega)]
  -- whose object n is
  have hf : ∀ K : Bool → R, (∀ x, x = true → K x = some (.ret (B true), [])) → (if (decide (n ≥ 0)) = true then if (decide (n < (((cellsR m).length : Nat) : Int))) = true then elem (.lst (cellsR m).length (thingsF (cellsR m))) (if 0 > (if (IntKind.wrap .i64 ((((cellsR m).length : Nat) : Int) - 1)) < n then (IntKind.wrap .i64 ((((cellsR m).length : Nat) : Int) - 1)) else n) then 0 else (if (IntKind.wrap .i64 ((((cellsR m).length : Nat) : Int) - 1)) < n then (IntKind.wrap .i64 ((((cellsR m).length : Nat) : Int) - 1)) else n)) 3 fun c1093 => atI .u8 (c1093.drop 0) 0 fun n1094 => K ((decide (idxI n 0 (firstsR m) ≥ 0)) == (n1094 == 3)) else K ((decide (idxI n 0 (firstsR m) ≥ 0)) == false) else K ((decide (idxI n 0 (firstsR m) ≥ 0)) == false)) = some (.ret (B true), []) := fun K hK => by
    have hout : ¬ (0 ≤ n ∧ n < (cellsR m).length) → idxI n 0 (firstsR m) = -1 := fun h => by
      refine idxI_out fun hin => h ?_
      obtain ⟨k, hk⟩ := List.getElem?_of_mem hin
      have hkl : k < m.funcs.length := by
        have := (List.getElem?_eq_some_iff.1 hk).1
        rw [firstsR, firsts_len] at this; exact this
      rw [firsts_at m hkl] at hk
      have h1 := fun_pos m hkl
      rw [Option.some.inj hk] at h1
      have h2 := (posAt_in (i := 0) (mem_fun (List.getElem?_eq_getElem hkl)).2)
      rw [h1] at h2; omega
    by_cases h0 : 0 ≤ n
    · rw [if_pos (decide_eq_true h0)]
      by_cases h1 : n < (cellsR m).length
      · rw [if_pos (decide_eq_true h1), hclamp n _ h0 h1 (by omega)]
        obtain ⟨j, rfl⟩ : ∃ j : Nat, n = j := ⟨n.toNat, by omega⟩
        obtain ⟨t, rest, hd⟩ : ∃ t rest, (cellsR m).drop j = t :: rest := ⟨_, _, drop_get (l := cellsR m) (i := j) (by omega)⟩
        rw [thing_0 hd, idx_cell m hd]
        refine hK _ ?_
        by_cases h3 : t.1 = 3
        · rw [if_pos h3]
          have hp := posAt_self (cellsR_nodup m) hd
          have hk := cells_kind (m := m) (List.mem_of_mem_drop (by rw [hd]; simp : t ∈ (cellsR m).drop j))
          obtain ⟨a, b, c⟩ := t
          dsimp only at h3 hk hp ⊢
          subst h3
          have : 0 ≤ b := by
            rw [cells_pos m _ _ _ (by omega)] at hp
            unfold getF at hp
            by_cases hb : 0 ≤ b
            · exact hb
            · rw [if_neg hb] at hp; dsimp only at hp; omega
          simp [this]
        · rw [if_neg h3, ibeq]; simp [h3]
      · rw [if_neg (by simpa using h1)]
        refine hK _ ?_
        rw [hout (by omega)]; rfl
    · rw [if_neg (by simpa using h0)]
      refine hK _ ?_
      rw [hout (by omega)]; rfl
  have hf' := hf (fun x => some (.ret (B x), [])) (fun x hx => by rw [hx])
  unfold GM3
  rw [GenMaps_3_eq, if_pos (by simp), e1, pI_some]
  rcases hg : getF m fn with _ | g
  · rw [hg] at hb
    dsimp only [Option.isSome] at hb
    subst hb
    have hr : posAt (3, fn, 0) 0 (varsR m) = -1 := by rw [vars_pos m _ _ _ (by omega), hg]
    have hc : posAt (4, fn, n) 0 (varsR m) = -1 := by rw [vars_pos m _ _ _ (by omega), hg]
    rw [hr, if_pos (by rfl), e2, pI_some, hc, if_neg (by simp), if_pos (by rfl), e3, pI_some]
    exact hf'
  · rw [hg] at hb
    dsimp only [Option.isSome] at hb
    subst hb
    obtain ⟨j, rfl, hj, hjl⟩ := getF_some m hg
    have hok := hm.2.2 g (List.mem_of_getElem? hj)
    have hr : 0 ≤ posAt (3, (j : Int), 0) 0 (varsR m) := by rw [vars_pos m _ _ _ (by omega), hg]; simp [inV]; omega
    rw [if_pos (by rw [decide_eq_true hr]; rfl), e2, pI_some, if_pos (by rfl)]
    have hc : posAt (4, (j : Int), n) 0 (varsR m) = if 0 ≤ n ∧ n < g.sites.length then (firstR m j : Int) + (g.locals.length + 1 + n) else -1 := by
      have hin : inV g 4 n = if 0 ≤ n ∧ n < g.sites.length then (g.locals.length : Int) + 1 + n else -1 := by
        unfold inV
        by_cases h : 0 ≤ n ∧ n < g.sites.length
        · simp [h]
        · have h' : ¬ (0 ≤ n ∧ n < (g.sites.length : Int)) := h
          simp [h']
      rw [vars_pos m _ _ _ (by omega), hg]
      dsimp only
      rw [hin]
      by_cases h : 0 ≤ n ∧ n < g.sites.length
      · rw [if_pos h, if_pos h, if_pos (by omega)]; simp
      · rw [if_neg h, if_neg h]; rfl
    by_cases h0 : 0 ≤ n
    · rw [if_pos (decide_eq_true h0), hclamp _ _ (by omega) (by omega) (by omega), fun_s hj]
      rw [if_pos (by
        rw [hc]
        by_cases h : n < g.sites.length
        · rw [if_pos ⟨h0, h⟩, decide_eq_true (show n < ((g.sites.length : Nat) : Int) from h), decide_eq_true (by omega)]; rfl
        · rw [if_neg (fun q => h q.2), decide_eq_false (show ¬ n < ((g.sites.length : Nat) : Int) from h)]; rfl), e3, pI_some]
      exact hf'
    · rw [if_neg (by simpa using h0), hc, if_neg (show ¬ (0 ≤ n ∧ n < (g.sites.length : Int)) from fun q => h0 q.1), if_pos (by rfl), e3, pI_some]
      exact hf'
theorem gm2_end (m : Abs.Mod) (hm : okM m) (fn n : Int) (r : MRef) (hd : (cellsR m).length ≤ (cellsR m).length) : GM2 m fn n r (cellsR m).length = some (.ret (B true), []) := by
  have hfl := hm.2.1
  have e1 : ∀ h0 : H, run w0 22 [.agg (mapV m), N .i64 fn, .agg [N .u8 r.k, N .i64 r.id]] h0 = _ := fun h0 => gmVar_spec m hm fn r h0
  have hof : ∀ (K : Int → Int → Int → R), (pA (run w0 26 [N .i64 fn, .agg [N .u8 r.k, N .i64 r.id]] []) fun l => cI .u8 l 0 fun a => cI .i64 l 1 fun b => cI .i64 l 2 fun c => if l.length = 3 then K a b c else none) = K (ofR fn r).1 (ofR fn r).2.1 (ofR fn r).2.2 := fun K => of_go fn r [] K
  have hclamp : ∀ (a : Int) (l : Nat), 0 ≤ a → a < l → l ≤ 30000 → (if 0 > (if (IntKind.wrap .i64 ((l : Int) - 1)) < a then (IntKind.wrap .i64 ((l : Int) - 1)) else a) then 0 else (if (IntKind.wrap .i64 ((l : Int) - 1)) < a then (IntKind.wrap .i64 ((l : Int) - 1)) else a)) = a := fun a l h0 h1 h2 => by
    rw [wrap_i64 (by omega) (by omega), if_neg (show ¬ ((l : Int) - 1 < a) by omega), if_neg (by omega)]
  have leaf : ∀ (b : Bool) (v w : Int), b = (getF m fn).isSome → v = w → GenMaps_3 fn n m.strings.length (sF m.strings) m.globals.length (kF .i64 m.globals) m.funcs.length (funsF m.funcs) m.entries.length (kF .i64 m.entries) m.strings.length (sF m.strings) m.globals.length (kF .i64 m.globals) m.funcs.length (funsF m.funcs) m.entries.length (kF .i64 m.entries) (firstsR m).length (kF .i64 (firstsR m)) (firstsR m).length (kF .i64 (firstsR m)) (allR m) (allR m) (cellsR m).length (thingsF (cellsR m)) b v w = some (.ret (B true), []) := fun b v w hb hv => by
    subst hv; exact gm3 m hm fn n b v hb
  have hv2 : r.k = 2 → gVarP m fn r = if 0 ≤ r.id ∧ r.id < m.globals.length then posAt (ofR fn r) 0 (varsR m) else -1 := fun h2 => by
    unfold gVarP ofR
    rw [if_pos (.inr h2), if_pos h2, vars_posG]
    by_cases h : 0 ≤ r.id ∧ r.id < m.globals.length
    · rw [if_pos h, if_pos h]
    · rw [if_neg h, if_neg h]
  have hvo : r.k ≠ 2 → r.k ≠ 1 → gVarP m fn r = -1 := fun h2 h1 => by
    unfold gVarP; rw [if_neg (by omega)]
  have hv1 : r.k = 1 → ∀ g, getF m fn = some g → ¬ (0 ≤ r.id ∧ r.id < g.locals.length) → gVarP m fn r = -1 := fun h1 g hg h => by
    unfold gVarP ofR
    rw [if_pos (.inl h1), if_neg (by omega), if_neg (by omega), vars_pos m _ _ _ (by omega), hg]
    have hin : inV g r.k r.id = -1 := by
      unfold inV
      rw [if_neg (fun q => h q.2), if_neg (by omega), if_neg (by omega)]
    dsimp only
    rw [hin, if_neg (by omega)]
  have hvn : r.k = 1 → getF m fn = none → gVarP m fn r = -1 := fun h1 hg => by
    unfold gVarP ofR
    rw [if_pos (.inl h1), if_neg (by omega), if_neg (by omega), vars_pos m _ _ _ (by omega), hg]
  have hfind : ∀ K : Int → R, pI .i64 (run w0 25 [.f (.lst (varsR m).length (thingsF (varsR m))), .agg [N .u8 (ofR fn r).1, N .i64 (ofR fn r).2.1, N .i64 (ofR fn r).2.2]] []) K = K (posAt (ofR fn r) 0 (varsR m)) := fun K => find_v m hm (ofR fn r) [] K
  unfold GM2
  rw [GenMaps_2_eq, if_neg (by simp)]
  by_cases c0 : 0 ≤ fn
  · rw [if_pos (decide_eq_true c0), e1, pI_some]
    have hb : decide (fn < ((m.funcs.length : Nat) : Int)) = (getF m fn).isSome := by
      unfold getF
      rw [if_pos c0]
      by_cases h : fn < m.funcs.length
      · rw [decide_eq_true h, List.getElem?_eq_getElem (by omega)]; rfl
      · rw [decide_eq_false h, List.getElem?_eq_none (by omega)]; rfl
    by_cases c2 : r.k = 2
    · have g2 := hv2 c2
      rw [if_pos (show (r.k == 2) = true by simp [c2])]
      by_cases c3 : 0 ≤ r.id
      · rw [if_pos (decide_eq_true c3)]
        by_cases c4 : r.id < m.globals.length
        · rw [if_neg (by simp; omega), hof, hfind]
          rw [if_pos ⟨c3, c4⟩] at g2
          exact leaf _ _ _ hb g2
        · rw [if_pos (by simp; omega), if_neg (by simp [c2])]
          rw [if_neg (fun q => c4 q.2)] at g2
          exact leaf _ _ _ hb g2
      · rw [if_neg (by simpa using c3), if_neg (by simp [c2])]
        rw [if_neg (fun q => c3 q.1)] at g2
        exact leaf _ _ _ hb g2
    · rw [if_neg (show ¬ (r.k == 2) = true by simp [c2])]
      by_cases c1 : r.k = 1
      · rw [if_pos (show (r.k == 1) = true by simp [c1])]
        by_cases c5 : fn < m.funcs.length
        · obtain ⟨j, rfl⟩ : ∃ j : Nat, fn = j := ⟨fn.toNat, by omega⟩
          have hj : m.funcs[j]? = some (m.funcs[j]'(by omega)) := List.getElem?_eq_getElem _
          have hg := getF_nat m (n := j) (by omega)
          generalize m.funcs[j]'(by omega) = g at hj hg
          rw [if_pos (decide_eq_true c5)]
          by_cases c6 : 0 ≤ r.id
          · rw [if_pos (decide_eq_true c6), hclamp _ _ c0 c5 (by omega), fun_l hj]
            by_cases c7 : r.id < g.locals.length
            · rw [if_pos (decide_eq_true c7), hof, hfind]
              refine leaf _ _ _ hb ?_
              unfold gVarP; rw [if_pos (.inl c1)]
            · rw [if_neg (by simpa using c7)]
              exact leaf _ _ _ hb (hv1 c1 g hg fun q => c7 q.2)
          · rw [if_neg (by simpa using c6)]
            exact leaf _ _ _ hb (hv1 c1 g hg fun q => c6 q.1)
        · rw [if_neg (by simpa using c5)]
          refine leaf _ _ _ hb (hvn c1 ?_)
          unfold getF
          rw [if_pos c0, List.getElem?_eq_none (by omega)]
      · rw [if_neg (show ¬ (r.k == 1) = true by simp [c1])]
        exact leaf _ _ _ hb (hvo c2 c1)
  · rw [if_neg (by simpa using c0), e1, pI_some]
    have hn : getF m fn = none := by unfold getF; rw [if_neg c0]
    have hb : false = (getF m fn).isSome := by rw [hn]; rfl
    by_cases c2 : r.k = 2
    · have g2 := hv2 c2
      rw [if_pos (show (r.k == 2) = true by simp [c2])]
      by_cases c3 : 0 ≤ r.id
      · rw [if_pos (decide_eq_true c3)]
        by_cases c4 : r.id < m.globals.length
        · rw [if_neg (by simp; omega), hof, hfind]
          rw [if_pos ⟨c3, c4⟩] at g2
          exact leaf _ _ _ hb g2
        · rw [if_pos (by simp; omega), if_neg (by simp [c2])]
          rw [if_neg (fun q => c4 q.2)] at g2
          exact leaf _ _ _ hb g2
      · rw [if_neg (by simpa using c3), if_neg (by simp [c2])]
        rw [if_neg (fun q => c3 q.1)] at g2
        exact leaf _ _ _ hb g2
    · rw [if_neg (show ¬ (r.k == 2) = true by simp [c2])]
      by_cases c1 : r.k = 1
      · rw [if_pos (show (r.k == 1) = true by simp [c1])]
        exact leaf _ _ _ hb (hvn c1 hn)
      · rw [if_neg (show ¬ (r.k == 1) = true by simp [c1])]
        exact leaf _ _ _ hb (hvo c2 c1)
theorem gm2 (m : Abs.Mod) (hm : okM m) (fn n : Int) (r : MRef) : ∀ (rest : List Thing) (i : Nat), (cellsR m).drop i = rest → i ≤ (cellsR m).length → GM2 m fn n r i = some (.ret (B true), [])
  | [], i, hd, hi => by
    have := done_of_drop hd
    obtain rfl : i = (cellsR m).length := by omega
    exact gm2_end m hm fn n r (Nat.le_refl _)
  | t :: rest, i, hd, hi => by
    have hlt := lt_of_drop hd
    have hl := cells_le m hm
    have ih := gm2 m hm fn n r rest (i + 1) (drop_next hd) (by omega)
    have hp := posAt_self (cellsR_nodup m) hd
    have hx := idx_cell m hd
    have hk := cells_kind (m := m) (List.mem_of_mem_drop (by rw [hd]; simp : t ∈ (cellsR m).drop i))
    obtain ⟨a, b, c⟩ := t
    dsimp only at hk hx
    have e1 : ∀ (h0 : H) (id : Int), run w0 23 [.agg (mapV m), N .i64 b, .agg [N .u8 a, N .i64 id]] h0 = _ := fun h0 id => gmObject_spec m hm b ⟨a, id⟩ h0
    have e2 : ∀ h0 : H, run w0 24 [.agg (mapV m), N .i64 (i : Int)] h0 = _ := fun h0 => gmFunction_spec m hm i h0
    have hw : IntKind.wrap .i64 ((i : Int) + 1) = ((i + 1 : Nat) : Int) := by rw [show ((i : Nat) : Int) + 1 = ((i + 1 : Nat) : Int) by omega, wrap_i64 (by omega) (by omega)]
    unfold GM2 at ih ⊢
    rw [GenMaps_2_eq, if_pos (decide_eq_true (by omega)), elem_next Thing.F_len hd]
    simp only [Thing.F, List.cons_append, List.nil_append, atI_zero, atI_succ]
    rw [hw, ih]
    by_cases h3 : a = 3
    · have hc : c = 0 := by omega
      subst h3 hc
      rw [if_pos rfl] at hx
      have ho : ofR b ⟨3, b⟩ = (3, b, 0) := by unfold ofR; rfl
      rw [if_pos (by rfl), if_pos (by rfl), e1, pI_some, ho, hp, if_pos (by simp), e2, pI_some, hx, if_neg (by simp)]
    · rw [if_neg h3] at hx
      have ho : ofR b ⟨a, c⟩ = (a, b, c) := by
        unfold ofR
        dsimp only
        by_cases h2 : a = 2
        · have hb : b = 0 := by omega
          subst h2 hb; rfl
        · rw [if_neg h2, if_neg h3]
      rw [if_neg (by simpa using h3), if_neg (by simpa using h3), e1, pI_some, ho, hp, if_pos (by simp), e2, pI_some, hx, if_neg (by simp)]
theorem GenMaps_law (g f e : Nat) (hg : g < 256) (hf : f < 256) (he : e < 256) (acts : List MAct) (hx : ∀ x ∈ acts, x.ok) (fn n : Int) (r : MRef) : GenMaps_0 g f e acts.length (actsF acts) fn r.k r.id n = some (.ret (B true), []) := by
  rw [GenMaps_eq, gawake_spec, pB_some, if_pos (show (!true) = false from rfl)]
  by_cases hn : acts.length ≤ 20
  · have hc := make_check g f e acts (by omega)
    rw [if_neg (by simp; omega), make_go g f e hg hf he acts (by omega) hx]
    generalize makeM g f e acts = m at hc
    have hm := (okG_of (check_tree hc)).1
    have e1 : ∀ h0 : H, run w0 15 [.agg [.f (.lst m.strings.length (sF m.strings)), .f (.lst m.globals.length (kF .i64 m.globals)), .f (.lst m.funcs.length (funsF m.funcs)), .f (.lst m.entries.length (kF .i64 m.entries))]] h0 = _ := fun h0 => gNewMap_spec m hm h0
    have e2 : ∀ h0 : H, run w0 16 [.agg [.f (.lst m.strings.length (sF m.strings)), .f (.lst m.globals.length (kF .i64 m.globals)), .f (.lst m.funcs.length (funsF m.funcs)), .f (.lst m.entries.length (kF .i64 m.entries))]] h0 = _ := fun h0 => qVars_spec m hm h0
    have e3 : ∀ h0 : H, run w0 17 [.agg [.f (.lst m.strings.length (sF m.strings)), .f (.lst m.globals.length (kF .i64 m.globals)), .f (.lst m.funcs.length (funsF m.funcs)), .f (.lst m.entries.length (kF .i64 m.entries))]] h0 = _ := fun h0 => qCells_spec m hm h0
    have e4 : ∀ h0 : H, run w0 18 [.agg (mapV m)] h0 = _ := fun h0 => gmVars_spec m h0
    have e5 : ∀ h0 : H, run w0 19 [.agg (mapV m)] h0 = _ := fun h0 => gmCells_spec m h0
    have hgo : ∀ (h0 : H) (K : Nat → List F → Nat → List F → Nat → List F → Nat → List F → Nat → List F → Nat → List F → Int → Int → R), (pA (run w0 15 [.agg [.f (.lst m.strings.length (sF m.strings)), .f (.lst m.globals.length (kF .i64 m.globals)), .f (.lst m.funcs.length (funsF m.funcs)), .f (.lst m.entries.length (kF .i64 m.entries))]] h0) fun l => cL l 0 fun m18 c18 => cL l 1 fun m19 c19 => cL l 2 fun m20 c20 => cL l 3 fun m21 c21 => cL l 4 fun m22 c22 => cL l 5 fun m23 c23 => cI .i64 l 6 fun n24 => cI .i64 l 7 fun n25 => if l.length = 8 then K m18 c18 m19 c19 m20 c20 m21 c21 m22 c22 m23 c23 n24 n25 else none) = K m.strings.length (sF m.strings) m.globals.length (kF .i64 m.globals) m.funcs.length (funsF m.funcs) m.entries.length (kF .i64 m.entries) (firstsR m).length (kF .i64 (firstsR m)) (firstsR m).length (kF .i64 (firstsR m)) (allR m) (allR m) := fun h0 K => by
      rw [e1, pA_some]
      simp [cL, cI, V.lst?, V.int?, V.f?, F.lst?, F.int?]
    rw [hgo, e2, pL_some, e3, pL_some, e4, pI_some, allR_len, if_pos (by simp), e5, pI_some, allR_lenC, if_neg (by simp)]
    have h1 := gm1 m hm fn n r (varsR m) 0 rfl (by omega)
    have h2 := gm2 m hm fn n r (cellsR m) 0 rfl (by omega)
    unfold GM1 at h1
    rw [allR_len, allR_lenC] at h1
    exact h1.trans h2
  · rw [if_pos (by simp; omega), pB_some]
set_option maxRecDepth 100000 in
theorem GenMaps_all (l : List (List F)) (h : Args Try.prog Try.f7.params.toList l) : ∃ h', run w0 7 (argVs Try.prog Try.f7.params.toList l) [] = some (.ret (B true), h') := by
  obtain ⟨x1, l1, rfl, h1, h⟩ := h.cons_inv
  obtain ⟨x2, l2, rfl, h2, h⟩ := h.cons_inv
  obtain ⟨x3, l3, rfl, h3, h⟩ := h.cons_inv
  obtain ⟨x4, l4, rfl, h4, h⟩ := h.cons_inv
  obtain rfl := h.nil_inv
  obtain ⟨g, f, e, acts, rfl, hg, hf, he, _, hx⟩ := draft_of h1
  obtain ⟨fn, rfl, _⟩ := h2.of_int (k := .i64) (by kernel_rfl)
  obtain ⟨r, rfl, _⟩ := ref_of h3
  obtain ⟨n, rfl, _⟩ := h4.of_int (k := .i64) (by kernel_rfl)
  have h : run w0 7 [.agg [N .u8 g, N .u8 f, N .u8 e, .f (.lst acts.length (actsF acts))], N .i64 fn, .agg [N .u8 r.k, N .i64 r.id], N .i64 n] [] = some (.ret (B true), []) := by rw [GenMaps_run, GenMaps_law g f e hg hf he acts hx fn n r, withH_true]
  exact ⟨[], h⟩
end Go.Proofs.Ytlddnplflakmiaa
