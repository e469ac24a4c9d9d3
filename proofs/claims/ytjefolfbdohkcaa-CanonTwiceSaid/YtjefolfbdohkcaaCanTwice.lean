/-
  canon of what is canonical: the law.
-/
import Derived.Test.YtjefolfbdohkcaaCanLaw
set_option autoImplicit false
set_option linter.unusedVariables false
set_option linter.unusedSimpArgs false
namespace Go.Proofs.Ytjefolfbdohkcaa
open Go Go.Abs
/-! ### other strings behind -/
def addM (m : Abs.Mod) (more : List ByteArray) : Abs.Mod := ⟨m.strings ++ more, m.globals, m.funcs, m.entries⟩
theorem addM_eq (m : Abs.Mod) (more : List ByteArray) : addM m more = saidM (m.strings ++ more) id m := by
  have : mapF id = id := by funext f; cases f; simp [mapF]
  simp [addM, saidM, this]
theorem add_same {m : Abs.Mod} (more : List ByteArray) {x : Int} (h : 0 ≤ x ∧ x < m.strings.length) : SameAt (m.strings ++ more) m.strings id x :=
  ⟨h.1, h.1, by rw [id]; exact List.getElem?_append_left (by omega)⟩
theorem add_tree {m : Abs.Mod} (hu : ∀ x ∈ usedR m, 0 ≤ x ∧ x < m.strings.length) (more : List ByteArray) : treeR (addM m more) = treeR m := by
  rw [addM_eq]; exact mv_tree fun x hx => add_same more (hu x hx)
theorem add_canon {m : Abs.Mod} (hu : ∀ x ∈ usedR m, 0 ≤ x ∧ x < m.strings.length) (more : List ByteArray) : canonM (addM m more) = canonM m := by
  rw [addM_eq]; exact mv_canon (fun x hx => add_same more (hu x hx)) hu
theorem add_ok {m : Abs.Mod} (hm : okC m) (hS : m.strings.length ≤ 5000) {more : List ByteArray} (hmo : more.length ≤ 10) : okC (addM m more) := by
  obtain ⟨hs, hg, hf, he, hfs⟩ := hm
  exact ⟨by simp [addM]; omega, hg, hf, he, hfs⟩
/-! ### a cut by shapes -/
theorem val_ref {h hk : H} {tk : List Nat} {i off n es : Nat} {x : F} (e : frz hk (999999 + 1) (.ref i off n es) = some x) (nh : H) (us : List Nat) (k : V → H → List Nat → R) :
    canonK h hk tk .val (.ref i off n es) nh us k = k (.f x) nh us := by
  unfold canonK
  rw [if_neg (by simp [flat])]
  unfold frz1K
  cases hi : hk[i]? with
  | none => simp [frz, hi] at e
  | some o =>
    cases o with
    | fz cs =>
      simp only [frz, hi] at e ⊢
      split at e
      · rename_i q; cases e; rw [if_pos q]
      · cases e
    | cells cs =>
      have e' : frzArg hk (.ref i off n es) = some (.f x) := by
        show (frz hk 1000000 _).map V.f = _
        rw [show 1000000 = 999999 + 1 from rfl, e]; rfl
      simp only [hi, e', Option.bind_some]
    | _ => simp [frz, hi] at e
theorem funs_frz {h : H} {n : Nat} {v : V} {M : Abs.Mod} (hs : Said h n v M) (hf : M.funcs.length ≤ 100000) : frz h (999999 + 1) (.ref (n + 5) 0 M.funcs.length 5) = some (.lst M.funcs.length (funsF M.funcs)) := by
  obtain ⟨o, h1, h2⟩ := hs.f
  have hr := frz_rows M.funcs hs.o M.funcs 0 999999 rfl (by omega)
  have hlen : (rowsV (n + 6) 0 M.funcs).length = M.funcs.length * 5 := rowsV_len _ _ _
  have hff : (funsF M.funcs).length = M.funcs.length * 5 := flat_len MFun.F_len _
  cases o with
  | cells cs =>
    cases h2
    simp only [frz, h1]
    rw [if_pos (by omega), List.drop_zero, List.take_of_length_le (by omega), hr]
    rfl
  | fz zs =>
    cases hm : M.funcs with
    | nil =>
      have hz : zs = [] := by
        have h3 : zs.map V.f = rowsV (n + 6) 0 M.funcs := Option.some.inj h2
        rw [hm] at h3
        exact List.map_eq_nil_iff.1 h3
      subst hz
      simp only [frz, h1]
      rfl
    | cons f r =>
      have := rows_cells (i := 0) h2 (by rw [List.drop_zero]; exact hm)
      cases this
  | _ => cases h2
/-- a module that one owns: frozen, cell by cell -/
theorem cut_said {h hk : H} {tk : List Nat} {n : Nat} {v : V} {M : Abs.Mod} (hs : Said hk n v M) (hf : M.funcs.length ≤ 100000) (nh : H) (us : List Nat) (k : List V → H → List Nat → R) :
    canonsK h hk tk [.val, .val, .val, .val] (saidV n v M) nh us k = k (modV M) nh us := by
  have e1 : ∀ nh us (k : V → H → List Nat → R), canonK h hk tk .val v nh us k = k (.f (.lst M.strings.length (sF M.strings))) nh us := by
    intro nh us k
    rcases hs.s with ⟨a, rfl⟩ | ⟨kA, cs, rfl, b, c⟩
    · rw [a]; rfl
    · exact val_ref (row1_frz (.inr ⟨kA, cs, rfl, b, c⟩) 999999) nh us k
  have e2 : frz hk (999999 + 1) (.ref (n + 3) 0 M.globals.length 1) = some (.lst M.globals.length (kF .i64 M.globals)) := by
    have := frz_ref1 hs.g (n := M.globals.length) (by simp) 999999
    rwa [List.take_of_length_le (by simp)] at this
  have e4 : frz hk (999999 + 1) (.ref (n + 4) 0 M.entries.length 1) = some (.lst M.entries.length (kF .i64 M.entries)) := by
    have := frz_ref1 hs.e (n := M.entries.length) (by simp) 999999
    rwa [List.take_of_length_le (by simp)] at this
  unfold saidV
  rw [canonsK, e1, canonsK, val_ref e2, canonsK, val_ref (funs_frz hs hf), canonsK, val_ref e4]
  rfl
theorem box_K {h hk : H} {tk us : List Nat} {i : Nat} {l : List Sh} {cs cs' : List V} (h1 : h[i]? = some (.cells cs)) (h2 : tk.contains i = true) (h3 : us.contains i = false) (e : ∀ (nh : H) (us : List Nat) (k : List V → H → List Nat → R), canonsK h hk tk l cs nh us k = k cs' nh us) (nh : H) (k : V → H → List Nat → R) :
    canonK h hk tk (.box l) (.ptr i 0) nh us k = k (.ptr nh.length 0) (nh ++ [.cells cs']) (i :: us) := by
  have q : tk.contains i = true ∧ (!us.contains i) = true := ⟨h2, by rw [h3]; rfl⟩
  unfold canonK
  simp only [h1, if_pos q]
  rw [e]
  simp
theorem val_f (h hk : H) (tk : List Nat) (x : F) (nh : H) (us : List Nat) (k : V → H → List Nat → R) : canonK h hk tk .val (.f x) nh us k = k (.f x) nh us := rfl
theorem cut_mod (h hk : H) (tk : List Nat) (M : Abs.Mod) (nh : H) (us : List Nat) (k : List V → H → List Nat → R) : canonsK h hk tk [.val, .val, .val, .val] (modV M) nh us k = k (modV M) nh us := rfl
theorem cut_ok (h hk : H) (tk : List Nat) (nh : H) (us : List Nat) (k : List V → H → List Nat → R) : canonsK h hk tk [.val, .val, .val, .val, .val, .val, .val] okV nh us k = k okV nh us := rfl
theorem takes_box4 {h : H} {i : Nat} {cs : List V} (h1 : h[i]? = some (.cells cs)) (hc : cs.length = 4) : takes h (.box [.val, .val, .val, .val]) (.ptr i 0) = [i] := by
  obtain ⟨a, b, c, d, rfl⟩ : ∃ a b c d, cs = [a, b, c, d] := by
    match cs, hc with
    | [a, b, c, d], _ => exact ⟨a, b, c, d, rfl⟩
  simp [takes, h1, takes.takesL]
theorem takes_ok {h : H} {i : Nat} (h1 : h[i]? = some (.cells okV)) : takes h (.box [.val, .val, .val, .val, .val, .val, .val]) (.ptr i 0) = [i] := by
  simp [takes, h1, okV, takes.takesL]
/-- what isn't taken over stays -/
theorem hk_get {h : H} {tk : List Nat} {j : Nat} {o : Ob} (e : h[j]? = some o) (hl : o.isLent = false) (ht : tk.contains j = false) : (kill tk 0 (noLent h))[j]? = some o := by
  rw [kill_get, noLent_get, e]
  simp only [Option.map_some, Nat.zero_add, hl, ht]
  rfl
theorem Said.hk {h hk : H} {n : Nat} {v : V} {M : Abs.Mod} (x : Said h n v M) (e1 : ∀ (j : Nat) (cs : List F), h[j]? = some (.fz cs) → hk[j]? = some (.fz cs)) (e2 : ∀ (j : Nat) (o : Ob), 3 ≤ j → h[j]? = some o → o.isLent = false → hk[j]? = some o) : Said hk n v M :=
  ⟨by rcases x.s with ⟨a, b⟩ | ⟨kA, cs, a, b, c⟩
      · exact .inl ⟨a, b⟩
      · exact .inr ⟨kA, cs, a, e1 _ _ b, c⟩, e1 _ _ x.g, e1 _ _ x.e, by
        obtain ⟨o, a, b⟩ := x.f
        exact ⟨o, e2 _ _ (by omega) a (by cases o <;> first | rfl | cases b), b⟩, fun j f q => by obtain ⟨a, b⟩ := x.o j f q; exact ⟨e1 _ _ a, e1 _ _ b⟩⟩
end Go.Proofs.Ytjefolfbdohkcaa
namespace Go.Proofs.Ytjefolfbdohkcaa
open Go Go.Abs
theorem ap_nz {c : Nat} {l : List F} (hl : l.length = c) (hb : c ≤ 1000000) (h : H) (K : V → H → R) : append Try.prog 25 25 nilS (.f (.lst c l)) h K = K (.ref h.length 0 c 1) (h ++ [.fz l]) := by
  obtain ⟨z, hz⟩ := Option.isSome_iff_exists.1 el25.zc
  unfold append
  simp only [el25.el, el25.sz, el25.by', hz, Option.bind_some, u25]
  unfold appF
  rw [if_pos ⟨by omega, by omega, by omega⟩]
  exact if_pos (by omega)
theorem new_with (h : H) (a b c d v : V) (hv : cellsOf v = some [v]) (K : Nat → H → R) :
    (newO (.cells [nilS, nilS, nilS, nilS]) h fun k h1 => stL (.ptr k 0) [a, b, c, d] 4 h1 fun h2 => stV (.ptr k 0) v 1 h2 fun h3 => K k h3) = K h.length (h ++ [.cells [v, b, c, d]]) := by
  have g : ∀ x : Ob, (h ++ [x])[h.length]? = some x := fun x => by simp
  have s : ∀ x y : Ob, (h ++ [x]).set h.length y = h ++ [y] := fun x y => by simp
  rw [newO_eq, stL_c (off := 0) (l := [a, b, c, d]) (n := 4) (g _) rfl (by simp), s, stV_c (off := 0) (n := 1) hv (g _) rfl (by simp [splice]), s]
  rfl
section
variable {m : Abs.Mod} (hm : okC m) (ha : argsOk m) (htr : treeR m = none) (hS : m.strings.length ≤ 5000) (hfix : canonM m = m) {more : List ByteArray} (hmo : more.length ≤ 10)
include hm ha htr hS hfix hmo
theorem twice_3 : CanonTwice_2 0 0 1 0 2 0 3 0 4 0 [.cells (modV m), .cells okV, .cells (modV m), .cells okV, .cells (modV (addM m more))] = some (.ret (B true), []) := by
  have hu := (tree_used htr).2
  have hfl : m.funcs.length ≤ 100000 := by have := hm.2.2.1; omega
  rw [CanonTwice_2_eq]
  simp only [Nat.add_zero]
  rw [gA_c (k := 4) (off := 0) (cs := modV (addM m more)) rfl (by simp [modV]), modV_take]
  obtain ⟨h1, v1, a1, a2, a3⟩ := canonOf_said (argM_mod (addM m more)) (add_ok hm hS hmo) (m := addM m more) ha (by rw [add_tree hu]; exact htr) [.cells (modV m), .cells okV, .cells (modV m), .cells okV, .cells (modV (addM m more))]
  rw [add_canon hu, hfix] at a1 a2
  rw [a1, kV_some]
  simp only [tpV_tup, List.getElem?_cons_zero, List.getElem?_cons_succ, Option.bind_some]
  rw [got h1 (saidV_len _ _ _) rfl]
  have b0 := get_app (a3.get (k := 0) rfl) [Ob.cells (saidV ([Ob.cells (modV m), .cells okV, .cells (modV m), .cells okV, .cells (modV (addM m more))].length + 4) v1 m), Ob.cells okV]
  have b1 := get_app (a3.get (k := 1) rfl) [Ob.cells (saidV ([Ob.cells (modV m), .cells okV, .cells (modV m), .cells okV, .cells (modV (addM m more))].length + 4) v1 m), Ob.cells okV]
  have b2 := get_app (a3.get (k := 2) rfl) [Ob.cells (saidV ([Ob.cells (modV m), .cells okV, .cells (modV m), .cells okV, .cells (modV (addM m more))].length + 4) v1 m), Ob.cells okV]
  have b3 := get_app (a3.get (k := 3) rfl) [Ob.cells (saidV ([Ob.cells (modV m), .cells okV, .cells (modV m), .cells okV, .cells (modV (addM m more))].length + 4) v1 m), Ob.cells okV]
  have d0 := got0 h1 (Ob.cells (saidV ([Ob.cells (modV m), .cells okV, .cells (modV m), .cells okV, .cells (modV (addM m more))].length + 4) v1 m)) (Ob.cells okV)
  have d1 := got1 h1 (Ob.cells (saidV ([Ob.cells (modV m), .cells okV, .cells (modV m), .cells okV, .cells (modV (addM m more))].length + 4) v1 m)) (Ob.cells okV)
  have s1 := a2.app [Ob.cells (saidV ([Ob.cells (modV m), .cells okV, .cells (modV m), .cells okV, .cells (modV (addM m more))].length + 4) v1 m), Ob.cells okV]
  generalize h1 ++ [Ob.cells (saidV ([Ob.cells (modV m), .cells okV, .cells (modV m), .cells okV, .cells (modV (addM m more))].length + 4) v1 m), Ob.cells okV] = h2 at b0 b1 b2 b3 d0 d1 s1
  rw [gI_c (i := 0) b1 rfl, if_pos (by rfl), gI_c (i := 0) b3 rfl, if_pos (by rfl), gI_c (i := 0) d1 rfl, if_pos (by rfl)]
  rw [gA_c b0 (by simp [modV]), modV_take, gA_c b2 (by simp [modV]), modV_take]
  rw [same_any hm h2 (mod_frz h2 m) (mod_frz h2 m), xB_some, if_pos rfl]
  rw [gA_c b0 (by simp [modV]), modV_take, gA_c d0 (by simp [saidV]), saidV_take]
  rw [same_any hm h2 (mod_frz h2 m) (said_frz s1 hfl), xB_some]
omit ha htr hS hfix hmo in
theorem cut_2 {h1 : H} {v1 : V} {K : List (Nat × V) → H → R} {n : Nat} (hb : 2 ≤ h1.length) (s1 : Said h1 n v1 m) (b0 : h1[0]? = some (.cells (modV m))) (b1 : h1[1]? = some (.cells okV)) :
    cutK (h1 ++ [.cells (saidV n v1 m), .cells okV, .dead, .fz (sF (m.strings ++ more)), .cells [.ref (h1.length + 3) 0 (m.strings.length + more.length) 1, .f (.lst m.globals.length (kF .i64 m.globals)), .f (.lst m.funcs.length (funsF m.funcs)), .f (.lst m.entries.length (kF .i64 m.entries))]])
      [(7, .box [.val, .val, .val, .val], .ptr 0 0), (8, .box [.val, .val, .val, .val, .val, .val, .val], .ptr 1 0), (9, .box [.val, .val, .val, .val], .ptr h1.length 0), (10, .box [.val, .val, .val, .val, .val, .val, .val], .ptr (h1.length + 1) 0), (12, .box [.val, .val, .val, .val], .ptr (h1.length + 4) 0)] K =
    K [(7, .ptr 0 0), (8, .ptr 1 0), (9, .ptr 2 0), (10, .ptr 3 0), (12, .ptr 4 0)] [.cells (modV m), .cells okV, .cells (modV m), .cells okV, .cells (modV (addM m more))] := by
  have hfl : m.funcs.length ≤ 100000 := by have := hm.2.2.1; omega
  let zv : List V := [.ref (h1.length + 3) 0 (m.strings.length + more.length) 1, .f (.lst m.globals.length (kF .i64 m.globals)), .f (.lst m.funcs.length (funsF m.funcs)), .f (.lst m.entries.length (kF .i64 m.entries))]
  let T : H := [.cells (saidV n v1 m), .cells okV, .dead, .fz (sF (m.strings ++ more)), .cells zv]
  show cutK (h1 ++ T) _ K = _
  have c0 : (h1 ++ T)[0]? = some (.cells (modV m)) := get_app b0 _
  have c1 : (h1 ++ T)[1]? = some (.cells okV) := get_app b1 _
  have c2 : (h1 ++ T)[h1.length]? = some (.cells (saidV n v1 m)) := by simp [T]
  have c3 : (h1 ++ T)[h1.length + 1]? = some (.cells okV) := by rw [get_tail]; rfl
  have c4 : (h1 ++ T)[h1.length + 4]? = some (.cells zv) := by rw [get_tail]; rfl
  have c5 : (h1 ++ T)[h1.length + 3]? = some (.fz (sF (m.strings ++ more))) := by rw [get_tail]; rfl
  unfold cutK
  simp only [List.flatMap_cons, List.flatMap_nil]
  rw [takes_box4 c0 rfl, takes_ok c1, takes_box4 c2 rfl, takes_ok c3, takes_box4 c4 rfl]
  simp only [List.cons_append, List.nil_append, List.append_nil]
  let tk : List Nat := [0, 1, h1.length, h1.length + 1, h1.length + 4]
  show canonLK (h1 ++ T) (kill tk 0 (noLent (h1 ++ T))) tk _ _ _ K = _
  have kp : ∀ (j : Nat) (o : Ob), (h1 ++ T)[j]? = some o → o.isLent = false → tk.contains j = false → (kill tk 0 (noLent (h1 ++ T)))[j]? = some o := fun j o e hl ht => hk_get e hl ht
  have ntk : ∀ j, 2 ≤ j → j < h1.length → tk.contains j = false := fun j h2 h3 => by
    simp only [tk, List.contains_eq_mem, List.mem_cons, List.not_mem_nil, or_false, decide_eq_false_iff_not]; omega
  have hs : Said (kill tk 0 (noLent (h1 ++ T))) n v1 m := s1.hk (fun j cs e => by
    have hj := get_lt e
    have h0 : j ≠ 0 := fun q => by subst q; rw [b0] at e; cases e
    have h1' : j ≠ 1 := fun q => by subst q; rw [b1] at e; cases e
    exact kp j _ (get_app e _) rfl (ntk j (by omega) hj)) (fun j o h3 e hl => kp j o (get_app e _) hl (ntk j (by omega) (get_lt e)))
  have hz : frz (kill tk 0 (noLent (h1 ++ T))) (999999 + 1) (.ref (h1.length + 3) 0 (m.strings.length + more.length) 1) = some (.lst (m.strings ++ more).length (sF (m.strings ++ more))) := by
    have := frz_ref1 (kp _ _ c5 rfl (by simp only [tk, List.contains_eq_mem, List.mem_cons, List.not_mem_nil, or_false, decide_eq_false_iff_not]; omega)) (n := (m.strings ++ more).length) (by simp) 999999
    rw [List.take_of_length_le (by simp)] at this
    rw [← this, List.length_append]
  have ez : ∀ (nh : H) (us : List Nat) (k : List V → H → List Nat → R), canonsK (h1 ++ T) (kill tk 0 (noLent (h1 ++ T))) tk [.val, .val, .val, .val] zv nh us k = k (modV (addM m more)) nh us := by
    intro nh us k
    show canonsK _ _ _ _ [.ref (h1.length + 3) 0 (m.strings.length + more.length) 1, _, _, _] _ _ _ = _
    rw [canonsK, val_ref hz]
    rfl
  have tc : ∀ j, (j = 0 ∨ j = 1 ∨ j = h1.length ∨ j = h1.length + 1 ∨ j = h1.length + 4) → tk.contains j = true := fun j h => by
    simp only [tk, List.contains_eq_mem, List.mem_cons, List.not_mem_nil, or_false, decide_eq_true_iff]; exact h
  have uc : ∀ (l : List Nat) (j : Nat), (∀ x ∈ l, x ≠ j) → l.contains j = false := fun l j h => by
    simp only [List.contains_eq_mem, decide_eq_false_iff_not]; exact fun q => h j q rfl
  rw [canonLK, box_K c0 (tc _ (by simp)) (uc _ _ (by simp)) (fun nh us k => cut_mod _ _ _ m nh us k)]
  rw [canonLK, box_K c1 (tc _ (by simp)) (uc _ _ (by simp)) (fun nh us k => cut_ok _ _ _ nh us k)]
  rw [canonLK, box_K c2 (tc _ (by simp)) (uc _ _ (by intro x hx; simp at hx; omega)) (fun nh us k => cut_said hs hfl nh us k)]
  rw [canonLK, box_K c3 (tc _ (by simp)) (uc _ _ (by intro x hx; simp at hx; omega)) (fun nh us k => cut_ok _ _ _ nh us k)]
  rw [canonLK, box_K c4 (tc _ (by simp)) (uc _ _ (by intro x hx; simp at hx; omega)) ez]
  rw [canonLK]
  simp only [List.nil_append, List.cons_append, List.length_nil, List.length_cons, Nat.zero_add, Nat.reduceAdd]
theorem twice_2 : CanonTwice_1 (.f (.lst more.length (sF more))) 0 0 1 0 [.cells (modV m), .cells okV] = some (.ret (B true), []) := by
  have hfl : m.funcs.length ≤ 100000 := by have := hm.2.2.1; omega
  rw [CanonTwice_1_eq]
  simp only [Nat.add_zero]
  rw [gA_c (k := 0) (off := 0) (cs := modV m) rfl (by simp [modV]), modV_take]
  obtain ⟨h1, v1, a1, a2, a3⟩ := canonOf_said (argM_mod m) hm ha htr [.cells (modV m), .cells okV]
  rw [hfix] at a1 a2
  rw [a1, kV_some]
  simp only [tpV_tup, List.getElem?_cons_zero, List.getElem?_cons_succ, Option.bind_some]
  rw [got h1 (saidV_len _ _ _) rfl]
  have b0 := a3.get (k := 0) rfl
  have b1 := a3.get (k := 1) rfl
  generalize hn : [Ob.cells (modV m), .cells okV].length + 4 = n at a2
  have c0 := get_app b0 [Ob.cells (saidV n v1 m), Ob.cells okV]
  rw [gL_c c0 (v := .f (.lst m.strings.length (sF m.strings))) rfl, coeSl_lst, ap_nz (by simp) (by omega)]
  rw [append_z el25 u25 (c := more.length) (l := sF more) (by simp) (get_new _ _) (by simp) (by omega)]
  have e1 : (h1 ++ [Ob.cells (saidV n v1 m), .cells okV] ++ [Ob.fz (sF m.strings)]).set (h1 ++ [Ob.cells (saidV n v1 m), .cells okV]).length .dead ++ [Ob.fz (((sF m.strings).drop 0).take (m.strings.length * 1) ++ sF more)] = h1 ++ [Ob.cells (saidV n v1 m), .cells okV, .dead, .fz (sF (m.strings ++ more))] := by
    rw [List.set_append_right _ _ (by omega), Nat.sub_self, List.drop_zero, List.take_of_length_le (by simp)]
    simp [sF]
  rw [e1]
  have c1 := get_app b0 [Ob.cells (saidV n v1 m), .cells okV, .dead, .fz (sF (m.strings ++ more))]
  rw [gA_c c1 (by simp [modV]), modV_take]
  rw [show modV m = [.f (.lst m.strings.length (sF m.strings)), .f (.lst m.globals.length (kF .i64 m.globals)), .f (.lst m.funcs.length (funsF m.funcs)), .f (.lst m.entries.length (kF .i64 m.entries))] from rfl]
  rw [new_with _ _ _ _ _ _ rfl]
  simp only [List.append_assoc, List.cons_append, List.nil_append, List.length_append, List.length_cons, List.length_nil, Nat.add_assoc, Nat.reduceAdd]
  rw [cut_2 hm (by have := get_lt b1; omega) a2 b0 b1]
  exact twice_3 hm ha htr hS hfix hmo
end
theorem cut_1 {m : Abs.Mod} (hfl : m.funcs.length ≤ 100000) {h1 : H} {v1 : V} {x : F} {K : List (Nat × V) → H → R} {n : Nat} (s1 : Said h1 n v1 m) :
    cutK (h1 ++ [.cells (saidV n v1 m), .cells okV]) [(1, .val, .f x), (7, .box [.val, .val, .val, .val], .ptr h1.length 0), (8, .box [.val, .val, .val, .val, .val, .val, .val], .ptr (h1.length + 1) 0)] K =
    K [(1, .f x), (7, .ptr 0 0), (8, .ptr 1 0)] [.cells (modV m), .cells okV] := by
  let T : H := [.cells (saidV n v1 m), .cells okV]
  show cutK (h1 ++ T) _ K = _
  have c2 : (h1 ++ T)[h1.length]? = some (.cells (saidV n v1 m)) := by simp [T]
  have c3 : (h1 ++ T)[h1.length + 1]? = some (.cells okV) := by rw [get_tail]; rfl
  unfold cutK
  simp only [List.flatMap_cons, List.flatMap_nil]
  rw [takes_box4 c2 rfl, takes_ok c3, show takes (h1 ++ T) .val (.f x) = [] from rfl]
  simp only [List.cons_append, List.nil_append, List.append_nil]
  let tk : List Nat := [h1.length, h1.length + 1]
  show canonLK (h1 ++ T) (kill tk 0 (noLent (h1 ++ T))) tk _ _ _ K = _
  have ntk : ∀ j, j < h1.length → tk.contains j = false := fun j h3 => by
    simp only [tk, List.contains_eq_mem, List.mem_cons, List.not_mem_nil, or_false, decide_eq_false_iff_not]; omega
  have hs : Said (kill tk 0 (noLent (h1 ++ T))) n v1 m := s1.hk (fun j cs e => hk_get (get_app e _) rfl (ntk j (get_lt e))) (fun j o h3 e hl => hk_get (get_app e _) hl (ntk j (get_lt e)))
  have uc : ∀ (l : List Nat) (j : Nat), (∀ x ∈ l, x ≠ j) → l.contains j = false := fun l j h => by
    simp only [List.contains_eq_mem, decide_eq_false_iff_not]; exact fun q => h j q rfl
  rw [canonLK, val_f]
  rw [canonLK, box_K c2 (by simp [tk]) (uc _ _ (by simp)) (fun nh us k => cut_said hs hfl nh us k)]
  rw [canonLK, box_K c3 (by simp [tk]) (uc _ _ (by simp)) (fun nh us k => cut_ok _ _ _ nh us k)]
  rw [canonLK]
  simp only [List.nil_append, List.cons_append, List.length_nil, List.length_cons, Nat.zero_add, Nat.reduceAdd]
theorem CanonTwice_law (g f e : Nat) (hg : g < 256) (hf : f < 256) (he : e < 256) (acts : List MAct) (hx : ∀ x ∈ acts, x.ok) (turn : Nat) (ht : turn < 256) (more : List ByteArray) :
    CanonTwice_0 g f e (.f (.lst acts.length (actsF acts))) (.f (.lst more.length (sF more))) turn = some (.ret (B true), []) := by
  rw [CanonTwice_eq]
  rw [newO_eq]
  simp only [List.nil_append, List.length_nil]
  rw [cawake_spec, xB_some, if_pos (by rfl)]
  rw [gL_c (k := 0) (cs := [N .u8 g, N .u8 f, N .u8 e, .f (.lst acts.length (actsF acts))]) rfl rfl]
  simp only [coeSl_lst, lnV_lst]
  by_cases hn : acts.length ≤ 60
  rotate_left
  · rw [if_neg (by simp; omega)]; rfl
  rw [if_pos (by simp; omega)]
  by_cases hmo : more.length ≤ 10
  rotate_left
  · rw [if_pos (by simp; omega)]; rfl
  rw [if_neg (by simp; omega)]
  rw [gA_c (k := 0) (cs := [N .u8 g, N .u8 f, N .u8 e, .f (.lst acts.length (actsF acts))]) rfl (by simp)]
  rw [show (List.drop 0 [N .u8 g, N .u8 f, N .u8 e, V.f (.lst acts.length (actsF acts))]).take 4 = [N .u8 g, N .u8 f, N .u8 e, .f (.lst acts.length (actsF acts))] from rfl]
  rw [mMake_spec g f e hg hf he acts hn hx, xA_some]
  have htr := make_tree g f e acts (by omega)
  have hst := make_sorted g f e acts
  have hsm := make_small g f e acts
  generalize makeM g f e acts = m at htr hst hsm
  obtain ⟨hm, ha⟩ := tree_small htr (by have := hsm.strings; omega)
  have hu := (tree_used htr).2
  have hfix := canon_stays hu hst
  have hS := hsm.strings
  clear hsm
  have okm2 := shuf_ok hm (by omega) turn hmo
  have argm2 := shuf_args ha turn more
  have trm2 : treeR (shufM m turn more) = none := by rw [shuf_tree hu]; exact htr
  have cm2 : canonM (shufM m turn more) = m := by rw [shuf_canon hu, hfix]
  rw [cL4]
  rw [show [V.f (.lst m.strings.length (sF m.strings)), V.f (.lst m.globals.length (kF .i64 m.globals)), V.f (.lst m.funcs.length (funsF m.funcs)), V.f (.lst m.entries.length (kF .i64 m.entries))] = modV m from rfl]
  rw [shuffled_spec hm hu ht hmo, xA_some, cL4]
  obtain ⟨h1, v1, a1, a2, a3⟩ := canonOf_said (argM_mod (shufM m turn more)) okm2 argm2 trm2 [.cells [N .u8 g, N .u8 f, N .u8 e, .f (.lst acts.length (actsF acts))]]
  rw [cm2] at a1 a2
  rw [show [V.f (.lst (shufM m turn more).strings.length (sF (shufM m turn more).strings)), V.f (.lst (shufM m turn more).globals.length (kF .i64 (shufM m turn more).globals)), V.f (.lst (shufM m turn more).funcs.length (funsF (shufM m turn more).funcs)), V.f (.lst (shufM m turn more).entries.length (kF .i64 (shufM m turn more).entries))] = modV (shufM m turn more) from rfl]
  rw [a1, kV_some]
  simp only [tpV_tup, List.getElem?_cons_zero, List.getElem?_cons_succ, Option.bind_some]
  rw [got h1 (saidV_len _ _ _) rfl, cut_1 (by have := hm.2.2.1; omega) a2]
  exact twice_2 hm ha htr (by omega) hfix hmo
set_option maxRecDepth 100000 in
theorem CanonTwice_all (l : List (List F)) (h : Args Try.prog Try.f6.params.toList l) : ∃ h', run w0 6 (argVs Try.prog Try.f6.params.toList l) [] = some (.ret (B true), h') := by
  obtain ⟨x1, l1, rfl, h1, h⟩ := h.cons_inv
  obtain ⟨x2, l2, rfl, h2, h⟩ := h.cons_inv
  obtain ⟨x3, l3, rfl, h3, h⟩ := h.cons_inv
  obtain rfl := h.nil_inv
  obtain ⟨g, f, e, acts, rfl, hg, hf, he, _, hx⟩ := draft_of h1
  obtain ⟨more, rfl, _, _⟩ := h2.of_strs (e := 9) (by kernel_rfl) (by kernel_rfl)
  obtain ⟨t, rfl, wt⟩ := h3.of_int (k := .u8) (by kernel_rfl)
  obtain ⟨t, rfl, ht⟩ := wf_u8 wt
  have h : run w0 6 [.agg [N .u8 g, N .u8 f, N .u8 e, .f (.lst acts.length (actsF acts))], .f (.lst more.length (sF more)), N .u8 t] [] = some (.ret (B true), []) := by
    rw [CanonTwice_run]
    show withH true [] (CanonTwice_0 g f e (.f (.lst acts.length (actsF acts))) (.f (.lst more.length (sF more))) t) = _
    rw [CanonTwice_law g f e hg hf he acts hx t ht more, withH_true]
  exact ⟨[], h⟩
end Go.Proofs.Ytjefolfbdohkcaa
