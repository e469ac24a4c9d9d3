/-
  canon of drafts: the law.
-/
import Derived.Test.YtjefolfbdohkcaaCanTurn
import Derived.Test.YtjefolfbdohkcaaDraftArgs
import Derived.Test.YtjefolfbdohkcaaCanSort
import Derived.Test.YtjefolfbdohkcaaAbsRowS
set_option autoImplicit false
set_option linter.unusedVariables false
set_option linter.unusedSimpArgs false
namespace Go.Proofs.Ytjefolfbdohkcaa
open Go Go.Abs
theorem Said.ext {h h' : H} {n : Nat} {v : V} {M : Abs.Mod} (x : Said h n v M) (e : Ext h h') : Said h' n v M :=
  ⟨by rcases x.s with ⟨a, b⟩ | ⟨kA, cs, a, b, c⟩
      · exact .inl ⟨a, b⟩
      · exact .inr ⟨kA, cs, a, e.get b, c⟩, e.get x.g, e.get x.e, by obtain ⟨o, a, b⟩ := x.f; exact ⟨o, e.get a, b⟩, fun j f q => by obtain ⟨a, b⟩ := x.o j f q; exact ⟨e.get a, e.get b⟩⟩
theorem saidV_len (n : Nat) (v : V) (M : Abs.Mod) : (saidV n v M).length = 4 := rfl
theorem saidV_take (n : Nat) (v : V) (M : Abs.Mod) : (List.drop 0 (saidV n v M)).take 4 = saidV n v M := rfl
theorem modV_take (m : Abs.Mod) : (List.drop 0 (modV m)).take 4 = modV m := rfl
theorem cL4 (m : Abs.Mod) (K : Nat → List F → Nat → List F → Nat → List F → Nat → List F → R) : (cL (modV m) 0 fun a b => cL (modV m) 1 fun c d => cL (modV m) 2 fun p q => cL (modV m) 3 fun r s => if (modV m).length = 4 then K a b c d p q r s else none) =
    K m.strings.length (sF m.strings) m.globals.length (kF .i64 m.globals) m.funcs.length (funsF m.funcs) m.entries.length (kF .i64 m.entries) := rfl
theorem CanonOf_law (g f e : Nat) (hg : g < 256) (hf : f < 256) (he : e < 256) (acts : List MAct) (hx : ∀ x ∈ acts, x.ok) (turn : Nat) (ht : turn < 256) (more : List ByteArray) :
    CanonOf_0 g f e (.f (.lst acts.length (actsF acts))) turn (.f (.lst more.length (sF more))) = some (.ret (B true), []) := by
  rw [CanonOf_eq]
  rw [newO_eq]
  simp only [List.nil_append, List.length_nil]
  rw [cawake_spec, xB_some, if_pos (by rfl)]
  rw [gL_c (k := 0) (cs := [N .u8 g, N .u8 f, N .u8 e, .f (.lst acts.length (actsF acts))]) rfl rfl]
  simp only [coeSl_lst, lnV_lst]
  by_cases hn : acts.length ≤ 60
  rotate_left
  · rw [if_neg (by simp; omega)]; rfl
  rw [if_pos (by simp; omega)]
  by_cases hmo : more.length ≤ 10
  rotate_left
  · rw [if_pos (by simp; omega)]; rfl
  rw [if_neg (by simp; omega)]
  rw [gA_c (k := 0) (cs := [N .u8 g, N .u8 f, N .u8 e, .f (.lst acts.length (actsF acts))]) rfl (by simp)]
  rw [show (List.drop 0 [N .u8 g, N .u8 f, N .u8 e, V.f (.lst acts.length (actsF acts))]).take 4 = [N .u8 g, N .u8 f, N .u8 e, .f (.lst acts.length (actsF acts))] from rfl]
  rw [mMake_spec g f e hg hf he acts hn hx, xA_some]
  have hck := make_check g f e acts (by omega)
  have htr := make_tree g f e acts (by omega)
  have hst := make_sorted g f e acts
  have hsm := make_small g f e acts
  generalize makeM g f e acts = m at hck htr hst hsm
  obtain ⟨hm, ha⟩ := tree_small htr (by have := hsm.strings; omega)
  have hu := (tree_used htr).2
  have hfix := canon_stays hu hst
  have hS := hsm.strings
  clear hsm
  -- the shuffled one
  have okm2 := shuf_ok hm (by omega) turn hmo
  have argm2 := shuf_args ha turn more
  have trm2 : treeR (shufM m turn more) = none := by rw [shuf_tree hu]; exact htr
  have cm2 : canonM (shufM m turn more) = m := by rw [shuf_canon hu, hfix]
  rw [cL4, newO_eq]
  let D : Ob := .cells [N .u8 g, N .u8 f, N .u8 e, .f (.lst acts.length (actsF acts))]
  simp only [List.cons_append, List.nil_append, List.length_cons, List.length_nil, Nat.zero_add]
  rw [stC_c (k := 1) (off := 0) (cs := [nilS, nilS, nilS, nilS]) rfl (by simp)]
  rw [show (([D, Ob.cells [nilS, nilS, nilS, nilS]] : H).set 1 (.cells (splice [nilS, nilS, nilS, nilS] 0 [V.f (.lst m.strings.length (sF m.strings)), V.f (.lst m.globals.length (kF .i64 m.globals)), V.f (.lst m.funcs.length (funsF m.funcs)), V.f (.lst m.entries.length (kF .i64 m.entries))]))) = [D, .cells (modV m)] from rfl]
  rw [gA_c (k := 1) (cs := modV m) rfl (by simp [modV]), modV_take]
  obtain ⟨h1, v1, a1, a2, a3⟩ := canonOf_said (argM_mod m) hm ha htr [D, .cells (modV m)]
  rw [hfix] at a1 a2
  rw [a1, kV_some]
  simp only [tpV_tup, List.getElem?_cons_zero, List.getElem?_cons_succ, Option.bind_some]
  rw [got h1 (saidV_len _ _ _) rfl]
  let h2 : H := h1 ++ [.cells (saidV ([D, Ob.cells (modV m)].length + 4) v1 m), .cells okV]
  have x2 : Ext [D, .cells (modV m)] h2 := a3.app _
  rw [show h1 ++ [Ob.cells (saidV ([D, Ob.cells (modV m)].length + 4) v1 m), Ob.cells okV] = h2 from rfl]
  have b2 : h2[1]? = some (.cells (modV m)) := x2.get rfl
  rw [gA_c b2 (by simp [modV]), modV_take, shuffled_spec hm hu ht hmo, xA_some]
  rw [cL4]
  obtain ⟨h3, v3, c1, c2, c3⟩ := canonOf_said (argM_mod (shufM m turn more)) okm2 argm2 trm2 h2
  rw [cm2] at c1 c2
  rw [show [V.f (.lst (shufM m turn more).strings.length (sF (shufM m turn more).strings)), V.f (.lst (shufM m turn more).globals.length (kF .i64 (shufM m turn more).globals)), V.f (.lst (shufM m turn more).funcs.length (funsF (shufM m turn more).funcs)), V.f (.lst (shufM m turn more).entries.length (kF .i64 (shufM m turn more).entries))] = modV (shufM m turn more) from rfl]
  rw [c1, kV_some]
  simp only [tpV_tup, List.getElem?_cons_zero, List.getElem?_cons_succ, Option.bind_some]
  rw [got h3 (saidV_len _ _ _) rfl]
  let h4 : H := h3 ++ [.cells (saidV (h2.length + 4) v3 m), .cells okV]
  rw [show h3 ++ [Ob.cells (saidV (h2.length + 4) v3 m), Ob.cells okV] = h4 from rfl]
  have x4 : Ext h2 h4 := c3.app _
  have d0 : h4[h1.length]? = some (.cells (saidV (2 + 4) v1 m)) := x4.get (got0 _ _ _)
  have d1 : h4[h1.length + 1]? = some (.cells okV) := x4.get (got1 _ _ _)
  have d2 : h4[1]? = some (.cells (modV m)) := x4.get b2
  have d3 : h4[h3.length]? = some (.cells (saidV (h2.length + 4) v3 m)) := got0 _ _ _
  have d4 : h4[h3.length + 1]? = some (.cells okV) := got1 _ _ _
  have s1 : Said h4 (2 + 4) v1 m := (a2.ext ((Ext.refl h1).app _)).ext x4
  have s3 : Said h4 (h2.length + 4) v3 m := c2.app _
  have hfl : m.funcs.length ≤ 100000 := by have := hm.2.2.1; omega
  rw [gI_c (i := 0) d1 rfl, if_pos (by rfl), gI_c (i := 0) d4 rfl, if_pos (by rfl)]
  rw [gA_c d0 (by simp [saidV]), saidV_take, gA_c d2 (by simp [modV]), modV_take]
  rw [same_any hm h4 (said_frz s1 hfl) (mod_frz h4 m), xB_some, if_pos rfl]
  rw [gA_c d3 (by simp [saidV]), saidV_take, gA_c d2 (by simp [modV]), modV_take]
  rw [same_any hm h4 (said_frz s3 hfl) (mod_frz h4 m), xB_some, if_pos rfl]
  rw [gI_c (i := -1) d1 rfl, if_pos (by rfl), gI_c (i := -1) d4 rfl]
  rfl
end Go.Proofs.Ytjefolfbdohkcaa
/-
  canon of drafts: whatever comes in.
-/
namespace Go.Proofs.Ytjefolfbdohkcaa
open Go Go.Abs
set_option maxRecDepth 100000 in
theorem CanonOf_all (l : List (List F)) (h : Args Try.prog Try.f3.params.toList l) : ∃ h', run w0 3 (argVs Try.prog Try.f3.params.toList l) [] = some (.ret (B true), h') := by
  obtain ⟨x1, l1, rfl, h1, h⟩ := h.cons_inv
  obtain ⟨x2, l2, rfl, h2, h⟩ := h.cons_inv
  obtain ⟨x3, l3, rfl, h3, h⟩ := h.cons_inv
  obtain rfl := h.nil_inv
  obtain ⟨g, f, e, acts, rfl, hg, hf, he, _, hx⟩ := draft_of h1
  obtain ⟨t, rfl, wt⟩ := h2.of_int (k := .u8) (by kernel_rfl)
  obtain ⟨t, rfl, ht⟩ := wf_u8 wt
  obtain ⟨more, rfl, _, _⟩ := h3.of_strs (e := 9) (by kernel_rfl) (by kernel_rfl)
  have h : run w0 3 [.agg [N .u8 g, N .u8 f, N .u8 e, .f (.lst acts.length (actsF acts))], N .u8 t, .f (.lst more.length (sF more))] [] = some (.ret (B true), []) := by
    rw [CanonOf_run]
    show withH true [] (CanonOf_0 g f e (.f (.lst acts.length (actsF acts))) t (.f (.lst more.length (sF more)))) = _
    rw [CanonOf_law g f e hg hf he acts hx t ht more, withH_true]
  exact ⟨[], h⟩
end Go.Proofs.Ytjefolfbdohkcaa
/-
  canon of drafts: what is handed in stays: the law.
-/
namespace Go.Proofs.Ytjefolfbdohkcaa
open Go Go.Abs
theorem foot_rd (l : List V) (k off n : Nat) : (nocl [.ldc k off n] (if l.all ripe = true then .rd [] else .rdAll) || false) = true := by
  split <;> simp [nocl, Foot.clash]
section
variable (g f e : Nat) (hg : g < 256) (hf : f < 256) (he : e < 256) (acts : List MAct) (hn : acts.length ≤ 60) (hx : ∀ x ∈ acts, x.ok) (turn : Nat) (ht : turn < 256) (more : List ByteArray) (hmo : more.length ≤ 10)
include hg hf he hn hx ht hmo
/-- the last comparison -/
theorem keeps_end (h : H) (hd : h[0]? = some (.cells [N .u8 g, N .u8 f, N .u8 e, .f (.lst acts.length (actsF acts))])) (hm2 : h[1]? = some (.cells (modV (shufM (makeM g f e acts) turn more)))) :
    CanonKeeps_2 turn (.f (.lst more.length (sF more))) 0 0 1 0 h = some (.ret (B true), []) := by
  have htr := make_tree g f e acts (by omega)
  have hsm := make_small g f e acts
  obtain ⟨hm, ha⟩ := tree_small htr (by have := hsm.strings; omega)
  have hu := (tree_used htr).2
  have okm2 := shuf_ok hm (by have := hsm.strings; omega) turn hmo
  rw [CanonKeeps_2_eq, gA_c hm2 (by simp [modV]), modV_take, gA_c hd (by simp)]
  rw [show (List.drop 0 [N .u8 g, N .u8 f, N .u8 e, V.f (.lst acts.length (actsF acts))]).take 4 = [N .u8 g, N .u8 f, N .u8 e, .f (.lst acts.length (actsF acts))] from rfl]
  rw [mMake_spec g f e hg hf he acts hn hx, xA_some, cL4]
  simp only [onFoot_eq]
  refine ite_go (foot_rd _ _ _ _) ?_
  rw [show [V.f (.lst (makeM g f e acts).strings.length (sF (makeM g f e acts).strings)), V.f (.lst (makeM g f e acts).globals.length (kF .i64 (makeM g f e acts).globals)), V.f (.lst (makeM g f e acts).funcs.length (funsF (makeM g f e acts).funcs)), V.f (.lst (makeM g f e acts).entries.length (kF .i64 (makeM g f e acts).entries))] = modV (makeM g f e acts) from rfl]
  rw [shuffled_spec hm hu ht hmo, xA_some, cL4]
  refine ite_go (foot_rd _ _ _ _) ?_
  generalize shufM (makeM g f e acts) turn more = m2 at okm2
  rw [show [V.f (.lst m2.strings.length (sF m2.strings)), V.f (.lst m2.globals.length (kF .i64 m2.globals)), V.f (.lst m2.funcs.length (funsF m2.funcs)), V.f (.lst m2.entries.length (kF .i64 m2.entries))] = modV m2 from rfl]
  rw [same_any okm2 h (mod_frz h m2) (mod_frz h m2), xB_some]
end
theorem CanonKeeps_law (g f e : Nat) (hg : g < 256) (hf : f < 256) (he : e < 256) (acts : List MAct) (hx : ∀ x ∈ acts, x.ok) (turn : Nat) (ht : turn < 256) (more : List ByteArray) :
    CanonKeeps_0 g f e (.f (.lst acts.length (actsF acts))) turn (.f (.lst more.length (sF more))) = some (.ret (B true), []) := by
  rw [CanonKeeps_eq]
  rw [newO_eq]
  simp only [List.nil_append, List.length_nil]
  rw [cawake_spec, xB_some, if_pos (by rfl)]
  rw [gL_c (k := 0) (cs := [N .u8 g, N .u8 f, N .u8 e, .f (.lst acts.length (actsF acts))]) rfl rfl]
  simp only [coeSl_lst, lnV_lst]
  by_cases hn : acts.length ≤ 60
  rotate_left
  · rw [if_neg (by simp; omega)]; rfl
  rw [if_pos (by simp; omega)]
  by_cases hmo : more.length ≤ 10
  rotate_left
  · rw [if_pos (by simp; omega)]; rfl
  rw [if_neg (by simp; omega)]
  rw [gA_c (k := 0) (cs := [N .u8 g, N .u8 f, N .u8 e, .f (.lst acts.length (actsF acts))]) rfl (by simp)]
  rw [show (List.drop 0 [N .u8 g, N .u8 f, N .u8 e, V.f (.lst acts.length (actsF acts))]).take 4 = [N .u8 g, N .u8 f, N .u8 e, .f (.lst acts.length (actsF acts))] from rfl]
  rw [mMake_spec g f e hg hf he acts hn hx, xA_some, cL4]
  have hend := keeps_end g f e hg hf he acts hn hx turn ht more hmo
  have htr := make_tree g f e acts (by omega)
  have hst := make_sorted g f e acts
  have hsm := make_small g f e acts
  generalize makeM g f e acts = m at htr hst hsm hend
  obtain ⟨hm, ha⟩ := tree_small htr (by have := hsm.strings; omega)
  have hu := (tree_used htr).2
  have hfix := canon_stays hu hst
  have hS := hsm.strings
  have hf1 := hsm.funcs1
  have hrows := hsm.rows
  clear hsm
  have okm2 := shuf_ok hm (by omega) turn hmo
  have argm2 := shuf_args ha turn more
  have trm2 : treeR (shufM m turn more) = none := by rw [shuf_tree hu]; exact htr
  have cm2 : canonM (shufM m turn more) = m := by rw [shuf_canon hu, hfix]
  rw [show [V.f (.lst m.strings.length (sF m.strings)), V.f (.lst m.globals.length (kF .i64 m.globals)), V.f (.lst m.funcs.length (funsF m.funcs)), V.f (.lst m.entries.length (kF .i64 m.entries))] = modV m from rfl]
  rw [shuffled_spec hm hu ht hmo, xA_some, cL4, newO_eq]
  generalize shufM m turn more = m2 at okm2 argm2 trm2 cm2 hend
  let D : Ob := .cells [N .u8 g, N .u8 f, N .u8 e, .f (.lst acts.length (actsF acts))]
  simp only [List.cons_append, List.nil_append, List.length_cons, List.length_nil, Nat.zero_add]
  rw [stC_c (k := 1) (off := 0) (cs := [nilS, nilS, nilS, nilS]) rfl (by simp)]
  rw [show (([D, Ob.cells [nilS, nilS, nilS, nilS]] : H).set 1 (.cells (splice [nilS, nilS, nilS, nilS] 0 [V.f (.lst m2.strings.length (sF m2.strings)), V.f (.lst m2.globals.length (kF .i64 m2.globals)), V.f (.lst m2.funcs.length (funsF m2.funcs)), V.f (.lst m2.entries.length (kF .i64 m2.entries))]))) = [D, .cells (modV m2)] from rfl]
  rw [gA_c (k := 1) (cs := modV m2) rfl (by simp [modV]), modV_take]
  obtain ⟨h1, v1, a1, a2, a3⟩ := canonOf_said (argM_mod m2) okm2 argm2 trm2 [D, .cells (modV m2)]
  rw [cm2] at a1 a2
  rw [a1, kV_some]
  simp only [tpV_tup, List.getElem?_cons_zero, List.getElem?_cons_succ, Option.bind_some]
  rw [got h1 (saidV_len _ _ _) rfl]
  let h2 : H := h1 ++ [.cells (saidV (2 + 4) v1 m), .cells okV]
  have x2 : Ext [D, .cells (modV m2)] h2 := a3.app _
  rw [show h1 ++ [Ob.cells (saidV ([D, Ob.cells (modV m2)].length + 4) v1 m), Ob.cells okV] = h2 from rfl]
  have b0 : h2[0]? = some D := x2.get rfl
  have b1 : h2[1]? = some (.cells (modV m2)) := x2.get rfl
  have s2 : Said h2 (2 + 4) v1 m := a2.app _
  have d0 : h2[h1.length]? = some (.cells (saidV (2 + 4) v1 m)) := got0 _ _ _
  have d1 : h2[h1.length + 1]? = some (.cells okV) := got1 _ _ _
  -- the function
  obtain ⟨fn, fr, hfs⟩ : ∃ fn fr, m.funcs = fn :: fr := by
    cases hq : m.funcs with
    | nil => rw [hq] at hf1; simp at hf1
    | cons a b => exact ⟨a, b, rfl⟩
  have hloc : 1 ≤ fn.locals.length := (hrows fn (by rw [hfs]; simp)).1
  obtain ⟨o, o1, o2⟩ := s2.f
  have hoc := rows_cells (i := 0) o2 (by rw [List.drop_zero]; exact hfs)
  subst hoc
  obtain ⟨l1, l2⟩ := s2.o 0 fn (by rw [hfs]; rfl)
  have hlen1 : 2 ≤ h1.length := by have := a3.len; simpa using this
  have ol := get_lt o1
  have ll := get_lt l1
  have hne : h1.length ≠ 2 + 4 + 6 + 2 * 0 := fun q => by rw [q, l1] at d0; cases d0
  have hne2 : h1.length ≠ 2 + 4 + 5 := fun q => by
    have a2' : Said h1 (2 + 4) v1 m := a2
    obtain ⟨o, p1, _⟩ := a2'.f
    have := get_lt p1
    omega
  have hrow : (rowsV (2 + 4 + 6) 0 m.funcs)[2]? = some (.ref (2 + 4 + 6) 0 fn.locals.length 1) := by rw [hfs]; rfl
  have hr5 : (rowsV (2 + 4 + 6) 0 m.funcs).length = m.funcs.length * 5 := rowsV_len _ _ _
  rw [CanonKeeps_1_eq, gI_c (i := 0) d1 rfl, if_pos (by rfl), gL_c d0 rfl]
  simp only [coeSl_ref, lnV_ref]
  rw [if_neg (by simp only [beq_iff_eq]; omega), gL_c d0 rfl]
  simp only [coeSl_ref]
  rw [idx_ref u28 s42 (by omega) (by omega)]
  simp only [addP_ptr, Option.bind_some, Int.toNat_zero, Nat.zero_mul, Nat.zero_add]
  rw [gL_c o1 hrow]
  simp only [coeSl_ref]
  rw [idx_ref u27 s3 (by omega) (by omega)]
  simp only [Int.toNat_zero, Nat.zero_mul, Nat.zero_add]
  rw [stC_z (k := 2 + 4 + 6) l1 rfl (by simp; omega)]
  let h3 : H := h2.set (2 + 4 + 6) (.fz ((kF .i64 fn.locals).set 0 (.s (.int .i64 99))))
  rw [show h2.set (2 + 4 + 6) (Ob.fz ((kF .i64 fn.locals).set 0 (.s (.int .i64 99)))) = h3 from rfl]
  have d3 : h3[h1.length]? = some (.cells (saidV (2 + 4) v1 m)) := by
    show (h2.set _ _)[_]? = _
    rw [List.getElem?_set_ne (by omega)]; exact d0
  have o3 : h3[2 + 4 + 5]? = some (.cells (rowsV (2 + 4 + 6) 0 m.funcs)) := by
    show (h2.set _ _)[_]? = _
    rw [List.getElem?_set_ne (by omega)]; exact o1
  rw [gL_c d3 rfl]
  simp only [coeSl_ref]
  rw [idx_ref u28 s42 (by omega) (by omega)]
  simp only [addP_ptr, Option.bind_some, Int.toNat_zero, Nat.zero_mul, Nat.zero_add]
  rw [stC_one (o := .dead) o3 (by omega)]
  refine hend _ ?_ ?_
  · rw [List.getElem?_set_ne (by omega)]
    show (h2.set _ _)[_]? = _
    rw [List.getElem?_set_ne (by omega)]; exact b0
  · rw [List.getElem?_set_ne (by omega)]
    show (h2.set _ _)[_]? = _
    rw [List.getElem?_set_ne (by omega)]; exact b1
set_option maxRecDepth 100000 in
theorem CanonKeeps_all (l : List (List F)) (h : Args Try.prog Try.f5.params.toList l) : ∃ h', run w0 5 (argVs Try.prog Try.f5.params.toList l) [] = some (.ret (B true), h') := by
  obtain ⟨x1, l1, rfl, h1, h⟩ := h.cons_inv
  obtain ⟨x2, l2, rfl, h2, h⟩ := h.cons_inv
  obtain ⟨x3, l3, rfl, h3, h⟩ := h.cons_inv
  obtain rfl := h.nil_inv
  obtain ⟨g, f, e, acts, rfl, hg, hf, he, _, hx⟩ := draft_of h1
  obtain ⟨t, rfl, wt⟩ := h2.of_int (k := .u8) (by kernel_rfl)
  obtain ⟨t, rfl, ht⟩ := wf_u8 wt
  obtain ⟨more, rfl, _, _⟩ := h3.of_strs (e := 9) (by kernel_rfl) (by kernel_rfl)
  have h : run w0 5 [.agg [N .u8 g, N .u8 f, N .u8 e, .f (.lst acts.length (actsF acts))], N .u8 t, .f (.lst more.length (sF more))] [] = some (.ret (B true), []) := by
    rw [CanonKeeps_run]
    show withH true [] (CanonKeeps_0 g f e (.f (.lst acts.length (actsF acts))) t (.f (.lst more.length (sF more)))) = _
    rw [CanonKeeps_law g f e hg hf he acts hx t ht more, withH_true]
  exact ⟨[], h⟩
end Go.Proofs.Ytjefolfbdohkcaa
/-
  canon of any module: the law.
-/
namespace Go.Proofs.Ytjefolfbdohkcaa
open Go Go.Abs
/-! ### modules that come in -/
/-! ### the guard -/
/-! ### behind the guard -/
end Go.Proofs.Ytjefolfbdohkcaa
