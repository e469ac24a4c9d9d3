/-
  A module that breaks no rule has a system that may be.
-/
import Derived.Test.YtlddnplflakmiaaGenDef
set_option autoImplicit false
set_option linter.unusedVariables false
set_option linter.unusedSimpArgs false
namespace Go.Proofs.Ytlddnplflakmiaa
open Go Go.Abs

/-! ### what the rules say -/
structure FineF (m : Mod) (f : MFun) : Prop where
  locals : f.locals.length ≤ 40
  sites : f.sites.length ≤ 40
  flats : (flats 0 0 f.body).length ≤ 400
  params0 : 0 ≤ f.params
  paramsL : f.params ≤ f.locals.length
  params6 : f.params ≤ 6
  stmts : ∀ x ∈ Go.Abs.flats 0 0 f.body, ¬ 0 < stmtR m f x.deep x.s
structure FineT (m : Mod) : Prop where
  globals : m.globals.length ≤ 40
  funcs : m.funcs.length ≤ 40
  entries : m.entries.length ≤ 40
  fns : ∀ f ∈ m.funcs, FineF m f
theorem stmtsR_none {m : Mod} {f : MFun} : ∀ {l : List MItem}, stmtsR m f l = none → ∀ x ∈ l, ¬ 0 < stmtR m f x.deep x.s
  | [], _, x, hx => by cases hx
  | y :: l, h, x, hx => by
    unfold stmtsR at h
    split at h
    · cases h
    · rename_i hy
      rcases List.mem_cons.1 hx with rfl | hx
      · exact hy
      · exact stmtsR_none h x hx
theorem tree_fine {m : Mod} (h : treeR m = none) : FineT m := by
  unfold treeR at h
  split at h
  · cases h
  rename_i hw
  have hb : m.globals.length ≤ 40 ∧ m.funcs.length ≤ 40 ∧ m.entries.length ≤ 40 := by
    unfold wholeR at hw
    split at hw
    · omega
    · omega
  refine ⟨hb.1, hb.2.1, hb.2.2, fun f hf => ?_⟩
  obtain ⟨h1, h2⟩ := funsR_none h f hf
  unfold funR at h1
  split at h1
  · omega
  rename_i g1
  split at h1
  · omega
  rename_i g2
  exact ⟨by omega, by omega, by omega, by omega, by omega, by omega, stmtsR_none h2⟩
theorem check_tree {m : Mod} (h : checkR m = none) : treeR m = none := by
  unfold checkR at h
  cases ht : treeR m with
  | none => rfl
  | some x => rw [ht] at h; cases h
structure FineS (m : Mod) (f : MFun) (s : MStmt) : Prop where
  kinds : kindsR s = true
  a : thereR m f s.a = true
  b : thereR m f s.b = true
  args : ∀ r ∈ s.args, thereR m f r = true
  call : s.kind = 5 → s.args.length ≤ 6 ∧ (s.b.k = 3 → (s.args.length : Int) = (m.funcs[s.b.id.toNat]?.getD default).params)
theorem stmt_fine {m : Mod} {f : MFun} {d : Nat} {s : MStmt} (h : ¬ 0 < stmtR m f d s) : FineS m f s := by
  unfold stmtR at h
  split at h
  · omega
  split at h
  · omega
  rename_i h1
  split at h
  · omega
  rename_i h2
  split at h
  · omega
  rename_i h3
  refine ⟨by simpa using h1, ?_, ?_, fun r hr => ?_, fun h5 => ⟨?_, fun h6 => ?_⟩⟩
  · cases q : thereR m f s.a with
    | true => rfl
    | false => exact absurd (.inl q) h2
  · cases q : thereR m f s.b with
    | true => rfl
    | false => exact absurd (.inr (.inl q)) h2
  · cases q : thereR m f r with
    | true => rfl
    | false => exact absurd (.inr (.inr ⟨r, hr, q⟩)) h2
  · rcases Nat.lt_or_ge 6 s.args.length with q | q
    · exact absurd ⟨h5, .inl q⟩ h3
    · exact q
  · by_cases q : (s.args.length : Int) = (m.funcs[s.b.id.toNat]?.getD default).params
    · exact q
    · exact absurd ⟨h5, .inr ⟨h6, q⟩⟩ h3

/-! ### places -/
theorem posAt_in {x : Thing} : ∀ {l : List Thing} {i : Nat}, x ∈ l → (i : Int) ≤ posAt x i l ∧ posAt x i l < ((i + l.length : Nat) : Int)
  | y :: l, i, h => by
    unfold posAt
    by_cases hy : y = x
    · rw [if_pos hy]; simp; omega
    · rw [if_neg hy]
      have := posAt_in (l := l) (i := i + 1) (by rcases List.mem_cons.1 h with e | e; exact absurd e.symm hy; exact e)
      simp only [List.length_cons]; omega
  | [], _, h => by cases h
theorem fromF_in {b : Int → MFun → List Thing} {x : Thing} : ∀ {fs : List MFun} {f0 n : Nat} {g : MFun}, fs[n]? = some g → x ∈ b ((f0 + n : Nat) : Int) g → x ∈ fromF b f0 fs
  | [], f0, n, g, h, _ => by simp at h
  | f :: fs, f0, 0, g, h, hx => by
    simp at h; subst h
    unfold fromF; exact List.mem_append_left _ (by simpa using hx)
  | f :: fs, f0, n + 1, g, h, hx => by
    unfold fromF
    exact List.mem_append_right _ (fromF_in (n := n) (by simpa using h) (by rw [show f0 + 1 + n = f0 + (n + 1) by omega]; exact hx))
section
variable {m : Mod}
theorem in_vars {x : Thing} (h : x ∈ varsR m) : inR (posAt x 0 (varsR m)) 0 (varsR m).length = true := by
  have := posAt_in (i := 0) h
  simp [inR]; omega
theorem in_vars1 {x : Thing} (h : x ∈ varsR m) : inR (posAt x 0 (varsR m)) (-1) (varsR m).length = true := by
  have := posAt_in (i := 0) h
  simp [inR]; omega
theorem in_cells {x : Thing} (h : x ∈ cellsR m) : inR (posAt x 0 (cellsR m)) 0 (cellsR m).length = true := by
  have := posAt_in (i := 0) h
  simp [inR]; omega
theorem mem_glob {j : Int} (h : 0 ≤ j ∧ j < m.globals.length) : ((2, 0, j) : Thing) ∈ varsR m ∧ ((2, 0, j) : Thing) ∈ cellsR m :=
  have : ((2, 0, j) : Thing) ∈ blk 2 0 0 m.globals.length := mem_blk.2 ⟨rfl, rfl, by omega, by omega⟩
  ⟨List.mem_append_left _ this, List.mem_append_left _ this⟩
theorem mem_loc {n : Nat} {g : MFun} (hg : m.funcs[n]? = some g) {j : Int} (h : 0 ≤ j ∧ j < g.locals.length) : ((1, (n : Int), j) : Thing) ∈ varsR m ∧ ((1, (n : Int), j) : Thing) ∈ cellsR m := by
  have hb : ((1, (n : Int), j) : Thing) ∈ blk 1 (n : Int) 0 g.locals.length := mem_blk.2 ⟨rfl, rfl, by omega, by omega⟩
  constructor
  · exact List.mem_append_right _ (fromF_in hg (by unfold varsOfF; rw [Nat.zero_add]; exact List.mem_append_left _ hb))
  · exact List.mem_append_right _ (fromF_in hg (by unfold cellsOfF; rw [Nat.zero_add]; exact List.mem_cons_of_mem _ (List.mem_append_left _ hb)))
theorem mem_site {n : Nat} {g : MFun} (hg : m.funcs[n]? = some g) {j : Int} (h : 0 ≤ j ∧ j < g.sites.length) : ((4, (n : Int), j) : Thing) ∈ varsR m ∧ ((4, (n : Int), j) : Thing) ∈ cellsR m := by
  have hb : ((4, (n : Int), j) : Thing) ∈ blk 4 (n : Int) 0 g.sites.length := mem_blk.2 ⟨rfl, rfl, by omega, by omega⟩
  constructor
  · exact List.mem_append_right _ (fromF_in hg (by unfold varsOfF; rw [Nat.zero_add]; exact List.mem_append_right _ (List.mem_cons_of_mem _ hb)))
  · exact List.mem_append_right _ (fromF_in hg (by unfold cellsOfF; rw [Nat.zero_add]; exact List.mem_cons_of_mem _ (List.mem_append_right _ hb)))
theorem mem_fun {n : Nat} {g : MFun} (hg : m.funcs[n]? = some g) : ((3, (n : Int), 0) : Thing) ∈ varsR m ∧ ((3, (n : Int), 0) : Thing) ∈ cellsR m := by
  constructor
  · exact List.mem_append_right _ (fromF_in hg (by unfold varsOfF; rw [Nat.zero_add]; exact List.mem_append_right _ (by simp)))
  · exact List.mem_append_right _ (fromF_in hg (by unfold cellsOfF; rw [Nat.zero_add]; simp))
theorem there_lt {f : MFun} {r : MRef} (h : thereR m f r = true) (hk : r.k ≠ 0) : 0 ≤ r.id ∧ r.id < (if r.k = 1 then f.locals.length else if r.k = 2 then m.globals.length else if r.k = 3 then m.funcs.length else f.sites.length : Nat) := by
  unfold thereR at h
  rw [if_neg hk] at h
  simpa using h
theorem ref_mem {n : Nat} {f : MFun} (hf : m.funcs[n]? = some f) {r : MRef} (h : thereR m f r = true) (hk : 1 ≤ r.k ∧ r.k ≤ 4) : ofR (n : Int) r ∈ varsR m ∧ ofR (n : Int) r ∈ cellsR m := by
  have hl := there_lt h (by omega)
  unfold ofR
  by_cases h2 : r.k = 2
  · rw [if_pos h2]; rw [if_neg (by omega), if_pos h2] at hl; exact mem_glob hl
  rw [if_neg h2]
  by_cases h3 : r.k = 3
  · rw [if_neg (by omega), if_neg h2, if_pos h3] at hl
    rw [if_pos h3]
    obtain ⟨k, hk'⟩ : ∃ k : Nat, r.id = k := ⟨r.id.toNat, by omega⟩
    rw [hk'] at hl ⊢
    exact mem_fun (List.getElem?_eq_getElem (by omega))
  rw [if_neg h3]
  by_cases h1 : r.k = 1
  · rw [if_pos h1] at hl; rw [h1]; exact mem_loc hf hl
  · rw [if_neg h1, if_neg h2, if_neg h3] at hl
    have : r.k = 4 := by omega
    rw [this]; exact mem_site hf hl
theorem var_mem {n : Nat} {f : MFun} (hf : m.funcs[n]? = some f) {r : MRef} (h : thereR m f r = true) (hv : varR r = true) : ofR (n : Int) r ∈ varsR m := by
  have : r.k = 1 ∨ r.k = 2 := by simpa [varR] using hv
  exact (ref_mem hf h (by omega)).1

/-! ### constraints -/
theorem con1 (a b : Int) : conR (varsR m).length (cellsR m).length ⟨1, a, b, []⟩ = (inR a 0 (varsR m).length && inR b 0 (cellsR m).length) := by simp [conR]
theorem con234 (k : Int) (hk : k = 2 ∨ k = 3 ∨ k = 4) (a b : Int) : conR (varsR m).length (cellsR m).length ⟨k, a, b, []⟩ = (inR a 0 (varsR m).length && inR b 0 (varsR m).length) := by
  have : k ≠ 1 := by omega
  simp [conR, hk, this]
theorem con5 (a b : Int) (l : List Int) : conR (varsR m).length (cellsR m).length ⟨5, a, b, l⟩ = (l.all (fun n => inR n (-1) (varsR m).length) && (inR a (-1) (varsR m).length && (inR b 0 (varsR m).length && decide (l.length ≤ 6)))) := by simp [conR]
theorem par_right {n : Nat} {g : MFun} (hg : m.funcs[n]? = some g) : ∀ (l : List Int) (k : Nat), k + l.length ≤ g.locals.length → (∀ v ∈ l, inR v 0 (varsR m).length = true) → (parT m (n : Int) k l).all (conR (varsR m).length (cellsR m).length) = true
  | [], k, _, _ => rfl
  | v :: l, k, h, hv => by
    simp only [List.length_cons] at h
    unfold parT
    rw [List.all_cons, par_right hg l (k + 1) (by omega) (fun u hu => hv u (by simp [hu])), con234 2 (.inl rfl), in_vars (mem_loc hg ⟨by omega, by omega⟩).1, hv v (by simp)]
    rfl
theorem cons_right (hm : FineT m) {n : Nat} {f : MFun} (hf : m.funcs[n]? = some f) {s : MStmt} (hs : FineS m f s) : (consT m n s).all (conR (varsR m).length (cellsR m).length) = true := by
  obtain ⟨hk, ha, hb, hr, hc⟩ := hs
  unfold kindsR at hk
  unfold consT
  split
  · rename_i h1
    rw [if_pos h1] at hk
    simp only [decide_eq_true_eq] at hk
    rw [List.all_cons, con1, in_vars (var_mem hf ha hk.2.2.1), in_cells (ref_mem hf hb ⟨hk.2.2.2.1, hk.2.2.2.2⟩).2]; rfl
  rename_i h1
  rw [if_neg h1] at hk
  split
  · rename_i h2
    rw [if_pos (.inl h2)] at hk
    simp only [decide_eq_true_eq] at hk
    rw [List.all_cons, con234 2 (by omega), in_vars (var_mem hf ha hk.2.2.1), in_vars (var_mem hf hb hk.2.2.2)]; rfl
  rename_i h2
  split
  · rename_i h3
    rw [if_pos (.inr (.inl h3))] at hk
    simp only [decide_eq_true_eq] at hk
    rw [List.all_cons, con234 3 (by omega), in_vars (var_mem hf ha hk.2.2.1), in_vars (var_mem hf hb hk.2.2.2)]; rfl
  rename_i h3
  split
  · rename_i h4
    rw [if_pos (.inr (.inr h4))] at hk
    simp only [decide_eq_true_eq] at hk
    rw [List.all_cons, con234 4 (by omega), in_vars (var_mem hf ha hk.2.2.1), in_vars (var_mem hf hb hk.2.2.2)]; rfl
  rename_i h4
  rw [if_neg (by omega)] at hk
  split
  · rename_i h6
    rw [if_neg (by omega), if_pos h6] at hk
    simp only [decide_eq_true_eq] at hk
    rw [List.all_cons, con234 2 (by omega), in_vars (mem_fun hf).1, in_vars (var_mem hf hb hk.2.2.2)]; rfl
  rename_i h6
  split
  · rename_i h5
    rw [if_pos h5] at hk
    simp only [decide_eq_true_eq] at hk
    obtain ⟨k1, k2, k3, k4⟩ := hk
    obtain ⟨c1, c2⟩ := hc h5
    have hargs : ∀ v ∈ s.args.map (fun r => posAt (ofR (n : Int) r) 0 (varsR m)), inR v 0 (varsR m).length = true := fun v hv => by
      rw [List.mem_map] at hv
      obtain ⟨r, hr', rfl⟩ := hv
      exact in_vars (var_mem hf (hr r hr') (k1 r hr'))
    have hA : ∀ v, v = (if s.a.k = 0 then -1 else posAt (ofR (n : Int) s.a) 0 (varsR m)) → inR v (-1) (varsR m).length = true ∧ (0 ≤ v → inR v 0 (varsR m).length = true) := fun v hv => by
      rcases k3 with q | q
      · rw [q, if_pos rfl] at hv
        subst hv
        refine ⟨by simp [inR]; omega, fun q => by omega⟩
      · have hk0 : s.a.k ≠ 0 := by have : s.a.k = 1 ∨ s.a.k = 2 := by simpa [varR] using q
                                   omega
        rw [if_neg hk0] at hv
        subst hv
        exact ⟨in_vars1 (var_mem hf ha q), fun _ => in_vars (var_mem hf ha q)⟩
    split
    · rename_i h3'
      have hb3 : varR s.b = true := k4.resolve_right h3'
      rw [List.all_cons, con5, in_vars (var_mem hf hb hb3), (hA _ rfl).1]
      have : ((s.args.map fun r => posAt (ofR (n : Int) r) 0 (varsR m)).all fun v => inR v (-1) (varsR m).length) = true := List.all_eq_true.2 fun v hv => by
        have := hargs v hv
        simp only [inR, Bool.and_eq_true, decide_eq_true_eq] at this ⊢
        omega
      rw [this]
      simp [c1]
    · rename_i h3'
      have h3' : s.b.k = 3 := by omega
      have hl := there_lt hb (by omega)
      rw [if_neg (by omega), if_neg (by omega), if_pos h3'] at hl
      obtain ⟨k, hk'⟩ : ∃ k : Nat, s.b.id = k := ⟨s.b.id.toNat, by omega⟩
      have hkl : k < m.funcs.length := by omega
      have hg : m.funcs[k]? = some m.funcs[k] := List.getElem?_eq_getElem hkl
      have hp := c2 h3'
      rw [hk', Int.toNat_natCast, hg] at hp
      simp only [Option.getD_some] at hp
      have hfine := hm.fns _ (List.getElem_mem hkl)
      have hpl := hfine.paramsL
      rw [List.all_append, hk', par_right hg _ 0 (by rw [List.length_map]; omega) hargs, Bool.true_and]
      generalize hv' : (if s.a.k = 0 then -1 else posAt (ofR (n : Int) s.a) 0 (varsR m)) = v
      by_cases hv : 0 ≤ v
      · rw [if_pos hv, List.all_cons, con234 2 (by omega), (hA v hv'.symm).2 hv, in_vars (mem_fun hg).1]; rfl
      · rw [if_neg hv]; rfl
  · rfl
theorem cell_right (hm : FineT m) {t : Thing} (ht : t ∈ cellsR m) : cellR (varsR m).length (cellT m t) = true := by
  have args : ∀ (n : Nat) (g : MFun), m.funcs[n]? = some g → ∀ (c k : Nat), k + c ≤ g.locals.length → (argsT m (n : Int) k c).all (fun v => inR v 0 (varsR m).length) = true := by
    intro n g hg c
    induction c with
    | zero => intro k _; rfl
    | succ c ih => intro k hk; unfold argsT; rw [List.all_cons, in_vars (mem_loc hg ⟨by omega, by omega⟩).1, ih (k + 1) (by omega)]; rfl
  -- each thing is a variable too
  have hv : t ∈ varsR m := by
    rcases List.mem_append.1 ht with h | h
    · exact List.mem_append_left _ h
    · refine List.mem_append_right _ ?_
      have : ∀ (fs : List MFun) (f0 : Nat), t ∈ fromF cellsOfF f0 fs → t ∈ fromF varsOfF f0 fs := by
        intro fs
        induction fs with
        | nil => intro f0 h; exact h
        | cons g fs ih =>
          intro f0 h
          unfold fromF at h ⊢
          rcases List.mem_append.1 h with h | h
          · refine List.mem_append_left _ ?_
            unfold cellsOfF at h; unfold varsOfF
            simp only [List.mem_cons, List.mem_append] at h ⊢
            rcases h with h | h | h
            · exact .inr (.inl h)
            · exact .inl h
            · exact .inr (.inr h)
          · exact List.mem_append_right _ (ih (f0 + 1) h)
      exact this _ _ h
  unfold cellT
  by_cases h3 : t.1 = 3
  · rw [if_pos h3]
    obtain ⟨n, g, hg, hn⟩ := cells_fun m ht h3
    have hgf : getF m t.2.1 = some g := by unfold getF; rw [hn, if_pos (by omega), Int.toNat_natCast]; exact hg
    have hfine := hm.fns g (List.mem_of_getElem? hg)
    have h0 := hfine.params0
    have hL := hfine.paramsL
    have h6 := hfine.params6
    rw [hgf, hn]
    simp only [cellR, in_vars hv, args n g hg g.params.toNat 0 (by omega), argsT_len]
    simp; omega
  · rw [if_neg h3]
    simp [cellR, in_vars hv]
theorem consFrom_right (hm : FineT m) : ∀ (fs : List MFun) (n : Nat), m.funcs.drop n = fs → (consFrom m n fs).all (conR (varsR m).length (cellsR m).length) = true ∧ (consFrom m n fs).length ≤ fs.length * 2800
  | [], n, _ => ⟨rfl, by simp [consFrom]⟩
  | f :: fs, n, hd => by
    have hlt := lt_of_drop hd
    have hf : m.funcs[n]? = some f := by
      have : (m.funcs.drop n)[0]? = some f := by rw [hd]; rfl
      simpa using this
    have hfine := hm.fns f (List.mem_of_getElem? hf)
    obtain ⟨i1, i2⟩ := consFrom_right hm fs (n + 1) (drop_next hd)
    unfold consFrom
    refine ⟨?_, ?_⟩
    · rw [List.all_append, i1, Bool.and_true, List.all_flatMap]
      exact List.all_eq_true.2 fun x hx => cons_right hm hf (stmt_fine (hfine.stmts x hx))
    · have hlen : ∀ l : List MItem, (∀ x ∈ l, (consT m n x.s).length ≤ 7) → (l.flatMap fun x => consT m n x.s).length ≤ l.length * 7 := by
        intro l
        induction l with
        | nil => intro _; simp
        | cons y l ih =>
          intro h
          have h1 := h y (by simp)
          have h2 := ih fun x hx => h x (by simp [hx])
          simp only [List.flatMap_cons, List.length_append, List.length_cons]; omega
      have h7 := hlen (flats 0 0 f.body) fun x hx => by
        have hs := stmt_fine (hfine.stmts x hx)
        by_cases h5 : x.s.kind = 5
        · have := consT_len m n x.s
          have := (hs.call h5).1
          omega
        · unfold consT
          rw [if_neg (c := x.s.kind = 5) h5]
          repeat' split
          all_goals simp
      have hfl := hfine.flats
      simp only [List.length_append, List.length_cons]; omega
theorem right_sys (h : treeR m = none) : rightR (sysT m) = true := by
  have hm := tree_fine h
  obtain ⟨c1, c2⟩ := consFrom_right hm m.funcs 0 rfl
  have hsz : ∀ (b : Int → MFun → List Thing), (∀ f g, (b f g).length = szF g) → ∀ (fs : List MFun) (f0 : Nat), (∀ f ∈ fs, FineF m f) → (fromF b f0 fs).length ≤ fs.length * 81 := by
    intro b hb fs
    induction fs with
    | nil => intro f0 _; simp [fromF]
    | cons g fs ih =>
      intro f0 hf
      have := ih (f0 + 1) fun q hq => hf q (by simp [hq])
      have h1 := (hf g (by simp)).locals
      have h2 := (hf g (by simp)).sites
      simp only [fromF, List.length_append, hb, List.length_cons]
      unfold szF; omega
  have v := hsz varsOfF varsOfF_len m.funcs 0 hm.fns
  have c := hsz cellsOfF cellsOfF_len m.funcs 0 hm.fns
  have g1 := hm.globals
  have g2 := hm.funcs
  have hv : (varsR m).length ≤ 16384 := by simp only [varsR, List.length_append, blk_len]; omega
  have hc : (cellsR m).length ≤ 16384 := by simp only [cellsR, List.length_append, blk_len]; omega
  unfold rightR sysT
  dsimp only
  rw [List.length_map, c1, Bool.and_true, Bool.and_eq_true]
  refine ⟨decide_eq_true ⟨by omega, by omega, hc, by omega⟩, ?_⟩
  rw [List.all_map]
  exact List.all_eq_true.2 fun t ht => cell_right hm ht
end
end Go.Proofs.Ytlddnplflakmiaa
