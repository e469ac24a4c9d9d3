/-
  Statements that are made of numbers break no rule.
-/
import Derived.Test.YtjefolfbdohkcaaMakeOk
set_option autoImplicit false
set_option linter.unusedVariables false
namespace Go.Abs
open Go
/-- where a statement stands: m: its module; f: its function -/
structure InM (m : Mod) (f : MFun) (G L S : Nat) (ps : List Int) : Prop where
  g : m.globals.length = G
  l : f.locals.length = L
  s : f.sites.length = S
  p : m.funcs.map (·.params) = ps
  l0 : 0 < L
  s0 : 0 < S
  n0 : 0 < ps.length
  pr : ∀ p ∈ ps, 0 ≤ p ∧ p ≤ 6
theorem InM.len {m : Mod} {f : MFun} {G L S : Nat} {ps : List Int} (h : InM m f G L S ps) : m.funcs.length = ps.length := by rw [← h.p]; simp
section
variable {m : Mod} {f : MFun} {G L S : Nat} {ps : List Int}
theorem var_there (h : InM m f G L S ps) (n : Nat) : thereR m f (varM G L n) = true := by
  have hm : n % (L + G) < L + G := Nat.mod_lt _ (by have := h.l0; omega)
  unfold varM
  split
  · rename_i hl
    generalize n % (L + G) = z at *
    unfold thereR
    simp only [h.l]
    simp; omega
  · rename_i hl
    have : n % (L + G) - L < G := by omega
    generalize n % (L + G) - L = z at *
    unfold thereR
    simp only [h.g]
    simp; omega
theorem var_var (n : Nat) : varR (varM G L n) = true := by
  unfold varM; split <;> simp [varR]
theorem zero_there : thereR m f ⟨0, 0⟩ = true := by simp [thereR]
theorem kinds5 {s : MStmt} (hk : s.kind = 5) (h1 : ∀ r ∈ s.args, varR r = true) (h2 : s.body = []) (h3 : s.a = ⟨0, 0⟩ ∨ varR s.a = true) (h4 : varR s.b = true ∨ s.b.k = 3) : kindsR s = true := by
  unfold kindsR
  rw [if_neg (by rw [hk]; decide), if_neg (by rw [hk]; decide), if_pos hk, decide_eq_true_iff]
  exact ⟨h1, h2, h3, h4⟩
theorem fun_there (h : InM m f G L S ps) (n : Nat) : thereR m f ⟨3, ((n % ps.length : Nat) : Int)⟩ = true := by
  have := Nat.mod_lt n h.n0
  generalize n % ps.length = z at *
  unfold thereR
  simp only [h.len]
  simp; omega
theorem site_there (h : InM m f G L S ps) (n : Nat) : thereR m f ⟨4, ((n % S : Nat) : Int)⟩ = true := by
  have := Nat.mod_lt n h.s0
  generalize n % S = z at *
  unfold thereR
  simp only [h.s]
  simp; omega
/-- a statement that is no block, or a block: by itself -/
theorem stmtR_of {d : Nat} (hd : d ≤ 8) {s : MStmt} (h1 : kindsR s = true) (ha : thereR m f s.a = true) (hb : thereR m f s.b = true) (hr : ∀ r ∈ s.args, thereR m f r = true) (h9 : s.kind = 5 → s.args.length ≤ 6 ∧ (s.b.k = 3 → (s.args.length : Int) = (m.funcs[s.b.id.toNat]?.getD default).params)) : stmtR m f d s = 0 := by
  unfold stmtR
  rw [if_neg (by omega), if_neg (by rw [h1]; simp), if_neg, if_neg]
  · rintro ⟨h5, h⟩
    obtain ⟨q1, q2⟩ := h9 h5
    rcases h with h | ⟨h, h'⟩
    · omega
    · exact h' (q2 h)
  · rintro (h | h | ⟨r, hm, h⟩)
    · rw [ha] at h; cases h
    · rw [hb] at h; cases h
    · rw [hr r hm] at h; cases h
theorem args_there (h : InM m f G L S ps) (x : MAct) (n : Nat) : ∀ r ∈ argsM G L x n, thereR m f r = true ∧ varR r = true := by
  intro r hr
  unfold argsM at hr
  rw [List.mem_map] at hr
  obtain ⟨i, _, rfl⟩ := hr
  exact ⟨var_there h _, var_var _⟩
theorem par_at (h : InM m f G L S ps) (n : Nat) : (m.funcs[((n % ps.length : Nat) : Int).toNat]?.getD default).params = ps.getD (n % ps.length) 0 ∧ 0 ≤ ps.getD (n % ps.length) 0 ∧ ps.getD (n % ps.length) 0 ≤ 6 := by
  have hlt := Nat.mod_lt n h.n0
  have hlt' : n % ps.length < m.funcs.length := by rw [h.len]; exact hlt
  have hg : ps.getD (n % ps.length) 0 = ps[n % ps.length] := by rw [List.getD_eq_getElem?_getD, List.getElem?_eq_getElem hlt]; rfl
  rw [Int.toNat_natCast, List.getElem?_eq_getElem hlt', hg]
  refine ⟨?_, h.pr _ (List.getElem_mem _)⟩
  have := h.p
  subst this
  simp
theorem stmt1_ok (h : InM m f G L S ps) (x : MAct) {d : Nat} (hd : d ≤ 8) : stmtR m f d (stmt1 G L S ps x) = 0 ∧ (stmt1 G L S ps x).kind ≠ 7 ∧ (stmt1 G L S ps x).body = [] ∧ (stmt1 G L S ps x).args.length ≤ 6 := by
  have va := var_there h x.a
  have vb := var_there h x.b
  have ra := var_var (G := G) (L := L) x.a
  have rb := var_var (G := G) (L := L) x.b
  have kb : (varM G L x.b).k = 1 ∨ (varM G L x.b).k = 2 := by simpa [varR] using rb
  unfold stmt1
  dsimp only
  split
  · -- take
    have hb : ∀ r : MRef, thereR m f r = true → 1 ≤ r.k → r.k ≤ 4 → stmtR m f d (.mk 1 (varM G L x.a) r [] []) = 0 := fun r hr h1 h4 =>
      stmtR_of hd (by simp [kindsR, MStmt.kind, MStmt.args, MStmt.body, MStmt.a, MStmt.b, ra, h1, h4]) va hr (by simp [MStmt.args]) (by simp [MStmt.kind])
    refine ⟨hb _ ?_ ?_ ?_, by simp [MStmt.kind], rfl, by simp [MStmt.args]⟩
    · split
      · exact fun_there h _
      · split
        · exact site_there h _
        · exact vb
    · split
      · simp
      · split
        · simp
        · omega
    · split
      · simp
      · split
        · simp
        · omega
  split
  · exact ⟨stmtR_of hd (by simp [kindsR, MStmt.kind, MStmt.args, MStmt.body, MStmt.a, MStmt.b, ra, rb]) va vb (by simp [MStmt.args]) (by simp [MStmt.kind]), by simp [MStmt.kind], rfl, by simp [MStmt.args]⟩
  split
  · exact ⟨stmtR_of hd (by simp [kindsR, MStmt.kind, MStmt.args, MStmt.body, MStmt.a, MStmt.b, ra, rb]) va vb (by simp [MStmt.args]) (by simp [MStmt.kind]), by simp [MStmt.kind], rfl, by simp [MStmt.args]⟩
  have hA : thereR m f (if x.c % 3 = 0 then ⟨0, 0⟩ else varM G L x.a) = true := by split; exact zero_there; exact va
  have hA' : (if x.c % 3 = 0 then (⟨0, 0⟩ : MRef) else varM G L x.a) = ⟨0, 0⟩ ∨ varR (if x.c % 3 = 0 then ⟨0, 0⟩ else varM G L x.a) = true := by
    split
    · exact .inl rfl
    · exact .inr ra
  split
  · -- a call by name
    obtain ⟨p1, p2, p3⟩ := par_at h x.b
    have ha := args_there h x (ps.getD (x.b % ps.length) 0).toNat
    have hl : (argsM G L x (ps.getD (x.b % ps.length) 0).toNat).length = (ps.getD (x.b % ps.length) 0).toNat := by simp [argsM]
    refine ⟨stmtR_of hd ?_ hA (fun_there h _) (fun r hr => (ha r hr).1) (fun _ => ⟨?_, fun _ => ?_⟩), by simp [MStmt.kind], rfl, ?_⟩
    · exact kinds5 rfl (fun r hr => (ha r hr).2) rfl hA' (.inr rfl)
    · show (argsM G L x (ps.getD (x.b % ps.length) 0).toNat).length ≤ 6
      rw [hl]; omega
    · show ((argsM G L x (ps.getD (x.b % ps.length) 0).toNat).length : Int) = _
      rw [hl]
      exact (Int.toNat_of_nonneg p2).trans p1.symm
    · show (argsM G L x (ps.getD (x.b % ps.length) 0).toNat).length ≤ 6
      rw [hl]; omega
  split
  · -- a call by what is in a variable
    have ha := args_there h x (x.c / 4 % 4)
    have hl : (argsM G L x (x.c / 4 % 4)).length = x.c / 4 % 4 := by simp [argsM]
    refine ⟨stmtR_of hd ?_ hA vb (fun r hr => (ha r hr).1) (fun _ => ⟨?_, fun hk => ?_⟩), by simp [MStmt.kind], rfl, ?_⟩
    · exact kinds5 rfl (fun r hr => (ha r hr).2) rfl hA' (.inl rb)
    · show (argsM G L x (x.c / 4 % 4)).length ≤ 6
      rw [hl]; omega
    · have hk : (varM G L x.b).k = 3 := hk
      omega
    · show (argsM G L x (x.c / 4 % 4)).length ≤ 6
      rw [hl]; omega
  split
  · exact ⟨stmtR_of hd (by simp [kindsR, MStmt.kind, MStmt.args, MStmt.body, MStmt.a, MStmt.b, rb]) zero_there vb (by simp [MStmt.args]) (by simp [MStmt.kind]), by simp [MStmt.kind], rfl, by simp [MStmt.args]⟩
  · exact ⟨stmtR_of hd (by simp [kindsR, MStmt.kind, MStmt.args, MStmt.body, MStmt.a, MStmt.b, ra, rb]) va vb (by simp [MStmt.args]) (by simp [MStmt.kind]), by simp [MStmt.kind], rfl, by simp [MStmt.args]⟩
/-- a statement, with what is in it -/
def fineS (m : Mod) (f : MFun) (s : MStmt) : Prop := stmtR m f 0 s = 0 ∧ s.args.length ≤ 6 ∧ s.body.length ≤ 2 ∧ ∀ t ∈ s.body, stmtR m f 1 t = 0 ∧ t.kind ≠ 7 ∧ t.args.length ≤ 6
theorem stmtM_ok (h : InM m f G L S ps) (x : MAct) : fineS m f (stmtM G L S ps x) := by
  have move : ∀ d, d ≤ 8 → stmtR m f d (.mk 2 (varM G L x.b) (varM G L x.a) [] []) = 0 := fun d hd =>
    stmtR_of hd (by simp [kindsR, MStmt.kind, MStmt.args, MStmt.body, MStmt.a, MStmt.b, var_var]) (var_there h _) (var_there h _) (by simp [MStmt.args]) (by simp [MStmt.kind])
  have block : ∀ l, stmtR m f 0 (.mk 7 ⟨0, 0⟩ ⟨0, 0⟩ [] l) = 0 := fun l =>
    stmtR_of (by omega) (by simp [kindsR, MStmt.kind, MStmt.args, MStmt.a, MStmt.b]) zero_there zero_there (by simp [MStmt.args]) (by simp [MStmt.kind])
  unfold stmtM
  split
  · split
    · exact ⟨block _, by simp [MStmt.args], by simp [MStmt.body], by simp [MStmt.body]⟩
    · obtain ⟨q1, q2, q3, q4⟩ := stmt1_ok h ⟨x.c % 8, x.a, x.b, x.c⟩ (d := 1) (by omega)
      refine ⟨block _, by simp [MStmt.args], by simp [MStmt.body], fun t ht => ?_⟩
      simp only [MStmt.body, List.mem_cons, List.not_mem_nil, or_false] at ht
      rcases ht with rfl | rfl
      · exact ⟨q1, q2, q4⟩
      · exact ⟨move 1 (by omega), by simp [MStmt.kind], by simp [MStmt.args]⟩
  · obtain ⟨q1, q2, q3, q4⟩ := stmt1_ok h x (d := 0) (by omega)
    exact ⟨q1, q4, by rw [q3]; simp, by rw [q3]; simp⟩
/-- all statements of such: none breaks a rule; there are few -/
theorem flats_ok1 : ∀ (l : List MStmt) (n : Nat), (∀ t ∈ l, stmtR m f 1 t = 0 ∧ t.kind ≠ 7 ∧ t.args.length ≤ 6) → stmtsR m f (flats 1 n l) = none ∧ (flats 1 n l).length = l.length ∧ ∀ y ∈ flats 1 n l, y.s.args.length ≤ 6
  | [], n, _ => by rw [flats_nil]; exact ⟨rfl, rfl, by simp⟩
  | s :: r, n, hl => by
    obtain ⟨h1, h2, h3⟩ := hl s (by simp)
    obtain ⟨i1, i2, i3⟩ := flats_ok1 r (n + 1) fun t ht => hl t (by simp [ht])
    rw [flats_cons, if_neg (fun q => h2 q.1)]
    refine ⟨?_, by simp [i2], ?_⟩
    · unfold stmtsR; rw [if_neg (by rw [h1]; omega)]; exact i1
    · intro y hy
      rcases List.mem_cons.1 hy with rfl | hy
      · exact h3
      · exact i3 y hy
theorem stmtsR_append (m : Mod) (f : MFun) : ∀ (a b : List MItem), stmtsR m f a = none → stmtsR m f (a ++ b) = stmtsR m f b
  | [], b, _ => rfl
  | x :: a, b, h => by
    unfold stmtsR at h
    split at h
    · cases h
    · rename_i hx
      rw [List.cons_append, stmtsR, if_neg hx]; exact stmtsR_append m f a b h
theorem flats_ok0 : ∀ (l : List MStmt) (n : Nat), (∀ s ∈ l, fineS m f s) → stmtsR m f (flats 0 n l) = none ∧ (flats 0 n l).length ≤ 3 * l.length ∧ ∀ y ∈ flats 0 n l, y.s.args.length ≤ 6
  | [], n, _ => by rw [flats_nil]; exact ⟨rfl, by simp, by simp⟩
  | s :: r, n, hl => by
    obtain ⟨h1, h2, h3, h4⟩ := hl s (by simp)
    have hr : ∀ t ∈ r, fineS m f t := fun t ht => hl t (by simp [ht])
    rw [flats_cons]
    split
    · obtain ⟨j1, j2, j3⟩ := flats_ok1 s.body (n + 1) h4
      obtain ⟨i1, i2, i3⟩ := flats_ok0 r (n + 1 + (flats 1 (n + 1) s.body).length) hr
      refine ⟨?_, by simp only [List.length_cons, List.length_append, j2, Nat.zero_add] at i2 ⊢; omega, ?_⟩
      · unfold stmtsR
        rw [if_neg (by rw [h1]; omega), stmtsR_append m f _ _ j1]; exact i1
      · intro y hy
        rcases List.mem_cons.1 hy with rfl | hy
        · exact h2
        · rcases List.mem_append.1 hy with hy | hy
          · exact j3 y hy
          · exact i3 y hy
    · obtain ⟨i1, i2, i3⟩ := flats_ok0 r (n + 1) hr
      refine ⟨?_, by simp only [List.length_cons]; omega, ?_⟩
      · unfold stmtsR; rw [if_neg (by rw [h1]; omega)]; exact i1
      · intro y hy
        rcases List.mem_cons.1 hy with rfl | hy
        · exact h2
        · exact i3 y hy
end
end Go.Abs
/-
  Modules that are made of numbers, whole: none breaks a rule; there is little of each.
-/
namespace Go.Abs
open Go
theorem mem_modify {h : MFun → MFun} : ∀ {fs : List MFun} {j : Nat} {q : MFun}, q ∈ fs.modify j h → q ∈ fs ∨ ∃ p ∈ fs, q = h p
  | [], j, q, hq => by cases j <;> simp at hq
  | f :: fs, 0, q, hq => by
    simp at hq
    rcases hq with rfl | hq
    · exact .inr ⟨f, by simp, rfl⟩
    · exact .inl (by simp [hq])
  | f :: fs, j + 1, q, hq => by
    simp at hq
    rcases hq with rfl | hq
    · exact .inl (by simp)
    · rcases mem_modify hq with h1 | ⟨p, h1, h2⟩
      · exact .inl (by simp [h1])
      · exact .inr ⟨p, by simp [h1], h2⟩
theorem bodyM_mem (m : Mod) (len : Nat) : ∀ (acts : List MAct) (i k : Nat) (fs : List MFun), (∀ f ∈ fs, f.body.length ≤ k ∧ ∀ s ∈ f.body, ∃ x, s = putM m f x) → ∀ f ∈ bodyM m len i acts fs, f.body.length ≤ k + acts.length ∧ ∀ s ∈ f.body, ∃ x, s = putM m f x
  | [], i, k, fs, h => h
  | x :: r, i, k, fs, h => by
    unfold bodyM
    dsimp only
    intro f hf
    have := bodyM_mem m len r (i + 1) (k + 1) _ (fun q hq => ?_) f hf
    · obtain ⟨a, b⟩ := this; exact ⟨by simp only [List.length_cons]; omega, b⟩
    · rcases mem_modify hq with hq | ⟨p, hp, rfl⟩
      · obtain ⟨a, b⟩ := h q hq; exact ⟨by omega, b⟩
      · obtain ⟨a, b⟩ := h p hp
        refine ⟨by simp; omega, fun s hs => ?_⟩
        rcases List.mem_append.1 hs with hs | hs
        · exact b s hs
        · simp at hs; exact ⟨x, hs⟩
theorem funF0_len (f : Nat) : ∀ (n i a : Nat), (funF0 f i a n).length = n
  | 0, _, _ => rfl
  | n + 1, i, a => by simp [funF0, funF0_len f n]
theorem funF0_strip (f : Nat) : ∀ (n i a : Nat), (funF0 f i a n).map strip = funF0 f i a n
  | 0, _, _ => rfl
  | n + 1, i, a => by simp only [funF0, List.map_cons, funF0_strip f n]; rfl
theorem funF0_body (f : Nat) : ∀ (n i a : Nat), ∀ q ∈ funF0 f i a n, q.body = []
  | 0, _, _, q, h => by cases h
  | n + 1, i, a, q, h => by
    simp only [funF0, List.mem_cons] at h
    rcases h with rfl | h
    · rfl
    · exact funF0_body f n _ _ q h
section
variable (g f e : Nat) (acts : List MAct)
theorem raw_bare : bare (rawM g f e acts) = frameM g f e := by
  have h : (rawM g f e acts).funcs.map strip = (frameM g f e).funcs := (bodyM_strip _ _ _ _ _).trans (funF0_strip f _ _ _)
  unfold bare
  rw [h]; rfl
theorem make_bare : bare (makeM g f e acts) = canonM (frameM g f e) := by
  unfold makeM; rw [bare_canon, raw_bare]
/-- goodB, part by part -/
structure FineM (m : Mod) : Prop where
  used : ∀ n ∈ usedR m, 0 ≤ n ∧ n < m.strings.length
  strings : m.strings.length ≤ 100
  globals : m.globals.length ≤ 3
  funcs1 : 1 ≤ m.funcs.length
  funcs : m.funcs.length ≤ 4
  rows : ∀ f ∈ m.funcs, 1 ≤ f.locals.length ∧ f.locals.length ≤ 6 ∧ 1 ≤ f.sites.length ∧ f.sites.length ≤ 2 ∧ 0 ≤ f.params ∧ f.params ≤ 3 ∧ f.params ≤ f.locals.length
  nameG : namesR (canonM m).strings (canonM m).globals [] = 0
  nameF : namesR (canonM m).strings ((canonM m).funcs.map (·.name)) [] = 0
  sorted : sortedR (canonM m) = true
  stringsC : (canonM m).strings.length ≤ 100
  names : ∀ f ∈ (canonM m).funcs, namesR (canonM m).strings f.locals [] = 0 ∧ namesR (canonM m).strings f.sites [] = 0
theorem good_of {m : Mod} (h : goodB m = true) : FineM m := by
  unfold goodB at h
  simp only [Bool.and_eq_true, decide_eq_true_eq] at h
  obtain ⟨⟨⟨⟨⟨⟨⟨⟨⟨⟨h1, h2⟩, h3⟩, h4⟩, h5⟩, h6⟩, h7⟩, h8⟩, h9⟩, h10⟩, h11⟩ := h
  refine ⟨fun n hn => ?_, h2, h3, h4, h5, fun q hq => ?_, h7, h8, h9, h10, fun q hq => ?_⟩
  · have := List.all_eq_true.1 h1 n hn
    simpa using this
  · have := List.all_eq_true.1 h6 q hq
    unfold rowB at this
    simp only [Bool.and_eq_true, decide_eq_true_eq] at this
    obtain ⟨⟨⟨⟨⟨⟨a1, a2⟩, a3⟩, a4⟩, a5⟩, a6⟩, a7⟩ := this
    exact ⟨a1, a2, a3, a4, a5, a6, a7⟩
  · have := List.all_eq_true.1 h11 q hq
    simpa using this
theorem frame_good : FineM (frameM g f e) := good_of (good_all g f e)
/-- a function of the module, and the one that it comes from -/
theorem make_fun {q : MFun} (hq : q ∈ (makeM g f e acts).funcs) : ∃ p ∈ (rawM g f e acts).funcs, q = canonF (canonS (rawM g f e acts)) (rawM g f e acts).strings p ∧ strip p ∈ (frameM g f e).funcs ∧ p.body.length ≤ acts.length ∧ ∀ s ∈ p.body, ∃ x, s = putM (frameM g f e) p x := by
  unfold makeM canonM at hq
  dsimp only at hq
  rw [List.mem_map] at hq
  obtain ⟨p, hp, rfl⟩ := hq
  have h1 : strip p ∈ (rawM g f e acts).funcs.map strip := List.mem_map_of_mem hp
  have h2 : (rawM g f e acts).funcs.map strip = (frameM g f e).funcs := (bodyM_strip _ _ _ _ _).trans (funF0_strip f _ _ _)
  rw [h2] at h1
  have h3 := bodyM_mem (frameM g f e) acts.length acts 0 0 (frameM g f e).funcs (fun q hq => by
    have := funF0_body f _ _ _ q hq
    rw [this]; simp) p hp
  exact ⟨p, hp, rfl, h1, by omega, h3.2⟩
/-- little of each -/
structure Small (m : Mod) (n : Nat) : Prop where
  strings : m.strings.length ≤ 100
  globals : m.globals.length ≤ 3
  funcs1 : 1 ≤ m.funcs.length
  funcs : m.funcs.length ≤ 4
  entries : m.entries.length ≤ 4
  rows : ∀ f ∈ m.funcs, 1 ≤ f.locals.length ∧ f.locals.length ≤ 6 ∧ 1 ≤ f.sites.length ∧ f.sites.length ≤ 2 ∧ 0 ≤ f.params ∧ f.params ≤ 3 ∧ f.params ≤ f.locals.length
  bodies : ∀ f ∈ m.funcs, f.body.length ≤ n ∧ (flats 0 0 f.body).length ≤ 3 * n ∧ (∀ y ∈ flats 0 0 f.body, y.s.args.length ≤ 6) ∧ ∀ s ∈ f.body, fineS m f s
theorem make_rows {q : MFun} (hq : q ∈ (makeM g f e acts).funcs) : 1 ≤ q.locals.length ∧ q.locals.length ≤ 6 ∧ 1 ≤ q.sites.length ∧ q.sites.length ≤ 2 ∧ 0 ≤ q.params ∧ q.params ≤ 3 ∧ q.params ≤ q.locals.length := by
  obtain ⟨p, _, rfl, h, _⟩ := make_fun g f e acts hq
  have := (frame_good g f e).rows _ h
  have hl : (canonF (canonS (rawM g f e acts)) (rawM g f e acts).strings p).locals.length = (strip p).locals.length := by simp [canonF, strip]
  have hs : (canonF (canonS (rawM g f e acts)) (rawM g f e acts).strings p).sites.length = (strip p).sites.length := by simp [canonF, strip]
  rw [hl, hs]; exact this
theorem make_params : (makeM g f e acts).funcs.map (·.params) = (frameM g f e).funcs.map (·.params) := by
  have h2 : (rawM g f e acts).funcs.map strip = (frameM g f e).funcs := (bodyM_strip _ _ _ _ _).trans (funF0_strip f _ _ _)
  have h3 : (makeM g f e acts).funcs.map (·.params) = (rawM g f e acts).funcs.map (·.params) := by
    unfold makeM canonM; dsimp only; rw [List.map_map]; rfl
  rw [h3, params_strip, h2]
theorem make_globals : (makeM g f e acts).globals.length = (frameM g f e).globals.length := by
  unfold makeM canonM; dsimp only; rw [List.length_map]; rfl
theorem make_funcs : (makeM g f e acts).funcs.length = (frameM g f e).funcs.length := by
  have := congrArg List.length (make_params g f e acts)
  simpa using this
theorem make_inM {q : MFun} (hq : q ∈ (makeM g f e acts).funcs) : InM (makeM g f e acts) q (frameM g f e).globals.length q.locals.length q.sites.length ((frameM g f e).funcs.map (·.params)) := by
  have hr := make_rows g f e acts hq
  have hg := frame_good g f e
  refine ⟨make_globals g f e acts, rfl, rfl, make_params g f e acts, by omega, by omega, by rw [List.length_map]; have := hg.funcs1; omega, fun p hp => ?_⟩
  rw [List.mem_map] at hp
  obtain ⟨r, h1, rfl⟩ := hp
  have := hg.rows r h1
  omega
theorem make_small : Small (makeM g f e acts) acts.length := by
  have hg := frame_good g f e
  have hs : (makeM g f e acts).strings = (canonM (frameM g f e)).strings := by rw [← make_bare g f e acts]; rfl
  have hn4 : funN f ≤ 4 := by unfold funN; omega
  refine ⟨by rw [hs]; exact hg.stringsC, by rw [make_globals]; exact hg.globals, by rw [make_funcs]; exact hg.funcs1, by rw [make_funcs]; exact hg.funcs, (entries_ok e (funN f) hn4).2, fun q hq => make_rows g f e acts hq, fun q hq => ?_⟩
  have hi := make_inM g f e acts hq
  obtain ⟨p, _, rfl, h1, h2, h3⟩ := make_fun g f e acts hq
  have hok : ∀ s ∈ (canonF (canonS (rawM g f e acts)) (rawM g f e acts).strings p).body, fineS (makeM g f e acts) (canonF (canonS (rawM g f e acts)) (rawM g f e acts).strings p) s := fun s hs => by
    obtain ⟨x, hx⟩ := h3 s hs
    have := stmtM_ok hi x
    have hl : (canonF (canonS (rawM g f e acts)) (rawM g f e acts).strings p).locals.length = p.locals.length := by simp [canonF]
    have hl2 : (canonF (canonS (rawM g f e acts)) (rawM g f e acts).strings p).sites.length = p.sites.length := by simp [canonF]
    rw [hl, hl2] at this
    rw [hx]; exact this
  obtain ⟨_, b, c⟩ := flats_ok0 _ 0 hok
  have hb : (canonF (canonS (rawM g f e acts)) (rawM g f e acts).strings p).body = p.body := rfl
  rw [hb] at b c ⊢
  exact ⟨h2, by omega, c, hok⟩
theorem funsR_of (m : Mod) : ∀ (l : List MFun) (i : Nat), (∀ f ∈ l, ¬ 0 < funR m f ∧ stmtsR m f (flats 0 0 f.body) = none) → funsR m i l = none
  | [], i, _ => rfl
  | f :: l, i, h => by
    obtain ⟨h1, h2⟩ := h f (by simp)
    unfold funsR
    rw [if_neg h1, h2]
    exact funsR_of m l (i + 1) fun q hq => h q (by simp [hq])
theorem make_tree (hn : acts.length ≤ 100) : treeR (makeM g f e acts) = none := by
  have hg := frame_good g f e
  have hsm := make_small g f e acts
  have hs : (makeM g f e acts).strings = (canonM (frameM g f e)).strings := by rw [← make_bare g f e acts]; rfl
  have hn4 : funN f ≤ 4 := by unfold funN; omega
  have hw : wholeR (makeM g f e acts) = 0 := by
    have e1 : (canonM (frameM g f e)).globals.length = (frameM g f e).globals.length := by unfold canonM; simp
    have e2 : (canonM (frameM g f e)).funcs.length = (frameM g f e).funcs.length := by unfold canonM; simp
    have e3 : (frameM g f e).funcs.length = funN f := funF0_len f _ _ _
    have e4 : (canonM (frameM g f e)).entries = entR e 0 (funN f) := rfl
    have g1 := hg.globals
    have g2 := hg.funcs
    rw [wholeR_bare, make_bare]
    unfold wholeR
    rw [if_neg (by rw [e1, e2, e4]; have := (entries_ok e (funN f) hn4).2; omega), hg.nameG, hg.nameF, if_neg (by omega), if_neg (by omega), e2, e3, e4]
    exact (entries_ok e (funN f) hn4).1
  unfold treeR
  rw [if_neg (by rw [hw]; omega)]
  refine funsR_of _ _ 0 fun q hq => ?_
  obtain ⟨r1, r2, r3, r4, r5, r6, r7⟩ := hsm.rows q hq
  obtain ⟨b1, b2, b3, b4⟩ := hsm.bodies q hq
  have hq' : strip q ∈ (canonM (frameM g f e)).funcs := by
    rw [← make_bare g f e acts]
    exact List.mem_map_of_mem hq
  obtain ⟨n1, n2⟩ := hg.names _ hq'
  refine ⟨?_, (flats_ok0 _ 0 b4).1⟩
  have : funR (makeM g f e acts) q = 0 := by
    unfold funR
    have n1' : namesR (makeM g f e acts).strings q.locals [] = 0 := by rw [hs]; exact n1
    have n2' : namesR (makeM g f e acts).strings q.sites [] = 0 := by rw [hs]; exact n2
    rw [if_neg (by omega), if_neg (by omega), n1', n2', if_neg (by omega)]
  omega
theorem make_sorted : sortedR (makeM g f e acts) = true := by
  rw [sortedR_bare, make_bare]; exact (frame_good g f e).sorted
end
end Go.Abs
