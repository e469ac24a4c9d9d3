/-
  Modules that are made of numbers, whole: none breaks a rule; there is little of each.
-/
import Derived.Test.YtlddnplflakmiaaMakeOk2
set_option autoImplicit false
set_option linter.unusedVariables false
namespace Go.Abs
open Go

theorem mem_modify {h : MFun → MFun} : ∀ {fs : List MFun} {j : Nat} {q : MFun}, q ∈ fs.modify j h → q ∈ fs ∨ ∃ p ∈ fs, q = h p
  | [], j, q, hq => by cases j <;> simp at hq
  | f :: fs, 0, q, hq => by
    simp at hq
    rcases hq with rfl | hq
    · exact .inr ⟨f, by simp, rfl⟩
    · exact .inl (by simp [hq])
  | f :: fs, j + 1, q, hq => by
    simp at hq
    rcases hq with rfl | hq
    · exact .inl (by simp)
    · rcases mem_modify hq with h1 | ⟨p, h1, h2⟩
      · exact .inl (by simp [h1])
      · exact .inr ⟨p, by simp [h1], h2⟩
theorem bodyM_mem (m : Mod) (len : Nat) : ∀ (acts : List MAct) (i k : Nat) (fs : List MFun), (∀ f ∈ fs, f.body.length ≤ k ∧ ∀ s ∈ f.body, ∃ x, s = putM m f x) → ∀ f ∈ bodyM m len i acts fs, f.body.length ≤ k + acts.length ∧ ∀ s ∈ f.body, ∃ x, s = putM m f x
  | [], i, k, fs, h => h
  | x :: r, i, k, fs, h => by
    unfold bodyM
    dsimp only
    intro f hf
    have := bodyM_mem m len r (i + 1) (k + 1) _ (fun q hq => ?_) f hf
    · obtain ⟨a, b⟩ := this; exact ⟨by simp only [List.length_cons]; omega, b⟩
    · rcases mem_modify hq with hq | ⟨p, hp, rfl⟩
      · obtain ⟨a, b⟩ := h q hq; exact ⟨by omega, b⟩
      · obtain ⟨a, b⟩ := h p hp
        refine ⟨by simp; omega, fun s hs => ?_⟩
        rcases List.mem_append.1 hs with hs | hs
        · exact b s hs
        · simp at hs; exact ⟨x, hs⟩
theorem funF0_len (f : Nat) : ∀ (n i a : Nat), (funF0 f i a n).length = n
  | 0, _, _ => rfl
  | n + 1, i, a => by simp [funF0, funF0_len f n]
theorem funF0_strip (f : Nat) : ∀ (n i a : Nat), (funF0 f i a n).map strip = funF0 f i a n
  | 0, _, _ => rfl
  | n + 1, i, a => by simp only [funF0, List.map_cons, funF0_strip f n]; rfl
theorem funF0_body (f : Nat) : ∀ (n i a : Nat), ∀ q ∈ funF0 f i a n, q.body = []
  | 0, _, _, q, h => by cases h
  | n + 1, i, a, q, h => by
    simp only [funF0, List.mem_cons] at h
    rcases h with rfl | h
    · rfl
    · exact funF0_body f n _ _ q h
section
variable (g f e : Nat) (acts : List MAct)
theorem frame_bare : bare (frameM g f e) = frameM g f e := by
  unfold bare
  have : (frameM g f e).funcs.map strip = (frameM g f e).funcs := funF0_strip f _ _ _
  rw [this]
theorem raw_bare : bare (rawM g f e acts) = frameM g f e := by
  have h : (rawM g f e acts).funcs.map strip = (frameM g f e).funcs := (bodyM_strip _ _ _ _ _).trans (funF0_strip f _ _ _)
  unfold bare
  rw [h]; rfl
theorem make_bare : bare (makeM g f e acts) = canonM (frameM g f e) := by
  unfold makeM; rw [bare_canon, raw_bare]
/-- goodB, part by part -/
structure FineM (m : Mod) : Prop where
  used : ∀ n ∈ usedR m, 0 ≤ n ∧ n < m.strings.length
  strings : m.strings.length ≤ 100
  globals : m.globals.length ≤ 3
  funcs1 : 1 ≤ m.funcs.length
  funcs : m.funcs.length ≤ 4
  rows : ∀ f ∈ m.funcs, 1 ≤ f.locals.length ∧ f.locals.length ≤ 6 ∧ 1 ≤ f.sites.length ∧ f.sites.length ≤ 2 ∧ 0 ≤ f.params ∧ f.params ≤ 3 ∧ f.params ≤ f.locals.length
  nameG : namesR (canonM m).strings (canonM m).globals [] = 0
  nameF : namesR (canonM m).strings ((canonM m).funcs.map (·.name)) [] = 0
  sorted : sortedR (canonM m) = true
  stringsC : (canonM m).strings.length ≤ 100
  names : ∀ f ∈ (canonM m).funcs, namesR (canonM m).strings f.locals [] = 0 ∧ namesR (canonM m).strings f.sites [] = 0
theorem good_of {m : Mod} (h : goodB m = true) : FineM m := by
  unfold goodB at h
  simp only [Bool.and_eq_true, decide_eq_true_eq] at h
  obtain ⟨⟨⟨⟨⟨⟨⟨⟨⟨⟨h1, h2⟩, h3⟩, h4⟩, h5⟩, h6⟩, h7⟩, h8⟩, h9⟩, h10⟩, h11⟩ := h
  refine ⟨fun n hn => ?_, h2, h3, h4, h5, fun q hq => ?_, h7, h8, h9, h10, fun q hq => ?_⟩
  · have := List.all_eq_true.1 h1 n hn
    simpa using this
  · have := List.all_eq_true.1 h6 q hq
    unfold rowB at this
    simp only [Bool.and_eq_true, decide_eq_true_eq] at this
    obtain ⟨⟨⟨⟨⟨⟨a1, a2⟩, a3⟩, a4⟩, a5⟩, a6⟩, a7⟩ := this
    exact ⟨a1, a2, a3, a4, a5, a6, a7⟩
  · have := List.all_eq_true.1 h11 q hq
    simpa using this
theorem frame_good : FineM (frameM g f e) := good_of (good_all g f e)
/-- a function of the module, and the one that it comes from -/
theorem make_fun {q : MFun} (hq : q ∈ (makeM g f e acts).funcs) : ∃ p ∈ (rawM g f e acts).funcs, q = canonF (canonS (rawM g f e acts)) (rawM g f e acts).strings p ∧ strip p ∈ (frameM g f e).funcs ∧ p.body.length ≤ acts.length ∧ ∀ s ∈ p.body, ∃ x, s = putM (frameM g f e) p x := by
  unfold makeM canonM at hq
  dsimp only at hq
  rw [List.mem_map] at hq
  obtain ⟨p, hp, rfl⟩ := hq
  have h1 : strip p ∈ (rawM g f e acts).funcs.map strip := List.mem_map_of_mem hp
  have h2 : (rawM g f e acts).funcs.map strip = (frameM g f e).funcs := (bodyM_strip _ _ _ _ _).trans (funF0_strip f _ _ _)
  rw [h2] at h1
  have h3 := bodyM_mem (frameM g f e) acts.length acts 0 0 (frameM g f e).funcs (fun q hq => by
    have := funF0_body f _ _ _ q hq
    rw [this]; simp) p hp
  exact ⟨p, hp, rfl, h1, by omega, h3.2⟩
/-- little of each -/
structure Small (m : Mod) (n : Nat) : Prop where
  strings : m.strings.length ≤ 100
  globals : m.globals.length ≤ 3
  funcs1 : 1 ≤ m.funcs.length
  funcs : m.funcs.length ≤ 4
  entries : m.entries.length ≤ 4
  rows : ∀ f ∈ m.funcs, 1 ≤ f.locals.length ∧ f.locals.length ≤ 6 ∧ 1 ≤ f.sites.length ∧ f.sites.length ≤ 2 ∧ 0 ≤ f.params ∧ f.params ≤ 3 ∧ f.params ≤ f.locals.length
  bodies : ∀ f ∈ m.funcs, f.body.length ≤ n ∧ (flats 0 0 f.body).length ≤ 3 * n ∧ (∀ y ∈ flats 0 0 f.body, y.s.args.length ≤ 6) ∧ ∀ s ∈ f.body, fineS m f s
theorem make_rows {q : MFun} (hq : q ∈ (makeM g f e acts).funcs) : 1 ≤ q.locals.length ∧ q.locals.length ≤ 6 ∧ 1 ≤ q.sites.length ∧ q.sites.length ≤ 2 ∧ 0 ≤ q.params ∧ q.params ≤ 3 ∧ q.params ≤ q.locals.length := by
  obtain ⟨p, _, rfl, h, _⟩ := make_fun g f e acts hq
  have := (frame_good g f e).rows _ h
  have hl : (canonF (canonS (rawM g f e acts)) (rawM g f e acts).strings p).locals.length = (strip p).locals.length := by simp [canonF, strip]
  have hs : (canonF (canonS (rawM g f e acts)) (rawM g f e acts).strings p).sites.length = (strip p).sites.length := by simp [canonF, strip]
  rw [hl, hs]; exact this
theorem make_params : (makeM g f e acts).funcs.map (·.params) = (frameM g f e).funcs.map (·.params) := by
  have h2 : (rawM g f e acts).funcs.map strip = (frameM g f e).funcs := (bodyM_strip _ _ _ _ _).trans (funF0_strip f _ _ _)
  have h3 : (makeM g f e acts).funcs.map (·.params) = (rawM g f e acts).funcs.map (·.params) := by
    unfold makeM canonM; dsimp only; rw [List.map_map]; rfl
  rw [h3, params_strip, h2]
theorem make_globals : (makeM g f e acts).globals.length = (frameM g f e).globals.length := by
  unfold makeM canonM; dsimp only; rw [List.length_map]; rfl
theorem make_funcs : (makeM g f e acts).funcs.length = (frameM g f e).funcs.length := by
  have := congrArg List.length (make_params g f e acts)
  simpa using this
theorem make_inM {q : MFun} (hq : q ∈ (makeM g f e acts).funcs) : InM (makeM g f e acts) q (frameM g f e).globals.length q.locals.length q.sites.length ((frameM g f e).funcs.map (·.params)) := by
  have hr := make_rows g f e acts hq
  have hg := frame_good g f e
  refine ⟨make_globals g f e acts, rfl, rfl, make_params g f e acts, by omega, by omega, by rw [List.length_map]; have := hg.funcs1; omega, fun p hp => ?_⟩
  rw [List.mem_map] at hp
  obtain ⟨r, h1, rfl⟩ := hp
  have := hg.rows r h1
  omega
theorem make_small : Small (makeM g f e acts) acts.length := by
  have hg := frame_good g f e
  have hs : (makeM g f e acts).strings = (canonM (frameM g f e)).strings := by rw [← make_bare g f e acts]; rfl
  have hn4 : funN f ≤ 4 := by unfold funN; omega
  refine ⟨by rw [hs]; exact hg.stringsC, by rw [make_globals]; exact hg.globals, by rw [make_funcs]; exact hg.funcs1, by rw [make_funcs]; exact hg.funcs, (entries_ok e (funN f) hn4).2, fun q hq => make_rows g f e acts hq, fun q hq => ?_⟩
  have hi := make_inM g f e acts hq
  obtain ⟨p, _, rfl, h1, h2, h3⟩ := make_fun g f e acts hq
  have hok : ∀ s ∈ (canonF (canonS (rawM g f e acts)) (rawM g f e acts).strings p).body, fineS (makeM g f e acts) (canonF (canonS (rawM g f e acts)) (rawM g f e acts).strings p) s := fun s hs => by
    obtain ⟨x, hx⟩ := h3 s hs
    have := stmtM_ok hi x
    have hl : (canonF (canonS (rawM g f e acts)) (rawM g f e acts).strings p).locals.length = p.locals.length := by simp [canonF]
    have hl2 : (canonF (canonS (rawM g f e acts)) (rawM g f e acts).strings p).sites.length = p.sites.length := by simp [canonF]
    rw [hl, hl2] at this
    rw [hx]; exact this
  obtain ⟨_, b, c⟩ := flats_ok0 _ 0 hok
  have hb : (canonF (canonS (rawM g f e acts)) (rawM g f e acts).strings p).body = p.body := rfl
  rw [hb] at b c ⊢
  exact ⟨h2, by omega, c, hok⟩
theorem funsR_of (m : Mod) : ∀ (l : List MFun) (i : Nat), (∀ f ∈ l, ¬ 0 < funR m f ∧ stmtsR m f (flats 0 0 f.body) = none) → funsR m i l = none
  | [], i, _ => rfl
  | f :: l, i, h => by
    obtain ⟨h1, h2⟩ := h f (by simp)
    unfold funsR
    rw [if_neg h1, h2]
    exact funsR_of m l (i + 1) fun q hq => h q (by simp [hq])
theorem make_tree (hn : acts.length ≤ 100) : treeR (makeM g f e acts) = none := by
  have hg := frame_good g f e
  have hsm := make_small g f e acts
  have hs : (makeM g f e acts).strings = (canonM (frameM g f e)).strings := by rw [← make_bare g f e acts]; rfl
  have hn4 : funN f ≤ 4 := by unfold funN; omega
  have hw : wholeR (makeM g f e acts) = 0 := by
    have e1 : (canonM (frameM g f e)).globals.length = (frameM g f e).globals.length := by unfold canonM; simp
    have e2 : (canonM (frameM g f e)).funcs.length = (frameM g f e).funcs.length := by unfold canonM; simp
    have e3 : (frameM g f e).funcs.length = funN f := funF0_len f _ _ _
    have e4 : (canonM (frameM g f e)).entries = entR e 0 (funN f) := rfl
    have g1 := hg.globals
    have g2 := hg.funcs
    rw [wholeR_bare, make_bare]
    unfold wholeR
    rw [if_neg (by rw [e1, e2, e4]; have := (entries_ok e (funN f) hn4).2; omega), hg.nameG, hg.nameF, if_neg (by omega), if_neg (by omega), e2, e3, e4]
    exact (entries_ok e (funN f) hn4).1
  unfold treeR
  rw [if_neg (by rw [hw]; omega)]
  refine funsR_of _ _ 0 fun q hq => ?_
  obtain ⟨r1, r2, r3, r4, r5, r6, r7⟩ := hsm.rows q hq
  obtain ⟨b1, b2, b3, b4⟩ := hsm.bodies q hq
  have hq' : strip q ∈ (canonM (frameM g f e)).funcs := by
    rw [← make_bare g f e acts]
    exact List.mem_map_of_mem hq
  obtain ⟨n1, n2⟩ := hg.names _ hq'
  refine ⟨?_, (flats_ok0 _ 0 b4).1⟩
  have : funR (makeM g f e acts) q = 0 := by
    unfold funR
    have n1' : namesR (makeM g f e acts).strings q.locals [] = 0 := by rw [hs]; exact n1
    have n2' : namesR (makeM g f e acts).strings q.sites [] = 0 := by rw [hs]; exact n2
    rw [if_neg (by omega), if_neg (by omega), n1', n2', if_neg (by omega)]
  omega
theorem make_sorted : sortedR (makeM g f e acts) = true := by
  rw [sortedR_bare, make_bare]; exact (frame_good g f e).sorted
theorem make_check (hn : acts.length ≤ 100) : checkR (makeM g f e acts) = none := by
  unfold checkR
  rw [make_tree g f e acts hn]
  simp [make_sorted]
end
end Go.Abs
