import Derived.Test.YtemnahkpffafoaaDoorRuleSpec
import Derived.Test.YtemnahkpffafoaaDoorPackDef
set_option autoImplicit false
namespace Go.Proofs.YtemnahkpffafoaaDoor
open Go Go.Abs
structure FineF (m : Mod) (f : MFun) : Prop where
 locals : f.locals.length ≤ 40
 sites : f.sites.length ≤ 40
 flats : (flats 0 0 f.body).length ≤ 400
 params0 : 0 ≤ f.params
 paramsL : f.params ≤ f.locals.length
 params6 : f.params ≤ 6
 stmts : ∀ x ∈ Go.Abs.flats 0 0 f.body, ¬ 0 < stmtR m f x.deep x.s
structure FineT (m : Mod) : Prop where
 globals : m.globals.length ≤ 40
 funcs : m.funcs.length ≤ 40
 entries : m.entries.length ≤ 40
 fns : ∀ f ∈ m.funcs, FineF m f
theorem stmtsR_none {m : Mod} {f : MFun} : ∀ {l : List MItem}, stmtsR m f l = none → ∀ x ∈ l, ¬ 0 < stmtR m f x.deep x.s
 | [], _, x, hx => by cases hx
 | y :: l, h, x, hx => by
  unfold stmtsR at h
  split at h
  ·cases h
  ·rename_i hy
   rcases List.mem_cons.1 hx with rfl | hx
   ·exact hy
   ·exact stmtsR_none h x hx
theorem tree_fine {m : Mod} (h : treeR m = none) : FineT m := by
 unfold treeR at h
 split at h
 ·cases h
 rename_i hw
 have hb : m.globals.length ≤ 40 ∧ m.funcs.length ≤ 40 ∧ m.entries.length ≤ 40 := by
  unfold wholeR at hw
  split at hw
  ·omega
  ·omega
 refine ⟨hb.1, hb.2.1, hb.2.2, fun f hf => ?_⟩
 obtain ⟨h1, h2⟩ := funsR_none h f hf
 unfold funR at h1
 split at h1
 ·omega
 rename_i g1
 split at h1
 ·omega
 rename_i g2
 exact ⟨by omega, by omega, by omega, by omega, by omega, by omega, stmtsR_none h2⟩
theorem check_tree {m : Mod} (h : checkR m = none) : treeR m = none := by
 unfold checkR at h
 cases ht : treeR m with
 | none => rfl
 | some x => rw [ht] at h; cases h
structure FineS (m : Mod) (f : MFun) (s : MStmt) : Prop where
 kinds : kindsR s = true
 a : thereR m f s.a = true
 b : thereR m f s.b = true
 args : ∀ r ∈ s.args, thereR m f r = true
 call : s.kind = 5 → s.args.length ≤ 6 ∧ (s.b.k = 3 → (s.args.length : Int) = (m.funcs[s.b.id.toNat]?.getD default).params)
theorem stmt_fine {m : Mod} {f : MFun} {d : Nat} {s : MStmt} (h : ¬ 0 < stmtR m f d s) : FineS m f s := by
 unfold stmtR at h
 split at h
 ·omega
 split at h
 ·omega
 rename_i h1
 split at h
 ·omega
 rename_i h2
 split at h
 ·omega
 rename_i h3
 refine ⟨by simpa using h1, ?_, ?_, fun r hr => ?_, fun h5 => ⟨?_, fun h6 => ?_⟩⟩
 ·cases q : thereR m f s.a with
  | true => rfl
  | false => exact absurd (.inl q) h2
 ·cases q : thereR m f s.b with
  | true => rfl
  | false => exact absurd (.inr (.inl q)) h2
 ·cases q : thereR m f r with
  | true => rfl
  | false => exact absurd (.inr (.inr ⟨r, hr, q⟩)) h2
 ·rcases Nat.lt_or_ge 6 s.args.length with q | q
  ·exact absurd ⟨h5, .inl q⟩ h3
  ·exact q
 ·by_cases q : (s.args.length : Int) = (m.funcs[s.b.id.toNat]?.getD default).params
  ·exact q
  ·exact absurd ⟨h5, .inr ⟨h6, q⟩⟩ h3
end Go.Proofs.YtemnahkpffafoaaDoor
namespace Go.Proofs.YtemnahkpffafoaaDoor
open Go Go.Abs
theorem range_sub : ∀ (n : Nat) (l : List Int), (∀ i : Nat, i < n → (i : Int) ∈ l) → n ≤ l.length
 | 0, _, _ => by omega
 | n + 1, l, h => by
  have hm := h n (by omega)
  have := range_sub n (l.erase (n : Int)) (fun i hi => (List.mem_erase_of_ne (by omega)).2 (h i (by omega)))
  rw [List.length_erase_of_mem hm] at this
  have : 0 < l.length := List.length_pos_of_mem hm
  omega
theorem sortR_in {used : List Int} : ∀ {ss : List ByteArray} {i : Nat} {p : Option ByteArray}, sortR used i p ss = true → ∀ k : Nat, k < ss.length → ((i + k : Nat) : Int) ∈ used
 | [], _, _, _, k, hk => by simp at hk
 | s :: r, i, p, h, k, hk => by
  unfold sortR at h
  simp only [Bool.and_eq_true, decide_eq_true_eq] at h
  cases k with
  | zero => exact h.1.1
  | succ k =>
   have := sortR_in h.2 k (by simp at hk; omega)
   rw [show i + (k + 1) = i + 1 + k by omega]; exact this
theorem isName_got {ss : List ByteArray} {n : Int} (h : isName ss n = true) : 0 ≤ n ∧ ∃ s, ss[n.toNat]? = some s ∧ s.size ≤ 40 := by
 unfold isName at h
 simp only [Bool.and_eq_true, decide_eq_true_eq] at h
 refine ⟨h.1, ?_⟩
 cases hs : ss[n.toNat]? with
 | none => rw [hs] at h; simp at h
 | some s => rw [hs] at h; simp only [Bool.and_eq_true, decide_eq_true_eq] at h; exact ⟨s, rfl, h.2.2⟩
structure NamedF (m : Mod) (f : MFun) : Prop where
 locals : ∀ n ∈ f.locals, isName m.strings n = true
 sites : ∀ n ∈ f.sites, isName m.strings n = true
structure NamedT (m : Mod) : Prop where
 globals : ∀ n ∈ m.globals, isName m.strings n = true
 funcs : ∀ f ∈ m.funcs, isName m.strings f.name = true
 fns : ∀ f ∈ m.funcs, NamedF m f
 entries : ∀ n ∈ m.entries, 0 ≤ n ∧ n < m.funcs.length
theorem entriesR_in {k : Nat} : ∀ {l seen : List Int}, ¬ 0 < entriesR k l seen → ∀ n ∈ l, 0 ≤ n ∧ n < k
 | [], _, _, n, hn => by cases hn
 | e :: r, seen, h, n, hn => by
  unfold entriesR at h
  split at h
  ·omega
  rename_i h1
  split at h
  ·omega
  rcases List.mem_cons.1 hn with rfl | hn
  ·omega
  ·exact entriesR_in h n hn
theorem tree_named {m : Mod} (h : treeR m = none) : NamedT m := by
 unfold treeR at h
 split at h
 ·cases h
 rename_i hw
 unfold wholeR at hw
 split at hw
 ·omega
 split at hw
 ·contradiction
 rename_i h1
 split at hw
 ·contradiction
 rename_i h2
 refine ⟨namesR_names h1, fun f hf => namesR_names h2 _ (List.mem_map_of_mem hf), fun f hf => ?_, entriesR_in hw⟩
 obtain ⟨g1, g2⟩ := funsR_none h f hf
 unfold funR at g1
 split at g1
 ·omega
 split at g1
 ·omega
 split at g1
 ·contradiction
 rename_i g3
 exact ⟨namesR_names g3, namesR_names g1⟩
theorem check_sorted {m : Mod} (h : checkR m = none) : sortedR m = true := by
 unfold checkR at h
 rw [check_tree h] at h
 dsimp only at h
 split at h
 ·assumption
 ·cases h
theorem flat_at {α β : Type} {f : α → List β} {b : Nat} : ∀ {l : List α}, (∀ a ∈ l, (f a).length ≤ b) → (l.flatMap f).length ≤ l.length * b
 | [], _ => by simp
 | a :: l, h => by
  have h1 := h a (by simp)
  have h2 := flat_at (l := l) (fun x hx => h x (by simp [hx]))
  rw [List.flatMap_cons, List.length_append, List.length_cons, Nat.succ_mul]; omega
theorem used_len {m : Mod} (ht : FineT m) : (usedR m).length ≤ 3280 := by
 unfold usedR
 have h1 := ht.globals
 have h2 := ht.funcs
 have h3 : (m.funcs.flatMap fun f => f.name :: (f.locals ++ f.sites)).length ≤ m.funcs.length * 81 := flat_at fun f hf => by
  have := (ht.fns f hf).locals; have := (ht.fns f hf).sites
  simp; omega
 rw [List.length_append]; omega
theorem used_named {m : Mod} (ht : NamedT m) {n : Int} (h : n ∈ usedR m) : isName m.strings n = true := by
 unfold usedR at h
 rcases List.mem_append.1 h with h | h
 ·exact ht.globals n h
 ·obtain ⟨f, hf, hn⟩ := List.mem_flatMap.1 h
  rcases List.mem_cons.1 hn with rfl | hn
  ·exact ht.funcs f hf
  ·rcases List.mem_append.1 hn with hn | hn
   ·exact (ht.fns f hf).locals n hn
   ·exact (ht.fns f hf).sites n hn
theorem strings_ok {m : Mod} (h : checkR m = none) : m.strings.length ≤ 3280 ∧ ∀ s ∈ m.strings, s.size ≤ 40 := by
 have ht := tree_fine (check_tree h)
 have hn := tree_named (check_tree h)
 have hs := check_sorted h
 have hin : ∀ k : Nat, k < m.strings.length → ((k : Nat) : Int) ∈ usedR m := fun k hk => by have := sortR_in hs k hk; simpa using this
 refine ⟨Nat.le_trans (range_sub _ _ hin) (used_len ht), fun s hs => ?_⟩
 obtain ⟨k, hk, he⟩ := List.getElem_of_mem hs
 obtain ⟨_, t, h1, h2⟩ := isName_got (used_named hn (hin k hk))
 rw [Int.toNat_natCast, List.getElem?_eq_getElem hk] at h1
 cases h1
 rw [← he]; exact h2
theorem name_ok {m : Mod} (h : m.strings.length ≤ 3280) {n : Int} (hn : isName m.strings n = true) : 0 ≤ n ∧ n ≤ 1048576 := by
 obtain ⟨h0, t, h1, h2⟩ := isName_got hn
 have : n.toNat < m.strings.length := by
  rcases Nat.lt_or_ge n.toNat m.strings.length with q | q
  ·exact q
  ·rw [List.getElem?_eq_none q] at h1; cases h1
 omega
section
variable {m : Mod} {f : MFun}
theorem ref_ok (ht : FineT m) (hf : FineF m f) {r : MRef} (h : thereR m f r = true) (hk : r = ⟨0, 0⟩ ∨ 1 ≤ r.k ∧ r.k ≤ 4) : okRef r := by
 rcases hk with h0 | hk
 ·exact .inl h0
 ·refine .inr ⟨hk.1, hk.2, ?_⟩
  unfold thereR at h
  rw [if_neg (by omega)] at h
  simp only [Bool.and_eq_true, decide_eq_true_eq] at h
  have := hf.locals; have := hf.sites; have := ht.globals; have := ht.funcs
  obtain ⟨h1, h2⟩ := h
  refine ⟨h1, ?_⟩
  split at h2
  ·omega
  split at h2
  ·omega
  split at h2 <;> omega
theorem varR_k {r : MRef} (h : varR r = true) : 1 ≤ r.k ∧ r.k ≤ 4 := by
 unfold varR at h
 simp at h; omega
theorem kinds_cases {s : MStmt} (h : kindsR s = true) : (s.kind = 1 ∧ s.args = [] ∧ s.body = [] ∧ varR s.a = true ∧ 1 ≤ s.b.k ∧ s.b.k ≤ 4) ∨ ((s.kind = 2 ∨ s.kind = 3 ∨ s.kind = 4) ∧ s.args = [] ∧ s.body = [] ∧ varR s.a = true ∧ varR s.b = true) ∨
  (s.kind = 5 ∧ (∀ r ∈ s.args, varR r = true) ∧ s.body = [] ∧ (s.a = ⟨0, 0⟩ ∨ varR s.a = true) ∧ (varR s.b = true ∨ s.b.k = 3)) ∨ (s.kind = 6 ∧ s.args = [] ∧ s.body = [] ∧ s.a = ⟨0, 0⟩ ∧ varR s.b = true) ∨ (s.kind = 7 ∧ s.a = ⟨0, 0⟩ ∧ s.b = ⟨0, 0⟩ ∧ s.args = []) := by
 unfold kindsR at h
 by_cases h1 : s.kind = 1
 ·rw [if_pos h1, decide_eq_true_eq] at h; exact .inl ⟨h1, h⟩
 rw [if_neg h1] at h
 by_cases h2 : s.kind = 2 ∨ s.kind = 3 ∨ s.kind = 4
 ·rw [if_pos h2, decide_eq_true_eq] at h; exact .inr (.inl ⟨h2, h⟩)
 rw [if_neg h2] at h
 by_cases h5 : s.kind = 5
 ·rw [if_pos h5, decide_eq_true_eq] at h; exact .inr (.inr (.inl ⟨h5, h⟩))
 rw [if_neg h5] at h
 by_cases h6 : s.kind = 6
 ·rw [if_pos h6, decide_eq_true_eq] at h; exact .inr (.inr (.inr (.inl ⟨h6, h⟩)))
 rw [if_neg h6] at h
 by_cases h7 : s.kind = 7
 ·rw [if_pos h7, decide_eq_true_eq] at h; exact .inr (.inr (.inr (.inr ⟨h7, h⟩)))
 rw [if_neg h7] at h
 cases h
theorem okSt_of (ht : FineT m) (hf : FineF m f) : ∀ (N : Nat) (rest : List MStmt) (d k : Nat), SizeOf.sizeOf rest ≤ N → (flats d k rest).length ≤ 400 → (∀ x ∈ flats d k rest, ¬ 0 < stmtR m f x.deep x.s) → ∀ s ∈ rest, okSt (16 - d) s ∧ d ≤ 8 := by
 intro N
 induction N with
 | zero => intro rest d k hs; cases rest <;> simp at hs
 | succ N ih =>
  intro rest d k hs hlen hx s hm
  cases rest with
  | nil => cases hm
  | cons t r =>
   have hfst : ¬ 0 < stmtR m f d t := by
    rw [flats_cons] at hx
    split at hx
    ·exact hx ⟨k, d, t⟩ (by simp)
    ·exact hx ⟨k, d, t⟩ (by simp)
   have hd : d ≤ 8 := by
    unfold stmtR at hfst
    split at hfst
    ·omega
    ·omega
   rcases List.mem_cons.1 hm with rfl | hm
   ·refine ⟨?_, hd⟩
    have hfine := stmt_fine hfst
    obtain ⟨kd, a, b, args, body⟩ := s
    obtain ⟨n, hn⟩ : ∃ n, 16 - d = n + 1 := ⟨15 - d, by omega⟩
    rw [hn]
    have hk := kinds_cases hfine.kinds
    have ha := hfine.a
    have hb := hfine.b
    have hargs := hfine.args
    have hcall := hfine.call
    dsimp only [MStmt.kind, MStmt.a, MStmt.b, MStmt.args, MStmt.body] at ha hb hargs hcall hk
    unfold okSt
    rcases hk with ⟨h1, k1, k2, k3, k4⟩ | ⟨h2, k1, k2, k3, k4⟩ | ⟨h5, k1, k2, k3, k4⟩ | ⟨h6, k1, k2, k3, k4⟩ | ⟨h7, k1, k2, k3⟩
    ·rw [if_neg (by omega), if_neg (by omega), if_neg (by omega)]
     exact ⟨by omega, by omega, k2, ref_ok ht hf hb (.inr k4), k1, ref_ok ht hf ha (.inr (varR_k k3))⟩
    ·rw [if_neg (by omega), if_neg (by omega), if_neg (by omega)]
     exact ⟨by omega, by omega, k2, ref_ok ht hf hb (.inr (varR_k k4)), k1, ref_ok ht hf ha (.inr (varR_k k3))⟩
    ·rw [if_neg (by omega), if_pos h5, if_neg (by omega)]
     have := (hcall h5).1
     refine ⟨by omega, by omega, k2, ref_ok ht hf hb (.inr ?_), ⟨by omega, fun r hr => ref_ok ht hf (hargs r hr) (.inr (varR_k (k1 r hr)))⟩, ref_ok ht hf ha ?_⟩
     ·rcases k4 with k4 | k4
      ·exact varR_k k4
      ·omega
     ·rcases k3 with k3 | k3
      ·exact .inl k3
      ·exact .inr (varR_k k3)
    ·rw [if_neg (by omega), if_neg (by omega), if_pos h6]
     exact ⟨by omega, by omega, k2, ref_ok ht hf hb (.inr (varR_k k4)), k1, k3⟩
    ·rw [if_pos h7]
     rw [flats_cons, if_pos ⟨h7, by omega⟩] at hlen hx
     dsimp only [MStmt.body] at hlen hx
     simp only [List.length_cons, List.length_append] at hlen
     have hge := flats_ge (d + 1) (k + 1) body
     refine ⟨by omega, by omega, k1, k2, k3, by omega, fun s hs' => ?_⟩
     have := ih body (d + 1) (k + 1) (by simp at hs; omega) (by omega) (fun x hx' => hx x (by simp [hx'])) s hs'
     rw [show n = 16 - (d + 1) by omega]; exact this.1
   ·have hsz : SizeOf.sizeOf r ≤ N := by simp at hs; omega
    rw [flats_cons] at hlen hx
    split at hlen
    ·rename_i hc
     rw [if_pos hc] at hx
     simp only [List.length_cons, List.length_append] at hlen
     exact ih r d (k + 1 + (flats (d + 1) (k + 1) t.body).length) hsz (by omega) (fun x hx' => hx x (by simp [hx'])) s hm
    ·rename_i hc
     rw [if_neg hc] at hx
     simp only [List.length_cons] at hlen
     exact ih r d (k + 1) hsz (by omega) (fun x hx' => hx x (by simp [hx'])) s hm
theorem flats_in (d k : Nat) (kd : Int) (a c : MRef) (args : List MRef) (body r : List MStmt) (h : kd = 7 ∧ d < 1000) : flats d k (.mk kd a c args body :: r) = ⟨k, d, .mk kd a c args body⟩ :: (flats (d + 1) (k + 1) body ++ flats d (k + 1 + (flats (d + 1) (k + 1) body).length) r) := by
 rw [flats_cons]; exact if_pos h
theorem flats_by (d k : Nat) (kd : Int) (a c : MRef) (args : List MRef) (body r : List MStmt) (h : ¬ (kd = 7 ∧ d < 1000)) : flats d k (.mk kd a c args body :: r) = ⟨k, d, .mk kd a c args body⟩ :: flats d (k + 1) r := by
 rw [flats_cons]; exact if_neg h
theorem nuB_short (n : Int) : (nuB n).length ≤ 10 := putB_len (by omega)
theorem stmts_short (b : Nat) : ∀ (N : Nat) (rest : List MStmt) (d k : Nat), SizeOf.sizeOf rest ≤ N → (∀ x ∈ flats d k rest, x.s.args.length ≤ b ∧ x.deep ≤ 8) → (rest.flatMap stmtB).length ≤ (flats d k rest).length * (50 + b * 10) := by
 intro N
 induction N with
 | zero => intro rest d k hs; cases rest <;> simp at hs
 | succ N ih =>
  intro rest d k hs hx
  cases rest with
  | nil => simp
  | cons s r =>
   have hsz : SizeOf.sizeOf r ≤ N := by simp at hs; omega
   rw [List.flatMap_cons, List.length_append]
   obtain ⟨kd, a, c, args, body⟩ := s
   have n1 := nuB_short kd
   have n3 : (refB a).length ≤ 10 := nuB_short _
   have n4 : (refB c).length ≤ 10 := nuB_short _
   have n5 := nuB_short (args.length : Nat)
   have n6 := nuB_short (body.length : Nat)
   rw [stmtB]
   by_cases h7 : kd = 7
   ·by_cases hd : d < 1000
    ·have fc := flats_in d k kd a c args body r ⟨h7, hd⟩
     rw [fc] at hx ⊢
     rw [if_pos h7, stmtsB_flat]
     have i1 := ih body (d + 1) (k + 1) (by simp at hs; omega) (fun x hx' => hx x (by simp [hx']))
     have i2 := ih r d _ hsz (fun x hx' => hx x (List.mem_cons_of_mem _ (List.mem_append_right _ hx')))
     simp only [List.length_append, List.length_cons, Nat.succ_mul, Nat.add_mul]
     have hb : 0 ≤ b * 10 := Nat.zero_le _
     omega
    ·have fc := flats_by d k kd a c args body r (by omega)
     have := (hx ⟨k, d, .mk kd a c args body⟩ (by rw [fc]; simp)).2
     dsimp only at this; omega
   ·have fc := flats_by d k kd a c args body r (by omega)
    rw [fc] at hx ⊢
    rw [if_neg h7]
    have h0 := (hx ⟨k, d, .mk kd a c args body⟩ (by simp)).1
    dsimp only [MStmt.args] at h0
    have i2 := ih r d _ hsz (fun x hx' => hx x (List.mem_cons_of_mem _ hx'))
    have ha : (args.flatMap refB).length ≤ args.length * 10 := flat_at fun x _ => nuB_short _
    have ha2 : args.length * 10 ≤ b * 10 := Nat.mul_le_mul_right _ h0
    have hp1 : (if kd = 5 then nuB args.length ++ args.flatMap refB else []).length ≤ 10 + b * 10 := by
     split
     ·rw [List.length_append]; omega
     ·simp
    have hp2 : (if kd ≠ 6 then refB a else []).length ≤ 10 := by
     split
     ·exact n3
     ·simp
    simp only [List.length_append, List.length_cons, Nat.succ_mul]
    omega
end
theorem okPk_of {m : Mod} (h : checkR m = none) : okPk m ∧ (packB m).length ≤ 10000000 := by
 have ht := tree_fine (check_tree h)
 have hn := tree_named (check_tree h)
 obtain ⟨hs, hs2⟩ := strings_ok h
 have hg := ht.globals; have hf := ht.funcs; have he := ht.entries
 have hfun : ∀ f ∈ m.funcs, okFnP f ∧ (funB f).length ≤ 60000 := by
  intro f hfm
  have ff := ht.fns f hfm
  have nf := hn.fns f hfm
  have hst := okSt_of ht ff _ f.body 0 0 (Nat.le_refl _) ff.flats ff.stmts
  have hge := flats_ge 0 0 f.body
  have h1 := ff.locals; have h2 := ff.sites; have h3 := ff.params0; have h4 := ff.paramsL; have h5 := ff.flats
  refine ⟨⟨name_ok hs (hn.funcs f hfm), by omega, ⟨by omega, fun n hn' => name_ok hs (nf.locals n hn')⟩, ⟨by omega, fun n hn' => name_ok hs (nf.sites n hn')⟩, by omega, fun s hs' => (hst s hs').1⟩, ?_⟩
  have hsh := stmts_short 6 _ f.body 0 0 (Nat.le_refl _) fun x hx => by
   have hq := ff.stmts x hx
   have hfine := stmt_fine hq
   refine ⟨?_, ?_⟩
   ·rcases kinds_cases hfine.kinds with h | h | h | h | h
    ·rw [h.2.1]; simp
    ·rw [h.2.1]; simp
    ·exact (hfine.call h.1).1
    ·rw [h.2.1]; simp
    ·rw [h.2.2.2]; simp
   ·unfold stmtR at hq
    split at hq
    ·omega
    ·omega
  have q1 := nuB_short f.name
  have q2 := nuB_short f.params
  have q3 := nuB_short (f.locals.length : Nat)
  have q4 := nuB_short (f.sites.length : Nat)
  have q5 := nuB_short (f.body.length : Nat)
  have q6 : (f.locals.flatMap nuB).length ≤ f.locals.length * 10 := flat_at fun x _ => nuB_short x
  have q7 : (f.sites.flatMap nuB).length ≤ f.sites.length * 10 := flat_at fun x _ => nuB_short x
  unfold funB listB bodyB
  simp only [List.length_append]
  omega
 refine ⟨⟨⟨by omega, hs2⟩, ⟨by omega, fun n hn' => name_ok hs (hn.globals n hn')⟩, ⟨by omega, fun f hf' => (hfun f hf').1⟩, ⟨by omega, fun n hn' => by have := hn.entries n hn'; omega⟩⟩, ?_⟩
 have q1 := nuB_short (m.strings.length : Nat)
 have q2 : (m.strings.flatMap textB).length ≤ m.strings.length * 50 := flat_at fun s hs' => by
  have := hs2 s hs'
  have n1 := nuB_short (s.size : Nat)
  have n2 : s.data.toList.length = s.size := by rw [Array.length_toList]; rfl
  unfold textB; rw [List.length_append]; omega
 have q3 := nuB_short (m.globals.length : Nat)
 have q4 : (m.globals.flatMap nuB).length ≤ m.globals.length * 10 := flat_at fun x _ => nuB_short x
 have q5 := nuB_short (m.funcs.length : Nat)
 have q6 : (m.funcs.flatMap funB).length ≤ m.funcs.length * 60000 := flat_at fun f hf' => (hfun f hf').2
 have q7 := nuB_short (m.entries.length : Nat)
 have q8 : (m.entries.flatMap nuB).length ≤ m.entries.length * 10 := flat_at fun x _ => nuB_short x
 unfold packB listB
 simp only [List.length_append]
 omega
end Go.Proofs.YtemnahkpffafoaaDoor
