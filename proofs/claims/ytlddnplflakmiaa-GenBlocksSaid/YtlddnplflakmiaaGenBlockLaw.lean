/-
  Blocks play no part: the same constraints, in the same order.
-/
import Derived.Test.YtlddnplflakmiaaDraftArgs
import Derived.Test.YtlddnplflakmiaaGenSmall
import Derived.Test.YtlddnplflakmiaaGenOk
set_option autoImplicit false
set_option linter.unusedVariables false
set_option linter.unusedSimpArgs false
namespace Go.Proofs.Ytlddnplflakmiaa
open Go Go.Abs
/-- a body in two blocks -/
def blkS (l : List MStmt) : MStmt := .mk 7 ⟨0, 0⟩ ⟨0, 0⟩ [] l
def splitB (k : Nat) (l : List MStmt) : List MStmt := [blkS (l.take k), blkS (l.drop k)]
def splitF (s : Nat) (f : MFun) : MFun := { f with body := splitB (s % (f.body.length + 1)) f.body }
def splitM (s : Nat) (m : Mod) : Mod := { m with funcs := m.funcs.map (splitF s) }
/-! ### statements of bodies that are two deep -/
def allS (l : List MStmt) : List MStmt := l.flatMap fun s => s :: (if s.kind = 7 then s.body else [])
theorem flats_plain (d : Nat) : ∀ (l : List MStmt) (n : Nat), (∀ t ∈ l, t.kind ≠ 7) → (flats d n l).map (·.s) = l ∧ ∀ x ∈ flats d n l, x.deep = d
  | [], n, _ => by rw [flats_nil]; exact ⟨rfl, by simp⟩
  | s :: r, n, h => by
    obtain ⟨h1, h2⟩ := flats_plain d r (n + 1) fun t ht => h t (by simp [ht])
    rw [flats_cons, if_neg (fun q => h s (by simp) q.1)]
    refine ⟨by rw [List.map_cons, h1], fun x hx => ?_⟩
    rcases List.mem_cons.1 hx with rfl | hx
    · rfl
    · exact h2 x hx
theorem flats_two (d : Nat) (hd : d < 900) : ∀ (l : List MStmt) (n : Nat), (∀ s ∈ l, ∀ t ∈ s.body, t.kind ≠ 7) → (flats d n l).map (·.s) = allS l ∧ ∀ x ∈ flats d n l, x.deep ≤ d + 1
  | [], n, _ => by rw [flats_nil]; exact ⟨rfl, by simp⟩
  | s :: r, n, h => by
    have hr : ∀ s ∈ r, ∀ t ∈ s.body, t.kind ≠ 7 := fun t ht => h t (by simp [ht])
    have ha : allS (s :: r) = (s :: (if s.kind = 7 then s.body else [])) ++ allS r := by unfold allS; rw [List.flatMap_cons]
    rw [flats_cons, ha]
    by_cases h7 : s.kind = 7
    · obtain ⟨p1, p2⟩ := flats_plain (d + 1) s.body (n + 1) (h s (by simp))
      obtain ⟨h1, h2⟩ := flats_two d hd r (n + 1 + (flats (d + 1) (n + 1) s.body).length) hr
      rw [if_pos ⟨h7, by omega⟩, if_pos h7]
      refine ⟨by rw [List.map_cons, List.map_append, p1, h1]; rfl, fun x hx => ?_⟩
      rcases List.mem_cons.1 hx with rfl | hx
      · exact Nat.le_succ d
      · rcases List.mem_append.1 hx with hx | hx
        · exact Nat.le_of_eq (p2 x hx)
        · exact h2 x hx
    · obtain ⟨h1, h2⟩ := flats_two d hd r (n + 1) hr
      rw [if_neg (fun q => h7 q.1), if_neg h7]
      refine ⟨by rw [List.map_cons, h1]; rfl, fun x hx => ?_⟩
      rcases List.mem_cons.1 hx with rfl | hx
      · exact Nat.le_succ d
      · exact h2 x hx
theorem flats_split (k : Nat) (l : List MStmt) (h : ∀ s ∈ l, ∀ t ∈ s.body, t.kind ≠ 7) : (flats 0 0 (splitB k l)).map (·.s) = blkS (l.take k) :: (allS (l.take k) ++ blkS (l.drop k) :: allS (l.drop k)) ∧ ∀ x ∈ flats 0 0 (splitB k l), x.deep ≤ 2 := by
  obtain ⟨a1, a2⟩ := flats_two 1 (by omega) (l.take k) 1 fun s hs => h s (List.mem_of_mem_take hs)
  obtain ⟨b1, b2⟩ := flats_two 1 (by omega) (l.drop k) (0 + 1 + (flats 1 1 (l.take k)).length + 1) fun s hs => h s (List.mem_of_mem_drop hs)
  unfold splitB
  rw [flats_cons, if_pos ⟨rfl, by omega⟩, flats_cons, if_pos ⟨rfl, by omega⟩, flats_nil]
  have e1 : (blkS (l.take k)).body = l.take k := rfl
  have e2 : (blkS (l.drop k)).body = l.drop k := rfl
  rw [e1, e2]
  refine ⟨?_, fun x hx => ?_⟩
  · simp only [List.map_cons, List.map_append, List.map_nil, List.append_nil]
    rw [a1, b1]
  · simp only [List.mem_cons, List.mem_append, List.not_mem_nil, or_false] at hx
    rcases hx with rfl | hx | rfl | hx
    · exact Nat.zero_le _
    · exact a2 x hx
    · exact Nat.zero_le _
    · exact b2 x hx
theorem allS_append (a b : List MStmt) : allS (a ++ b) = allS a ++ allS b := by unfold allS; rw [List.flatMap_append]
theorem allS_len : ∀ l : List MStmt, (∀ s ∈ l, s.body.length ≤ 2) → (allS l).length ≤ 3 * l.length
  | [], _ => by simp [allS]
  | s :: r, h => by
    have h1 := allS_len r fun t ht => h t (by simp [ht])
    have h2 := h s (by simp)
    have : allS (s :: r) = (s :: (if s.kind = 7 then s.body else [])) ++ allS r := by unfold allS; rw [List.flatMap_cons]
    rw [this, List.length_append, List.length_cons, List.length_cons]
    split
    · omega
    · simp; omega
section
variable (s : Nat) (m : Mod)
theorem split_bare : bare (splitM s m) = bare m := by unfold bare splitM; dsimp only; rw [List.map_map]; rfl
theorem split_from {b : Int → MFun → List Thing} (hb : ∀ f g, b f (splitF s g) = b f g) : ∀ (fs : List MFun) (f : Nat), fromF b f (fs.map (splitF s)) = fromF b f fs
  | [], _ => rfl
  | g :: r, f => by rw [List.map_cons, fromF, fromF, hb, split_from hb r]
theorem split_vars : varsR (splitM s m) = varsR m := by
  unfold varsR
  have := split_from s (b := varsOfF) (fun _ _ => rfl) m.funcs 0
  unfold splitM
  dsimp only
  rw [this]
theorem split_cellsR : cellsR (splitM s m) = cellsR m := by
  unfold cellsR
  have := split_from s (b := cellsOfF) (fun _ _ => rfl) m.funcs 0
  unfold splitM
  dsimp only
  rw [this]
theorem split_get (i : Nat) : (splitM s m).funcs[i]? = (m.funcs[i]?).map (splitF s) := by unfold splitM; simp
theorem split_argsT (f : Int) : ∀ (n k : Nat), argsT (splitM s m) f k n = argsT m f k n
  | 0, _ => rfl
  | n + 1, k => by unfold argsT; rw [split_vars, split_argsT f n]
theorem split_getF (j : Int) : getF (splitM s m) j = (getF m j).map (splitF s) := by
  unfold getF
  split
  · exact split_get s m _
  · rfl
theorem split_cellT (t : Thing) : cellT (splitM s m) t = cellT m t := by
  unfold cellT
  rw [split_vars, split_argsT, split_getF]
  cases getF m t.2.1 <;> rfl
theorem split_parT (f : Int) : ∀ (l : List Int) (k : Nat), parT (splitM s m) f k l = parT m f k l
  | [], _ => rfl
  | n :: r, k => by unfold parT; rw [split_vars, split_parT f r]
theorem split_consT (f : Nat) (x : MStmt) : consT (splitM s m) f x = consT m f x := by
  unfold consT
  rw [split_vars, split_cellsR, split_parT]
theorem blk_consT (f : Nat) (l : List MStmt) : consT m f (blkS l) = [] := by
  unfold consT
  have : (blkS l).kind = 7 := rfl
  rw [this, if_neg (by decide), if_neg (by decide), if_neg (by decide), if_neg (by decide), if_neg (by decide), if_neg (by decide)]
theorem split_consFrom : ∀ (fs : List MFun) (f : Nat), (∀ g ∈ fs, ∀ x ∈ g.body, ∀ t ∈ x.body, t.kind ≠ 7) → consFrom (splitM s m) f (fs.map (splitF s)) = consFrom m f fs
  | [], _, _ => rfl
  | g :: r, f, h => by
    have hg := h g (by simp)
    obtain ⟨a1, _⟩ := flats_split (s % (g.body.length + 1)) g.body hg
    obtain ⟨b1, _⟩ := flats_two 0 (by omega) g.body 0 hg
    rw [List.map_cons, consFrom, consFrom, split_consFrom r (f + 1) fun g' hg' => h g' (by simp [hg'])]
    congr 1
    have e : ∀ l : List MItem, (l.flatMap fun x => consT (splitM s m) f x.s) = (l.map (·.s)).flatMap (consT m f) := fun l => by
      rw [List.flatMap_map]; congr 1; funext x; exact split_consT s m f x.s
    have e2 : ∀ l : List MItem, (l.flatMap fun x => consT m f x.s) = (l.map (·.s)).flatMap (consT m f) := fun l => by rw [List.flatMap_map]
    rw [e, e2, b1]
    have : (splitF s g).body = splitB (s % (g.body.length + 1)) g.body := rfl
    rw [this, a1, List.flatMap_cons, List.flatMap_append, List.flatMap_cons, blk_consT, blk_consT, List.nil_append, List.nil_append, ← List.flatMap_append, ← allS_append, List.take_append_drop]
theorem split_sys (h : ∀ g ∈ m.funcs, ∀ x ∈ g.body, ∀ t ∈ x.body, t.kind ≠ 7) : sysT (splitM s m) = sysT m := by
  unfold sysT
  rw [split_vars, split_cellsR]
  have h1 : (cellsR m).map (cellT (splitM s m)) = (cellsR m).map (cellT m) := List.map_congr_left fun t _ => split_cellT s m t
  rw [h1]
  congr 1
  exact split_consFrom s m m.funcs 0 h
/-! ### it breaks no rule -/
theorem split_stmtR (f : MFun) (d : Nat) (x : MStmt) : stmtR (splitM s m) (splitF s f) d x = stmtR m f d x := by
  have h1 : ∀ r, thereR (splitM s m) (splitF s f) r = thereR m f r := fun r => by
    unfold thereR splitM
    dsimp only
    rw [List.length_map]
    rfl
  have h2 : ∀ i : Nat, ((splitM s m).funcs[i]?.getD default).params = (m.funcs[i]?.getD default).params := fun i => by
    rw [split_get]; cases m.funcs[i]? <;> rfl
  unfold stmtR
  simp only [h1, h2]
theorem stmtR_deep {f : MFun} {d e : Nat} {x : MStmt} (h : stmtR m f d x = 0) (he : e ≤ 8) : stmtR m f e x = 0 := by
  unfold stmtR at h ⊢
  rw [if_neg (show ¬ 8 < e by omega)]
  split at h
  · cases h
  · exact h
theorem blk_stmtR (f : MFun) (d : Nat) (hd : d ≤ 8) (l : List MStmt) : stmtR m f d (blkS l) = 0 :=
  stmtR_of hd (by simp [blkS, kindsR, MStmt.kind, MStmt.args, MStmt.a, MStmt.b]) zero_there zero_there (by simp [blkS, MStmt.args]) (by simp [blkS, MStmt.kind])
theorem stmtsR_all {f : MFun} : ∀ (l : List MItem), (∀ x ∈ l, stmtR m f x.deep x.s = 0) → stmtsR m f l = none
  | [], _ => rfl
  | x :: r, h => by
    unfold stmtsR
    rw [if_neg (by rw [h x (by simp)]; omega)]
    exact stmtsR_all r fun y hy => h y (by simp [hy])
theorem allS_fine {f : MFun} : ∀ (l : List MStmt), (∀ x ∈ l, fineS m f x) → ∀ t ∈ allS l, ∃ d, stmtR m f d t = 0 := by
  intro l h t ht
  unfold allS at ht
  obtain ⟨x, hx, ht⟩ := List.mem_flatMap.1 ht
  obtain ⟨q1, q2, q3, q4⟩ := h x hx
  rcases List.mem_cons.1 ht with rfl | ht
  · exact ⟨0, q1⟩
  · split at ht
    · exact ⟨1, (q4 t ht).1⟩
    · cases ht
theorem split_fun {f : MFun} (hf : ¬ 0 < funR m f) (hl : f.body.length ≤ 100) (h : ∀ x ∈ f.body, fineS m f x) : ¬ 0 < funR (splitM s m) (splitF s f) ∧ stmtsR (splitM s m) (splitF s f) (flats 0 0 (splitF s f).body) = none := by
  obtain ⟨a1, a2⟩ := flats_split (s % (f.body.length + 1)) f.body fun x hx t ht => (h x hx).2.2.2 t ht |>.2.1
  have hb : (splitF s f).body = splitB (s % (f.body.length + 1)) f.body := rfl
  have hlen : (flats 0 0 (splitF s f).body).length ≤ 400 := by
    rw [hb]
    have e := congrArg List.length a1
    have h1 := allS_len f.body fun x hx => (h x hx).2.2.1
    have h2 : allS f.body = allS (f.body.take (s % (f.body.length + 1))) ++ allS (f.body.drop (s % (f.body.length + 1))) := by rw [← allS_append, List.take_append_drop]
    rw [h2, List.length_append] at h1
    simp only [List.length_map, List.length_cons, List.length_append] at e
    omega
  refine ⟨?_, stmtsR_all _ _ fun x hx => ?_⟩
  · unfold funR at hf ⊢
    rw [if_neg]
    · split at hf
      · exact absurd (by decide) hf
      · exact hf
    · split at hf
      · exact absurd (by decide) hf
      · rename_i h0
        rintro (h1 | h1 | h1)
        · exact h0 (.inl h1)
        · exact h0 (.inr (.inl h1))
        · omega
  · rw [split_stmtR]
    rw [hb] at hx
    have hd := a2 x hx
    have hm : x.s ∈ (flats 0 0 (splitB (s % (f.body.length + 1)) f.body)).map (·.s) := List.mem_map_of_mem hx
    rw [a1] at hm
    simp only [List.mem_cons, List.mem_append] at hm
    rcases hm with hm | hm | hm | hm
    · rw [hm]; exact blk_stmtR m f _ (by omega) _
    · obtain ⟨d, hd'⟩ := allS_fine m (f := f) _ (fun y hy => h y (List.mem_of_mem_take hy)) _ hm
      exact stmtR_deep m hd' (by omega)
    · rw [hm]; exact blk_stmtR m f _ (by omega) _
    · obtain ⟨d, hd'⟩ := allS_fine m (f := f) _ (fun y hy => h y (List.mem_of_mem_drop hy)) _ hm
      exact stmtR_deep m hd' (by omega)
end
theorem funsR_at {m : Mod} : ∀ {l : List MFun} {i : Nat}, funsR m i l = none → ∀ f ∈ l, ¬ 0 < funR m f
  | [], _, _, f, hf => by cases hf
  | g :: r, i, h, f, hf => by
    unfold funsR at h
    split at h
    · cases h
    · rename_i h0
      split at h
      · cases h
      · rcases List.mem_cons.1 hf with rfl | hf
        · exact h0
        · exact funsR_at h f hf
theorem split_check (s : Nat) {m : Mod} (hc : checkR m = none) (hl : ∀ f ∈ m.funcs, f.body.length ≤ 100 ∧ ∀ x ∈ f.body, fineS m f x) : checkR (splitM s m) = none := by
  have ht := check_tree hc
  have htn : treeR (splitM s m) = none := by
    have hw : wholeR (splitM s m) = wholeR m := by rw [wholeR_bare, split_bare, ← wholeR_bare]
    unfold treeR at ht ⊢
    rw [hw]
    split at ht
    · cases ht
    · rename_i h0
      rw [if_neg h0]
      refine funsR_of _ _ 0 fun q hq => ?_
      obtain ⟨f, hf, rfl⟩ := List.mem_map.1 (show q ∈ m.funcs.map (splitF s) from hq)
      exact split_fun s m (funsR_at ht f hf) (hl f hf).1 (hl f hf).2
  unfold checkR at hc ⊢
  rw [ht] at hc
  rw [htn]
  have hs : sortedR (splitM s m) = sortedR m := by rw [sortedR_bare, split_bare, ← sortedR_bare]
  rw [hs]
  exact hc
/-! ### rows -/
theorem split_row {s : Nat} (hs : s < 256) {b : List MStmt} (hb : b.length ≤ 1000) (K : Nat → List F → R) :
    (if IntKind.wrap .i64 (((b.length : Nat) : Int) + 1) = 0 then none else (if 0 ≤ Int.tmod (IntKind.wrap .i64 ((s : Nat) : Int)) (IntKind.wrap .i64 (((b.length : Nat) : Int) + 1)) ∧ Int.tmod (IntKind.wrap .i64 ((s : Nat) : Int)) (IntKind.wrap .i64 (((b.length : Nat) : Int) + 1)) ≤ ↑b.length then some (Int.toNat (Int.tmod (IntKind.wrap .i64 ((s : Nat) : Int)) (IntKind.wrap .i64 (((b.length : Nat) : Int) + 1)))) else none).bind fun j => (if 0 ≤ Int.tmod (IntKind.wrap .i64 ((s : Nat) : Int)) (IntKind.wrap .i64 (((b.length : Nat) : Int) + 1)) ∧ Int.tmod (IntKind.wrap .i64 ((s : Nat) : Int)) (IntKind.wrap .i64 (((b.length : Nat) : Int) + 1)) ≤ ↑b.length then some (Int.toNat (Int.tmod (IntKind.wrap .i64 ((s : Nat) : Int)) (IntKind.wrap .i64 (((b.length : Nat) : Int) + 1)))) else none).bind fun i => K 2 ([F.s (.int .u8 7), F.s (.int .u8 0), F.s (.int .i64 0), F.s (.int .u8 0), F.s (.int .i64 0), F.lst 0 ([]), F.lst (j - 0) (((stmtsF b).drop 0).take ((j - 0) * 7)), F.s (.int .u8 7), F.s (.int .u8 0), F.s (.int .i64 0), F.s (.int .u8 0), F.s (.int .i64 0), F.lst 0 ([]), F.lst (b.length - i) (((stmtsF b).drop (i * 7)).take ((b.length - i) * 7))])) =
      K (splitB (s % (b.length + 1)) b).length (stmtsF (splitB (s % (b.length + 1)) b)) := by
  have w1 : IntKind.wrap .i64 (((b.length : Nat) : Int) + 1) = ((b.length + 1 : Nat) : Int) := by rw [wrap_i64 (by omega) (by omega)]; rfl
  have w2 : Int.tmod (IntKind.wrap .i64 ((s : Nat) : Int)) ((b.length + 1 : Nat) : Int) = ((s % (b.length + 1) : Nat) : Int) := by rw [wrap_i64 (by omega) (by omega)]; rfl
  have hk : s % (b.length + 1) < b.length + 1 := Nat.mod_lt _ (by omega)
  rw [w1, w2, if_neg (by omega), if_pos ⟨by omega, by omega⟩]
  simp only [Option.bind_some, Int.toNat_natCast, Nat.sub_zero, List.drop_zero]
  generalize s % (b.length + 1) = k at hk
  have hl := flat_len MStmt.F_len b
  have split : ∀ (k : Nat), k ≤ b.length → (stmtsF b).take (k * 7) = stmtsF (b.take k) ∧ (stmtsF b).drop (k * 7) = stmtsF (b.drop k) := fun k hk => by
    have e : stmtsF b = stmtsF (b.take k) ++ stmtsF (b.drop k) := by
      have : b = b.take k ++ b.drop k := (List.take_append_drop k b).symm
      rw [← List.flatMap_append, List.take_append_drop]
    have h1 : (stmtsF (b.take k)).length = k * 7 := by rw [flat_len MStmt.F_len, List.length_take]; congr 1; omega
    constructor
    · rw [e, ← h1, List.take_left]
    · rw [e, ← h1, List.drop_left]
  obtain ⟨p1, p2⟩ := split k (by omega)
  have h2 : (stmtsF (b.drop k)).length = (b.length - k) * 7 := by rw [flat_len MStmt.F_len, List.length_drop]
  rw [p1, p2, List.take_of_length_le (l := stmtsF (b.drop k)) (by omega)]
  have e1 : (b.take k).length = k := by rw [List.length_take]; omega
  have e2 : (b.drop k).length = b.length - k := List.length_drop ..
  show K 2 _ = K 2 _
  congr 1
  unfold splitB blkS
  rw [← e2]
  simp only [stmtsF, List.flatMap_cons, List.flatMap_nil, MStmt.F_eq, MStmt.kind, MStmt.a, MStmt.b, MStmt.args, MStmt.body, e1, refsF, List.length_nil, List.cons_append, List.nil_append]
/-! ### the walk -/
noncomputable abbrev T10 (m n : Mod) : R := GenBlocks_10 m.strings.length (sF m.strings) m.globals.length (kF .i64 m.globals) m.funcs.length (funsF m.funcs) m.entries.length (kF .i64 m.entries) n.strings.length (sF n.strings) n.globals.length (kF .i64 n.globals) n.funcs.length (funsF n.funcs) n.entries.length (kF .i64 n.entries)
theorem tail10 {m n : Mod} (h1 : checkR m = none) (h2 : checkR n = none) (s1 : m.strings.length ≤ big) (s2 : n.strings.length ≤ big) (he : sysT n = sysT m) : T10 m n = some (.ret (B true), []) := by
  unfold T10
  rw [GenBlocks_10_eq, sys_go m h1 s1, sys_go n h2 s2, if_pos (by rfl), if_pos (by rfl)]
  have hsm := sysT_small m (okG_of (check_tree h1))
  have := fun h0 => sSame_spec (sysT m) (sysT n) hsm h0
  refine Eq.trans (congrArg (fun r => pB r _) (this _)) ?_
  rw [pB_some, he]
  simp
theorem loop1 {s : Nat} (hs : s < 256) (m : Mod) (ss : List ByteArray) (gs es : List Int) (f0 : MFun) (b0 : f0.body.length ≤ 1000) : GenBlocks_2 s 0 m.strings.length (sF m.strings) m.globals.length (kF .i64 m.globals) m.funcs.length (funsF m.funcs) m.entries.length (kF .i64 m.entries) ss.length (sF ss) gs.length (kF .i64 gs) es.length (kF .i64 es) f0.name f0.params f0.locals.length (kF .i64 f0.locals) f0.sites.length (kF .i64 f0.sites) f0.body.length (stmtsF f0.body) = T10 m ⟨ss, gs, [splitF s f0], es⟩ := by
  rw [GenBlocks_2_eq]
  refine ((GenBlocks_6_eq_0 s m.strings.length (sF m.strings) m.globals.length (kF .i64 m.globals) m.funcs.length (funsF m.funcs) m.entries.length (kF .i64 m.entries) ss.length (sF ss) gs.length (kF .i64 gs) es.length (kF .i64 es) f0.name f0.params f0.locals.length (kF .i64 f0.locals) f0.sites.length (kF .i64 f0.sites) f0.body.length (stmtsF f0.body)).trans (split_row hs b0 fun x c => GenBlocks_6 s 1 m.strings.length (sF m.strings) m.globals.length (kF .i64 m.globals) m.funcs.length (funsF m.funcs) m.entries.length (kF .i64 m.entries) ss.length (sF ss) gs.length (kF .i64 gs) es.length (kF .i64 es)  f0.name f0.params f0.locals.length (kF .i64 f0.locals) f0.sites.length (kF .i64 f0.sites) x c )).trans ?_
  exact GenBlocks_6_eq_1 s m.strings.length (sF m.strings) m.globals.length (kF .i64 m.globals) m.funcs.length (funsF m.funcs) m.entries.length (kF .i64 m.entries) ss.length (sF ss) gs.length (kF .i64 gs) es.length (kF .i64 es) (splitF s f0).name (splitF s f0).params (splitF s f0).locals.length (kF .i64 (splitF s f0).locals) (splitF s f0).sites.length (kF .i64 (splitF s f0).sites) (splitF s f0).body.length (stmtsF (splitF s f0).body)
theorem loop2 {s : Nat} (hs : s < 256) (m : Mod) (ss : List ByteArray) (gs es : List Int) (f0 f1 : MFun) (b0 : f0.body.length ≤ 1000) (b1 : f1.body.length ≤ 1000) : GenBlocks_3 s 0 m.strings.length (sF m.strings) m.globals.length (kF .i64 m.globals) m.funcs.length (funsF m.funcs) m.entries.length (kF .i64 m.entries) ss.length (sF ss) gs.length (kF .i64 gs) es.length (kF .i64 es) f0.name f0.params f0.locals.length (kF .i64 f0.locals) f0.sites.length (kF .i64 f0.sites) f0.body.length (stmtsF f0.body) f1.name f1.params f1.locals.length (kF .i64 f1.locals) f1.sites.length (kF .i64 f1.sites) f1.body.length (stmtsF f1.body) = T10 m ⟨ss, gs, [splitF s f0, splitF s f1], es⟩ := by
  rw [GenBlocks_3_eq]
  refine ((GenBlocks_7_eq_0 s m.strings.length (sF m.strings) m.globals.length (kF .i64 m.globals) m.funcs.length (funsF m.funcs) m.entries.length (kF .i64 m.entries) ss.length (sF ss) gs.length (kF .i64 gs) es.length (kF .i64 es) f0.name f0.params f0.locals.length (kF .i64 f0.locals) f0.sites.length (kF .i64 f0.sites) f0.body.length (stmtsF f0.body) f1.name f1.params f1.locals.length (kF .i64 f1.locals) f1.sites.length (kF .i64 f1.sites) f1.body.length (stmtsF f1.body)).trans (split_row hs b0 fun x c => GenBlocks_7 s 1 m.strings.length (sF m.strings) m.globals.length (kF .i64 m.globals) m.funcs.length (funsF m.funcs) m.entries.length (kF .i64 m.entries) ss.length (sF ss) gs.length (kF .i64 gs) es.length (kF .i64 es)  f0.name f0.params f0.locals.length (kF .i64 f0.locals) f0.sites.length (kF .i64 f0.sites) x c f1.name f1.params f1.locals.length (kF .i64 f1.locals) f1.sites.length (kF .i64 f1.sites) f1.body.length (stmtsF f1.body))).trans ?_
  refine ((GenBlocks_7_eq_1 s m.strings.length (sF m.strings) m.globals.length (kF .i64 m.globals) m.funcs.length (funsF m.funcs) m.entries.length (kF .i64 m.entries) ss.length (sF ss) gs.length (kF .i64 gs) es.length (kF .i64 es) (splitF s f0).name (splitF s f0).params (splitF s f0).locals.length (kF .i64 (splitF s f0).locals) (splitF s f0).sites.length (kF .i64 (splitF s f0).sites) (splitF s f0).body.length (stmtsF (splitF s f0).body) f1.name f1.params f1.locals.length (kF .i64 f1.locals) f1.sites.length (kF .i64 f1.sites) f1.body.length (stmtsF f1.body)).trans (split_row hs b1 fun x c => GenBlocks_7 s 2 m.strings.length (sF m.strings) m.globals.length (kF .i64 m.globals) m.funcs.length (funsF m.funcs) m.entries.length (kF .i64 m.entries) ss.length (sF ss) gs.length (kF .i64 gs) es.length (kF .i64 es) (splitF s f0).name (splitF s f0).params (splitF s f0).locals.length (kF .i64 (splitF s f0).locals) (splitF s f0).sites.length (kF .i64 (splitF s f0).sites) (splitF s f0).body.length (stmtsF (splitF s f0).body) f1.name f1.params f1.locals.length (kF .i64 f1.locals) f1.sites.length (kF .i64 f1.sites) x c )).trans ?_
  exact GenBlocks_7_eq_2 s m.strings.length (sF m.strings) m.globals.length (kF .i64 m.globals) m.funcs.length (funsF m.funcs) m.entries.length (kF .i64 m.entries) ss.length (sF ss) gs.length (kF .i64 gs) es.length (kF .i64 es) (splitF s f0).name (splitF s f0).params (splitF s f0).locals.length (kF .i64 (splitF s f0).locals) (splitF s f0).sites.length (kF .i64 (splitF s f0).sites) (splitF s f0).body.length (stmtsF (splitF s f0).body) (splitF s f1).name (splitF s f1).params (splitF s f1).locals.length (kF .i64 (splitF s f1).locals) (splitF s f1).sites.length (kF .i64 (splitF s f1).sites) (splitF s f1).body.length (stmtsF (splitF s f1).body)
theorem loop3 {s : Nat} (hs : s < 256) (m : Mod) (ss : List ByteArray) (gs es : List Int) (f0 f1 f2 : MFun) (b0 : f0.body.length ≤ 1000) (b1 : f1.body.length ≤ 1000) (b2 : f2.body.length ≤ 1000) : GenBlocks_4 s 0 m.strings.length (sF m.strings) m.globals.length (kF .i64 m.globals) m.funcs.length (funsF m.funcs) m.entries.length (kF .i64 m.entries) ss.length (sF ss) gs.length (kF .i64 gs) es.length (kF .i64 es) f0.name f0.params f0.locals.length (kF .i64 f0.locals) f0.sites.length (kF .i64 f0.sites) f0.body.length (stmtsF f0.body) f1.name f1.params f1.locals.length (kF .i64 f1.locals) f1.sites.length (kF .i64 f1.sites) f1.body.length (stmtsF f1.body) f2.name f2.params f2.locals.length (kF .i64 f2.locals) f2.sites.length (kF .i64 f2.sites) f2.body.length (stmtsF f2.body) = T10 m ⟨ss, gs, [splitF s f0, splitF s f1, splitF s f2], es⟩ := by
  rw [GenBlocks_4_eq]
  refine ((GenBlocks_8_eq_0 s m.strings.length (sF m.strings) m.globals.length (kF .i64 m.globals) m.funcs.length (funsF m.funcs) m.entries.length (kF .i64 m.entries) ss.length (sF ss) gs.length (kF .i64 gs) es.length (kF .i64 es) f0.name f0.params f0.locals.length (kF .i64 f0.locals) f0.sites.length (kF .i64 f0.sites) f0.body.length (stmtsF f0.body) f1.name f1.params f1.locals.length (kF .i64 f1.locals) f1.sites.length (kF .i64 f1.sites) f1.body.length (stmtsF f1.body) f2.name f2.params f2.locals.length (kF .i64 f2.locals) f2.sites.length (kF .i64 f2.sites) f2.body.length (stmtsF f2.body)).trans (split_row hs b0 fun x c => GenBlocks_8 s 1 m.strings.length (sF m.strings) m.globals.length (kF .i64 m.globals) m.funcs.length (funsF m.funcs) m.entries.length (kF .i64 m.entries) ss.length (sF ss) gs.length (kF .i64 gs) es.length (kF .i64 es)  f0.name f0.params f0.locals.length (kF .i64 f0.locals) f0.sites.length (kF .i64 f0.sites) x c f1.name f1.params f1.locals.length (kF .i64 f1.locals) f1.sites.length (kF .i64 f1.sites) f1.body.length (stmtsF f1.body) f2.name f2.params f2.locals.length (kF .i64 f2.locals) f2.sites.length (kF .i64 f2.sites) f2.body.length (stmtsF f2.body))).trans ?_
  refine ((GenBlocks_8_eq_1 s m.strings.length (sF m.strings) m.globals.length (kF .i64 m.globals) m.funcs.length (funsF m.funcs) m.entries.length (kF .i64 m.entries) ss.length (sF ss) gs.length (kF .i64 gs) es.length (kF .i64 es) (splitF s f0).name (splitF s f0).params (splitF s f0).locals.length (kF .i64 (splitF s f0).locals) (splitF s f0).sites.length (kF .i64 (splitF s f0).sites) (splitF s f0).body.length (stmtsF (splitF s f0).body) f1.name f1.params f1.locals.length (kF .i64 f1.locals) f1.sites.length (kF .i64 f1.sites) f1.body.length (stmtsF f1.body) f2.name f2.params f2.locals.length (kF .i64 f2.locals) f2.sites.length (kF .i64 f2.sites) f2.body.length (stmtsF f2.body)).trans (split_row hs b1 fun x c => GenBlocks_8 s 2 m.strings.length (sF m.strings) m.globals.length (kF .i64 m.globals) m.funcs.length (funsF m.funcs) m.entries.length (kF .i64 m.entries) ss.length (sF ss) gs.length (kF .i64 gs) es.length (kF .i64 es) (splitF s f0).name (splitF s f0).params (splitF s f0).locals.length (kF .i64 (splitF s f0).locals) (splitF s f0).sites.length (kF .i64 (splitF s f0).sites) (splitF s f0).body.length (stmtsF (splitF s f0).body) f1.name f1.params f1.locals.length (kF .i64 f1.locals) f1.sites.length (kF .i64 f1.sites) x c f2.name f2.params f2.locals.length (kF .i64 f2.locals) f2.sites.length (kF .i64 f2.sites) f2.body.length (stmtsF f2.body))).trans ?_
  refine ((GenBlocks_8_eq_2 s m.strings.length (sF m.strings) m.globals.length (kF .i64 m.globals) m.funcs.length (funsF m.funcs) m.entries.length (kF .i64 m.entries) ss.length (sF ss) gs.length (kF .i64 gs) es.length (kF .i64 es) (splitF s f0).name (splitF s f0).params (splitF s f0).locals.length (kF .i64 (splitF s f0).locals) (splitF s f0).sites.length (kF .i64 (splitF s f0).sites) (splitF s f0).body.length (stmtsF (splitF s f0).body) (splitF s f1).name (splitF s f1).params (splitF s f1).locals.length (kF .i64 (splitF s f1).locals) (splitF s f1).sites.length (kF .i64 (splitF s f1).sites) (splitF s f1).body.length (stmtsF (splitF s f1).body) f2.name f2.params f2.locals.length (kF .i64 f2.locals) f2.sites.length (kF .i64 f2.sites) f2.body.length (stmtsF f2.body)).trans (split_row hs b2 fun x c => GenBlocks_8 s 3 m.strings.length (sF m.strings) m.globals.length (kF .i64 m.globals) m.funcs.length (funsF m.funcs) m.entries.length (kF .i64 m.entries) ss.length (sF ss) gs.length (kF .i64 gs) es.length (kF .i64 es) (splitF s f0).name (splitF s f0).params (splitF s f0).locals.length (kF .i64 (splitF s f0).locals) (splitF s f0).sites.length (kF .i64 (splitF s f0).sites) (splitF s f0).body.length (stmtsF (splitF s f0).body) (splitF s f1).name (splitF s f1).params (splitF s f1).locals.length (kF .i64 (splitF s f1).locals) (splitF s f1).sites.length (kF .i64 (splitF s f1).sites) (splitF s f1).body.length (stmtsF (splitF s f1).body) f2.name f2.params f2.locals.length (kF .i64 f2.locals) f2.sites.length (kF .i64 f2.sites) x c )).trans ?_
  exact GenBlocks_8_eq_3 s m.strings.length (sF m.strings) m.globals.length (kF .i64 m.globals) m.funcs.length (funsF m.funcs) m.entries.length (kF .i64 m.entries) ss.length (sF ss) gs.length (kF .i64 gs) es.length (kF .i64 es) (splitF s f0).name (splitF s f0).params (splitF s f0).locals.length (kF .i64 (splitF s f0).locals) (splitF s f0).sites.length (kF .i64 (splitF s f0).sites) (splitF s f0).body.length (stmtsF (splitF s f0).body) (splitF s f1).name (splitF s f1).params (splitF s f1).locals.length (kF .i64 (splitF s f1).locals) (splitF s f1).sites.length (kF .i64 (splitF s f1).sites) (splitF s f1).body.length (stmtsF (splitF s f1).body) (splitF s f2).name (splitF s f2).params (splitF s f2).locals.length (kF .i64 (splitF s f2).locals) (splitF s f2).sites.length (kF .i64 (splitF s f2).sites) (splitF s f2).body.length (stmtsF (splitF s f2).body)
theorem loop4 {s : Nat} (hs : s < 256) (m : Mod) (ss : List ByteArray) (gs es : List Int) (f0 f1 f2 f3 : MFun) (b0 : f0.body.length ≤ 1000) (b1 : f1.body.length ≤ 1000) (b2 : f2.body.length ≤ 1000) (b3 : f3.body.length ≤ 1000) : GenBlocks_5 s 0 m.strings.length (sF m.strings) m.globals.length (kF .i64 m.globals) m.funcs.length (funsF m.funcs) m.entries.length (kF .i64 m.entries) ss.length (sF ss) gs.length (kF .i64 gs) es.length (kF .i64 es) f0.name f0.params f0.locals.length (kF .i64 f0.locals) f0.sites.length (kF .i64 f0.sites) f0.body.length (stmtsF f0.body) f1.name f1.params f1.locals.length (kF .i64 f1.locals) f1.sites.length (kF .i64 f1.sites) f1.body.length (stmtsF f1.body) f2.name f2.params f2.locals.length (kF .i64 f2.locals) f2.sites.length (kF .i64 f2.sites) f2.body.length (stmtsF f2.body) f3.name f3.params f3.locals.length (kF .i64 f3.locals) f3.sites.length (kF .i64 f3.sites) f3.body.length (stmtsF f3.body) = T10 m ⟨ss, gs, [splitF s f0, splitF s f1, splitF s f2, splitF s f3], es⟩ := by
  rw [GenBlocks_5_eq]
  refine ((GenBlocks_9_eq_0 s m.strings.length (sF m.strings) m.globals.length (kF .i64 m.globals) m.funcs.length (funsF m.funcs) m.entries.length (kF .i64 m.entries) ss.length (sF ss) gs.length (kF .i64 gs) es.length (kF .i64 es) f0.name f0.params f0.locals.length (kF .i64 f0.locals) f0.sites.length (kF .i64 f0.sites) f0.body.length (stmtsF f0.body) f1.name f1.params f1.locals.length (kF .i64 f1.locals) f1.sites.length (kF .i64 f1.sites) f1.body.length (stmtsF f1.body) f2.name f2.params f2.locals.length (kF .i64 f2.locals) f2.sites.length (kF .i64 f2.sites) f2.body.length (stmtsF f2.body) f3.name f3.params f3.locals.length (kF .i64 f3.locals) f3.sites.length (kF .i64 f3.sites) f3.body.length (stmtsF f3.body)).trans (split_row hs b0 fun x c => GenBlocks_9 s 1 m.strings.length (sF m.strings) m.globals.length (kF .i64 m.globals) m.funcs.length (funsF m.funcs) m.entries.length (kF .i64 m.entries) ss.length (sF ss) gs.length (kF .i64 gs) es.length (kF .i64 es)  f0.name f0.params f0.locals.length (kF .i64 f0.locals) f0.sites.length (kF .i64 f0.sites) x c f1.name f1.params f1.locals.length (kF .i64 f1.locals) f1.sites.length (kF .i64 f1.sites) f1.body.length (stmtsF f1.body) f2.name f2.params f2.locals.length (kF .i64 f2.locals) f2.sites.length (kF .i64 f2.sites) f2.body.length (stmtsF f2.body) f3.name f3.params f3.locals.length (kF .i64 f3.locals) f3.sites.length (kF .i64 f3.sites) f3.body.length (stmtsF f3.body))).trans ?_
  refine ((GenBlocks_9_eq_1 s m.strings.length (sF m.strings) m.globals.length (kF .i64 m.globals) m.funcs.length (funsF m.funcs) m.entries.length (kF .i64 m.entries) ss.length (sF ss) gs.length (kF .i64 gs) es.length (kF .i64 es) (splitF s f0).name (splitF s f0).params (splitF s f0).locals.length (kF .i64 (splitF s f0).locals) (splitF s f0).sites.length (kF .i64 (splitF s f0).sites) (splitF s f0).body.length (stmtsF (splitF s f0).body) f1.name f1.params f1.locals.length (kF .i64 f1.locals) f1.sites.length (kF .i64 f1.sites) f1.body.length (stmtsF f1.body) f2.name f2.params f2.locals.length (kF .i64 f2.locals) f2.sites.length (kF .i64 f2.sites) f2.body.length (stmtsF f2.body) f3.name f3.params f3.locals.length (kF .i64 f3.locals) f3.sites.length (kF .i64 f3.sites) f3.body.length (stmtsF f3.body)).trans (split_row hs b1 fun x c => GenBlocks_9 s 2 m.strings.length (sF m.strings) m.globals.length (kF .i64 m.globals) m.funcs.length (funsF m.funcs) m.entries.length (kF .i64 m.entries) ss.length (sF ss) gs.length (kF .i64 gs) es.length (kF .i64 es) (splitF s f0).name (splitF s f0).params (splitF s f0).locals.length (kF .i64 (splitF s f0).locals) (splitF s f0).sites.length (kF .i64 (splitF s f0).sites) (splitF s f0).body.length (stmtsF (splitF s f0).body) f1.name f1.params f1.locals.length (kF .i64 f1.locals) f1.sites.length (kF .i64 f1.sites) x c f2.name f2.params f2.locals.length (kF .i64 f2.locals) f2.sites.length (kF .i64 f2.sites) f2.body.length (stmtsF f2.body) f3.name f3.params f3.locals.length (kF .i64 f3.locals) f3.sites.length (kF .i64 f3.sites) f3.body.length (stmtsF f3.body))).trans ?_
  refine ((GenBlocks_9_eq_2 s m.strings.length (sF m.strings) m.globals.length (kF .i64 m.globals) m.funcs.length (funsF m.funcs) m.entries.length (kF .i64 m.entries) ss.length (sF ss) gs.length (kF .i64 gs) es.length (kF .i64 es) (splitF s f0).name (splitF s f0).params (splitF s f0).locals.length (kF .i64 (splitF s f0).locals) (splitF s f0).sites.length (kF .i64 (splitF s f0).sites) (splitF s f0).body.length (stmtsF (splitF s f0).body) (splitF s f1).name (splitF s f1).params (splitF s f1).locals.length (kF .i64 (splitF s f1).locals) (splitF s f1).sites.length (kF .i64 (splitF s f1).sites) (splitF s f1).body.length (stmtsF (splitF s f1).body) f2.name f2.params f2.locals.length (kF .i64 f2.locals) f2.sites.length (kF .i64 f2.sites) f2.body.length (stmtsF f2.body) f3.name f3.params f3.locals.length (kF .i64 f3.locals) f3.sites.length (kF .i64 f3.sites) f3.body.length (stmtsF f3.body)).trans (split_row hs b2 fun x c => GenBlocks_9 s 3 m.strings.length (sF m.strings) m.globals.length (kF .i64 m.globals) m.funcs.length (funsF m.funcs) m.entries.length (kF .i64 m.entries) ss.length (sF ss) gs.length (kF .i64 gs) es.length (kF .i64 es) (splitF s f0).name (splitF s f0).params (splitF s f0).locals.length (kF .i64 (splitF s f0).locals) (splitF s f0).sites.length (kF .i64 (splitF s f0).sites) (splitF s f0).body.length (stmtsF (splitF s f0).body) (splitF s f1).name (splitF s f1).params (splitF s f1).locals.length (kF .i64 (splitF s f1).locals) (splitF s f1).sites.length (kF .i64 (splitF s f1).sites) (splitF s f1).body.length (stmtsF (splitF s f1).body) f2.name f2.params f2.locals.length (kF .i64 f2.locals) f2.sites.length (kF .i64 f2.sites) x c f3.name f3.params f3.locals.length (kF .i64 f3.locals) f3.sites.length (kF .i64 f3.sites) f3.body.length (stmtsF f3.body))).trans ?_
  refine ((GenBlocks_9_eq_3 s m.strings.length (sF m.strings) m.globals.length (kF .i64 m.globals) m.funcs.length (funsF m.funcs) m.entries.length (kF .i64 m.entries) ss.length (sF ss) gs.length (kF .i64 gs) es.length (kF .i64 es) (splitF s f0).name (splitF s f0).params (splitF s f0).locals.length (kF .i64 (splitF s f0).locals) (splitF s f0).sites.length (kF .i64 (splitF s f0).sites) (splitF s f0).body.length (stmtsF (splitF s f0).body) (splitF s f1).name (splitF s f1).params (splitF s f1).locals.length (kF .i64 (splitF s f1).locals) (splitF s f1).sites.length (kF .i64 (splitF s f1).sites) (splitF s f1).body.length (stmtsF (splitF s f1).body) (splitF s f2).name (splitF s f2).params (splitF s f2).locals.length (kF .i64 (splitF s f2).locals) (splitF s f2).sites.length (kF .i64 (splitF s f2).sites) (splitF s f2).body.length (stmtsF (splitF s f2).body) f3.name f3.params f3.locals.length (kF .i64 f3.locals) f3.sites.length (kF .i64 f3.sites) f3.body.length (stmtsF f3.body)).trans (split_row hs b3 fun x c => GenBlocks_9 s 4 m.strings.length (sF m.strings) m.globals.length (kF .i64 m.globals) m.funcs.length (funsF m.funcs) m.entries.length (kF .i64 m.entries) ss.length (sF ss) gs.length (kF .i64 gs) es.length (kF .i64 es) (splitF s f0).name (splitF s f0).params (splitF s f0).locals.length (kF .i64 (splitF s f0).locals) (splitF s f0).sites.length (kF .i64 (splitF s f0).sites) (splitF s f0).body.length (stmtsF (splitF s f0).body) (splitF s f1).name (splitF s f1).params (splitF s f1).locals.length (kF .i64 (splitF s f1).locals) (splitF s f1).sites.length (kF .i64 (splitF s f1).sites) (splitF s f1).body.length (stmtsF (splitF s f1).body) (splitF s f2).name (splitF s f2).params (splitF s f2).locals.length (kF .i64 (splitF s f2).locals) (splitF s f2).sites.length (kF .i64 (splitF s f2).sites) (splitF s f2).body.length (stmtsF (splitF s f2).body) f3.name f3.params f3.locals.length (kF .i64 f3.locals) f3.sites.length (kF .i64 f3.sites) x c )).trans ?_
  exact GenBlocks_9_eq_4 s m.strings.length (sF m.strings) m.globals.length (kF .i64 m.globals) m.funcs.length (funsF m.funcs) m.entries.length (kF .i64 m.entries) ss.length (sF ss) gs.length (kF .i64 gs) es.length (kF .i64 es) (splitF s f0).name (splitF s f0).params (splitF s f0).locals.length (kF .i64 (splitF s f0).locals) (splitF s f0).sites.length (kF .i64 (splitF s f0).sites) (splitF s f0).body.length (stmtsF (splitF s f0).body) (splitF s f1).name (splitF s f1).params (splitF s f1).locals.length (kF .i64 (splitF s f1).locals) (splitF s f1).sites.length (kF .i64 (splitF s f1).sites) (splitF s f1).body.length (stmtsF (splitF s f1).body) (splitF s f2).name (splitF s f2).params (splitF s f2).locals.length (kF .i64 (splitF s f2).locals) (splitF s f2).sites.length (kF .i64 (splitF s f2).sites) (splitF s f2).body.length (stmtsF (splitF s f2).body) (splitF s f3).name (splitF s f3).params (splitF s f3).locals.length (kF .i64 (splitF s f3).locals) (splitF s f3).sites.length (kF .i64 (splitF s f3).sites) (splitF s f3).body.length (stmtsF (splitF s f3).body)
theorem make_len (g f e : Nat) (acts : List MAct) : (makeM g f e acts).funcs.length = funN f := by
  show ((rawM g f e acts).funcs.map _).length = funN f
  rw [List.length_map]
  exact (bodyM_len (frameM g f e) acts.length acts 0 (frameM g f e).funcs).trans (funF0_len f _ _ _)
theorem blocks_1 {s : Nat} (hs : s < 256) (m : Mod) (hN : 1 ≤ m.funcs.length ∧ m.funcs.length ≤ 4) (hb : ∀ f ∈ m.funcs, f.body.length ≤ 1000) : GenBlocks_1 s m.strings.length (sF m.strings) m.globals.length (kF .i64 m.globals) m.funcs.length (funsF m.funcs) m.entries.length (kF .i64 m.entries) m.strings.length (sF m.strings) m.globals.length (kF .i64 m.globals) m.funcs.length m.entries.length (kF .i64 m.entries) (funsF m.funcs) = T10 m (splitM s m) := by
  obtain ⟨ss, gs, fs, es⟩ := m
  dsimp only at hb hN
  cases fs with
  | nil => simp at hN
  | cons f0 fs =>
    cases fs with
    | nil =>
      have e := GenBlocks_1_eq_1 s ss.length (sF ss) gs.length (kF .i64 gs) [f0].length (funsF [f0]) es.length (kF .i64 es) ss.length (sF ss) gs.length (kF .i64 gs) es.length (kF .i64 es) f0.name f0.params f0.locals.length (kF .i64 f0.locals) f0.sites.length (kF .i64 f0.sites) f0.body.length (stmtsF f0.body)
      exact e.trans (loop1 hs ⟨ss, gs, [f0], es⟩ ss gs es f0 (hb f0 (by simp)))
    | cons f1 fs =>
      cases fs with
      | nil =>
        have e := GenBlocks_1_eq_2 s ss.length (sF ss) gs.length (kF .i64 gs) [f0, f1].length (funsF [f0, f1]) es.length (kF .i64 es) ss.length (sF ss) gs.length (kF .i64 gs) es.length (kF .i64 es) f0.name f0.params f0.locals.length (kF .i64 f0.locals) f0.sites.length (kF .i64 f0.sites) f0.body.length (stmtsF f0.body) f1.name f1.params f1.locals.length (kF .i64 f1.locals) f1.sites.length (kF .i64 f1.sites) f1.body.length (stmtsF f1.body)
        exact e.trans (loop2 hs ⟨ss, gs, [f0, f1], es⟩ ss gs es f0 f1 (hb f0 (by simp)) (hb f1 (by simp)))
      | cons f2 fs =>
        cases fs with
        | nil =>
          have e := GenBlocks_1_eq_3 s ss.length (sF ss) gs.length (kF .i64 gs) [f0, f1, f2].length (funsF [f0, f1, f2]) es.length (kF .i64 es) ss.length (sF ss) gs.length (kF .i64 gs) es.length (kF .i64 es) f0.name f0.params f0.locals.length (kF .i64 f0.locals) f0.sites.length (kF .i64 f0.sites) f0.body.length (stmtsF f0.body) f1.name f1.params f1.locals.length (kF .i64 f1.locals) f1.sites.length (kF .i64 f1.sites) f1.body.length (stmtsF f1.body) f2.name f2.params f2.locals.length (kF .i64 f2.locals) f2.sites.length (kF .i64 f2.sites) f2.body.length (stmtsF f2.body)
          exact e.trans (loop3 hs ⟨ss, gs, [f0, f1, f2], es⟩ ss gs es f0 f1 f2 (hb f0 (by simp)) (hb f1 (by simp)) (hb f2 (by simp)))
        | cons f3 fs =>
          cases fs with
          | nil =>
            have e := GenBlocks_1_eq_4 s ss.length (sF ss) gs.length (kF .i64 gs) [f0, f1, f2, f3].length (funsF [f0, f1, f2, f3]) es.length (kF .i64 es) ss.length (sF ss) gs.length (kF .i64 gs) es.length (kF .i64 es) f0.name f0.params f0.locals.length (kF .i64 f0.locals) f0.sites.length (kF .i64 f0.sites) f0.body.length (stmtsF f0.body) f1.name f1.params f1.locals.length (kF .i64 f1.locals) f1.sites.length (kF .i64 f1.sites) f1.body.length (stmtsF f1.body) f2.name f2.params f2.locals.length (kF .i64 f2.locals) f2.sites.length (kF .i64 f2.sites) f2.body.length (stmtsF f2.body) f3.name f3.params f3.locals.length (kF .i64 f3.locals) f3.sites.length (kF .i64 f3.sites) f3.body.length (stmtsF f3.body)
            exact e.trans (loop4 hs ⟨ss, gs, [f0, f1, f2, f3], es⟩ ss gs es f0 f1 f2 f3 (hb f0 (by simp)) (hb f1 (by simp)) (hb f2 (by simp)) (hb f3 (by simp)))
          | cons f4 fs => simp at hN
theorem GenBlocks_law (g f e : Nat) (hg : g < 256) (hf : f < 256) (he : e < 256) (acts : List MAct) (hx : ∀ x ∈ acts, x.ok) (s : Nat) (hs : s < 256) : GenBlocks_0 g f e acts.length (actsF acts) s = some (.ret (B true), []) := by
  rw [GenBlocks_eq, gawake_spec, pB_some, if_pos (show (!true) = false from rfl)]
  by_cases hn : acts.length ≤ 40
  · have hc := make_check g f e acts (by omega)
    have hsm := make_small g f e acts
    have hN := make_len g f e acts
    have hfn : 1 ≤ funN f ∧ funN f ≤ 4 := by unfold funN; omega
    rw [if_neg (by simp; omega), mMake_v_c4, mMake_core g f e hg hf he acts (by omega) hx]
    have h2 := mMake_v_c4zc4 g f e acts.length (actsF acts) g f e acts.length (actsF acts)
    have hcore := mMake_core g f e hg hf he acts (by omega) hx
    generalize makeM g f e acts = m at hc hsm hN hcore
    have hl : (funsF m.funcs).length = m.funcs.length * 5 := flat_len MFun.F_len _
    have hbod : ∀ q ∈ m.funcs, q.body.length ≤ 100 ∧ ∀ x ∈ q.body, fineS m q x := fun q hq => by
      obtain ⟨b1, b2, b3, b4⟩ := hsm.bodies q hq
      exact ⟨by omega, b4⟩
    have hss := hsm.strings
    refine Eq.trans (b := pO (run w0 9 [.agg [N .u8 g, N .u8 f, N .u8 e, .f (.lst acts.length (actsF acts))]] [.cells [N .u8 g, N .u8 f, N .u8 e, .f (.lst acts.length (actsF acts))], .fz (funsF m.funcs), .cells [.f (.lst m.strings.length (sF m.strings)), .f (.lst m.globals.length (kF .i64 m.globals)), .ref 1 0 m.funcs.length 5, .f (.lst m.entries.length (kF .i64 m.entries))]]) _) rfl ?_
    rw [h2, hcore]
    refine Eq.trans (b := if 0 + (m.funcs.length * 5) ≤ (funsF m.funcs).length then if 0 + (m.funcs.length * 5) ≤ (funsF m.funcs).length then GenBlocks_1 s m.strings.length (sF m.strings) m.globals.length (kF .i64 m.globals) m.funcs.length (((funsF m.funcs).drop 0).take (m.funcs.length * 5)) m.entries.length (kF .i64 m.entries) m.strings.length (sF m.strings) m.globals.length (kF .i64 m.globals) m.funcs.length m.entries.length (kF .i64 m.entries) (((funsF m.funcs).drop 0).take (m.funcs.length * 5)) else none else none) rfl ?_
    rw [if_pos (by omega), if_pos (by omega), List.drop_zero, List.take_of_length_le (by omega)]
    refine (blocks_1 hs m (by omega) fun q hq => by have := (hbod q hq).1; omega).trans ?_
    exact tail10 hc (split_check s hc hbod) (by unfold big; omega) (by show m.strings.length ≤ big; unfold big; omega) (split_sys s m fun q hq x hx t ht => ((hbod q hq).2 x hx).2.2.2 t ht |>.2.1)
  · rw [if_pos (by simp; omega), pB_some]
set_option maxRecDepth 100000 in
theorem GenBlocks_all (l : List (List F)) (h : Args Try.prog Try.f5.params.toList l) : ∃ h', run w0 5 (argVs Try.prog Try.f5.params.toList l) [] = some (.ret (B true), h') := by
  obtain ⟨x1, l1, rfl, h1, h⟩ := h.cons_inv
  obtain ⟨x2, l2, rfl, h2, h⟩ := h.cons_inv
  obtain rfl := h.nil_inv
  obtain ⟨g, f, e, acts, rfl, hg, hf, he, _, hx⟩ := draft_of h1
  obtain ⟨n2, rfl, hn2⟩ := h2.of_int (k := .u8) (by kernel_rfl)
  obtain ⟨n2, rfl, hu2⟩ := wf_u8 hn2
  have h : run w0 5 [.agg [N .u8 g, N .u8 f, N .u8 e, .f (.lst acts.length (actsF acts))], N .u8 n2] [] = some (.ret (B true), []) := by rw [GenBlocks_run, GenBlocks_law g f e hg hf he acts hx n2 hu2, withH_true]
  exact ⟨[], h⟩
end Go.Proofs.Ytlddnplflakmiaa
