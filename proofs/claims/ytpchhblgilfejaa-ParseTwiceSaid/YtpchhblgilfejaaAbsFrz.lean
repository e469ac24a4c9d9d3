/-
  Freezing: what is never written again from here on.
-/
import Derived.Test.YtpchhblgilfejaaAbsCode
set_option autoImplicit false
set_option linter.unusedVariables false
set_option linter.unusedSimpArgs false
namespace Go.Abs
open Go

open Classical in
/-- from here on the objects of hk are read alone -/
noncomputable def roAll (η : Et) (hk : H) (w : World) (ro : Ro) : Ro := fun b o => if Owned η hk b then w.cell? ⟨b, o, none⟩ else ro b o
section
variable {P : Program} {η η' : Et} {ro ro' : Ro} {h h' hk : H} {w w' : World}

theorem roAll_le (r : Rel η ro h w) : ro.le (roAll η hk w ro) := by
  intro b o v hv
  unfold roAll
  split
  · exact r.cells b o v hv
  · exact hv
theorem roAll_at {b o : Nat} (hb : Owned η hk b) : roAll η hk w ro b o = w.cell? ⟨b, o, none⟩ := if_pos hb
theorem roAll_ne {b o : Nat} (hb : ¬ Owned η hk b) : roAll η hk w ro b o = ro b o := if_neg hb
theorem roAll_cells (r : Rel η ro h w) {b o : Nat} {v : Value} (hv : roAll η hk w ro b o = some v) : w.cell? ⟨b, o, none⟩ = some v := by
  unfold roAll at hv
  split at hv
  · exact hv
  · exact r.cells b o v hv

theorem kill_get (tk : List Nat) : ∀ (i : Nat) (h : H) (j : Nat), (kill tk i h)[j]? = (h[j]?).map fun o => if tk.contains (i + j) && !o.isLent then .dead else o
  | i, [], j => by simp [kill]
  | i, o :: h, 0 => by simp [kill]
  | i, o :: h, j + 1 => by simp only [kill, List.getElem?_cons_succ, kill_get tk (i + 1) h j]; congr 1; funext o; rw [show i + 1 + j = i + (j + 1) by omega]
theorem noLent_get : ∀ (h : H) (j : Nat), (noLent h)[j]? = (h[j]?).map fun o => if o.isLent then .dead else o
  | [], j => by simp [noLent]
  | o :: h, 0 => by cases o <;> simp [noLent, Ob.isLent]
  | o :: h, j + 1 => by cases o <;> simp only [noLent, List.getElem?_cons_succ, noLent_get h j]
theorem kill_some {tk : List Nat} {h : H} {j : Nat} {o : Ob} (e : (kill tk 0 h)[j]? = some o) : ∃ o', h[j]? = some o' ∧ (((tk.contains j && !o'.isLent) = true ∧ o = .dead) ∨ ((tk.contains j && !o'.isLent) = false ∧ o = o')) := by
  rw [kill_get, Nat.zero_add, Option.map_eq_some_iff] at e
  obtain ⟨o', h1, h2⟩ := e
  refine ⟨o', h1, ?_⟩
  split at h2
  · rename_i hc; exact .inl ⟨hc, h2.symm⟩
  · rename_i hc; exact .inr ⟨by simpa using hc, h2.symm⟩
theorem isLent_of {o : Ob} (h : o.isLent = true) : ∃ cs, o = .lent cs := by cases o <;> first | exact ⟨_, rfl⟩ | cases h
theorem has_kill {tk : List Nat} {k b : Nat} (e : Has η (kill tk 0 h) k b) : Has η h k b ∧ (tk.contains k = false ∨ ∃ cs, h[k]? = some (.lent cs)) := by
  obtain ⟨st, sz, o, h1, h2, h3⟩ := e
  obtain ⟨o', h4, h5⟩ := kill_some h2
  rcases h5 with ⟨_, rfl⟩ | ⟨h5, rfl⟩
  · cases h3
  · refine ⟨⟨st, sz, o, h1, h4, h3⟩, ?_⟩
    rw [Bool.and_eq_false_iff] at h5
    refine h5.imp id fun h5 => ?_
    obtain ⟨cs, rfl⟩ := isLent_of (o := o) (by simpa using h5)
    exact ⟨cs, h4⟩
theorem has_noLent {k b : Nat} (e : Has η (noLent h) k b) : Has η h k b ∧ ∀ cs, h[k]? ≠ some (.lent cs) := by
  obtain ⟨st, sz, o, h1, h2, h3⟩ := e
  rw [noLent_get, Option.map_eq_some_iff] at h2
  obtain ⟨o', h4, h5⟩ := h2
  split at h5
  · subst h5; cases h3
  · rename_i hn
    subst h5
    refine ⟨⟨st, sz, o', h1, h4, h3⟩, fun cs e => ?_⟩
    rw [h4] at e; cases e; exact hn rfl
theorem has_killN {tk : List Nat} {k b : Nat} (e : Has η (kill tk 0 (noLent h)) k b) : Has η h k b ∧ tk.contains k = false ∧ ∀ cs, h[k]? ≠ some (.lent cs) := by
  obtain ⟨h1, h2⟩ := has_kill e
  obtain ⟨h3, h4⟩ := has_noLent h1
  refine ⟨h3, h2.resolve_right ?_, h4⟩
  rintro ⟨cs, h5⟩
  rw [noLent_get, Option.map_eq_some_iff] at h5
  obtain ⟨o, h6, h7⟩ := h5
  split at h7
  · cases h7
  · rename_i hn; subst h7; exact hn rfl
theorem Rel.killAll (r : Rel η ro h w) (tk : List Nat) : Rel η ro (Go.Abs.kill tk 0 h) w := by
  refine ⟨r.cells, fun k p hk => ?_, fun k k' b h1 h2 => r.own k k' b (has_kill h1).1 (has_kill h2).1, fun k b h1 => r.roOwn k b (has_kill h1).1, r.glob⟩
  obtain ⟨o, h1, h2⟩ := r.obj k p hk
  refine ⟨if tk.contains k && !o.isLent then .dead else o, by rw [kill_get, h1]; simp, ?_⟩
  split
  · trivial
  · exact h2
theorem Rel.noLent (r : Rel η ro h w) : Rel η ro (Go.Abs.noLent h) w := by
  refine ⟨r.cells, fun k p hk => ?_, fun k k' b h1 h2 => r.own k k' b (has_noLent h1).1 (has_noLent h2).1, fun k b h1 => r.roOwn k b (has_noLent h1).1, r.glob⟩
  obtain ⟨o, h1, h2⟩ := r.obj k p hk
  refine ⟨if o.isLent then .dead else o, by rw [noLent_get, h1]; simp, ?_⟩
  split
  · trivial
  · exact h2

theorem deadAll_get : ∀ (h : H) (j : Nat), (deadAll h)[j]? = (h[j]?).map fun o => if o.isLent then o else .dead
  | [], j => by simp [deadAll]
  | o :: h, 0 => by cases o <;> simp [deadAll, Ob.isLent]
  | o :: h, j + 1 => by cases o <;> simp only [deadAll, List.getElem?_cons_succ, deadAll_get h j]
theorem deadAll_len (h : H) : (deadAll h).length = h.length := by
  induction h with
  | nil => rfl
  | cons o h ih => cases o <;> simp [deadAll, ih]
theorem has_deadAll {k b : Nat} (e : Has η (deadAll h) k b) : Has η h k b ∧ ∃ cs, h[k]? = some (.lent cs) := by
  obtain ⟨st, sz, o, h1, h2, h3⟩ := e
  rw [deadAll_get, Option.map_eq_some_iff] at h2
  obtain ⟨o', h4, h5⟩ := h2
  split at h5
  · rename_i hl
    subst h5
    refine ⟨⟨st, sz, o', h1, h4, h3⟩, ?_⟩
    cases o' <;> simp [Ob.isLent] at hl
    exact ⟨_, h4⟩
  · subst h5; cases h3
theorem Rel.deadAll (r : Rel η ro h w) : Rel η ro (Go.Abs.deadAll h) w := by
  refine ⟨r.cells, fun k p hk => ?_, fun k k' b h1 h2 => r.own k k' b (has_deadAll h1).1 (has_deadAll h2).1, fun k b h1 => r.roOwn k b (has_deadAll h1).1, r.glob⟩
  obtain ⟨o, h1, h2⟩ := r.obj k p hk
  refine ⟨if o.isLent then o else .dead, by rw [deadAll_get, h1]; simp, ?_⟩
  split
  · exact h2
  · trivial
/-! ### values with nothing behind them -/
theorem flat_ok : ∀ {v : V} {cv : Value}, flat v = true → VRel η ro v cv → ro.le ro' → VRel η' ro' v cv
  | .f x, cv, _, h, hr => FRel.mono hr x cv h
  | .any, cv, _, _, _ => trivial
  | .agg cs, cv, hf, ⟨cvs, h1, h2, h3⟩, hr => by
    refine ⟨cvs, h1, VRels.mk h2.len fun j v hv => ?_, h3⟩
    obtain ⟨x, hx, hvx⟩ := h2.get hv
    refine ⟨x, hx, ?_⟩
    have := List.all_eq_true.1 hf v (List.mem_of_getElem? hv)
    cases v with
    | f y => exact FRel.mono hr y x hvx
    | any => trivial
    | _ => cases this
  | .ref .., _, h, _, _ => by cases h
  | .ptr .., _, h, _, _ => by cases h
  | .mp .., _, h, _, _ => by cases h
  | .fn .., _, h, _, _ => by cases h
  | .tup .., _, h, _, _ => by cases h
  | .lit .., _, h, _, _ => by cases h
  | .un, _, h, _, _ => by cases h

/-! ### freezing -/
theorem frzs_get : ∀ {d : Nat} {l : List V} {xs : List F}, frzs hk d l = some xs → xs.length = l.length ∧ ∀ (j : Nat) x, xs[j]? = some x → ∃ v d', d' < d ∧ l[j]? = some v ∧ frz hk d' v = some x
  | 0, _, _, e => by simp [frzs] at e
  | d + 1, [], xs, e => by simp [frzs] at e; subst e; simp
  | d + 1, v :: r, xs, e => by
    simp only [frzs, Option.bind_eq_some_iff] at e
    obtain ⟨x, h1, l, h2, h3⟩ := e
    cases h3
    obtain ⟨h4, h5⟩ := frzs_get h2
    refine ⟨by simp [h4], fun j y hy => ?_⟩
    cases j with
    | zero => simp at hy; subst hy; exact ⟨v, d, Nat.lt_succ_self d, rfl, h1⟩
    | succ j =>
      obtain ⟨v', d', h6, h7, h8⟩ := h5 j y (by simpa using hy)
      exact ⟨v', d', Nat.lt_succ_of_lt h6, by simpa using h7, h8⟩
theorem frz_ok (r : Rel η ro hk w) : ∀ (d : Nat) {v : V} {x : F} {cv : Value}, frz hk d v = some x → VRel η ro v cv → FRel (roAll η hk w ro) x cv := by
  intro d
  induction d using Nat.strongRecOn with
  | _ d ih =>
    intro v x cv e hv
    -- cells of an object
    have cellsOk : ∀ {k b st sz : Nat} {o : Ob} {L : List V}, η k = some (.at_ b st sz) → hk[k]? = some o → o.vl = some L → ∀ {xs : List F} {off m : Nat}, off + m ≤ L.length →
        (∀ (j : Nat) y, xs[j]? = some y → ∃ v, ((L.drop off).take m)[j]? = some v ∧ ∀ z, VRel η ro v z → FRel (roAll η hk w ro) y z) → FCells (roAll η hk w ro) xs b (st + off) := by
      intro k b st sz o L hkk ho hl xs off m hm hx
      obtain ⟨c, T, lo, hi, e1, e2, e3, e4, e5⟩ := r.at_ hkk ho hl
      refine FCells.mk fun j y hy => ?_
      obtain ⟨v', h2, h3⟩ := hx j y hy
      rw [List.getElem?_take] at h2
      split at h2
      · rw [List.getElem?_drop] at h2
        obtain ⟨z, a1, a2, a3⟩ := e5 _ _ h2
        have hob : Owned η hk b := ⟨k, st, sz, o, hkk, ho, by cases o <;> first | rfl | cases hl⟩
        refine ⟨z, ?_, h3 z a3⟩
        rw [roAll_at hob, cell_at e1, Nat.add_assoc]; exact a1
      · cases h2
    cases d with
    | zero => cases e
    | succ d =>
      unfold frz at e
      split at e
      · rename_i x0
        cases e
        unfold frzF
        split
        · obtain ⟨e1, _⟩ := hv; subst e1; exact ⟨none, _, rfl, Nat.zero_le _, .inl ⟨rfl, rfl⟩⟩
        · exact FRel.mono (roAll_le r) _ _ hv
      · rename_i n cs
        simp only [Option.map_eq_some_iff] at e
        obtain ⟨l, h1, rfl⟩ := e
        obtain ⟨A, c, h2, h3, h4⟩ := hv
        refine ⟨A, c, h2, Nat.le_of_eq h3.symm, ?_⟩
        obtain ⟨hlen, hget⟩ := frzs_get h1
        rcases h4 with ⟨h4, rfl⟩ | ⟨b, o, h4, h5⟩
        · left; exact ⟨h4, List.eq_nil_of_length_eq_zero (by simpa using hlen)⟩
        · right
          refine ⟨b, o, h4, FCells.mk fun j y hy => ?_⟩
          obtain ⟨v', d', a1, a2, a3⟩ := hget j y hy
          obtain ⟨z, b1, b2, b3⟩ := h5.get a2
          exact ⟨z, roAll_le r _ _ _ b1, ih d' (Nat.lt_succ_of_lt a1) a3 b3⟩
      · rename_i k off n es
        have key : ∀ {L : List V} {o : Ob} {xs : List F}, hk[k]? = some o → o.vl = some L → off + n * es ≤ L.length → xs.length = n * es → (∀ (j : Nat) y, xs[j]? = some y → ∃ v, ((L.drop off).take (n * es))[j]? = some v ∧ ∀ z, VRel η ro v z → FRel (roAll η hk w ro) y z) →
            FRel (roAll η hk w ro) (.lst n xs) cv := by
          intro L o xs ho hl hle hxl hx
          rcases hv with ⟨b, st, sz, c, o', h1, h2, h3, h4, h5⟩ | ⟨h1, rfl, rfl, h2⟩
          · refine ⟨_, c, h2, h3, ?_⟩
            by_cases hn : n = 0
            · left; subst hn; exact ⟨rfl, List.eq_nil_of_length_eq_zero (by simpa using hxl)⟩
            · right
              refine ⟨b, o', rfl, ?_⟩
              rw [h5 (by omega)]
              exact cellsOk h1 ho hl hle hx
          · exact ⟨none, 0, h2, Nat.le_refl _, .inl ⟨rfl, List.eq_nil_of_length_eq_zero (by simpa using hxl)⟩⟩
        split at e
        · rename_i cs hcs
          split at e
          · rename_i hle
            cases e
            refine key (L := cs.map .f) hcs rfl (by simpa using hle) (by simp; omega) fun j y hy => ?_
            refine ⟨.f y, ?_, fun z hz => FRel.mono (roAll_le r) _ _ hz⟩
            rw [← List.map_drop, ← List.map_take, List.getElem?_map, hy]; rfl
          · cases e
        · rename_i cs hcs
          split at e
          · rename_i hle
            simp only [Option.map_eq_some_iff] at e
            obtain ⟨l, h1, rfl⟩ := e
            obtain ⟨hlen, hget⟩ := frzs_get h1
            exact key (L := cs) hcs rfl hle (by rw [hlen]; simp; omega) fun j y hy => by
              obtain ⟨v', d', a1, a2, a3⟩ := hget j y hy
              exact ⟨v', a2, fun z hz => ih d' (by omega) a3 hz⟩
          · cases e
        · cases e
      · rename_i k off
        obtain ⟨b, st, sz, h1, h2⟩ := hv
        split at e
        · rename_i cs hcs
          cases e
          refine ⟨b, st + off, h2, ?_⟩
          by_cases hle : off ≤ cs.length
          · refine cellsOk (L := cs.map .f) (m := cs.length - off) h1 hcs rfl (by simp; omega) fun j y hy => ⟨.f y, ?_, fun z hz => FRel.mono (roAll_le r) _ _ hz⟩
            rw [List.take_of_length_le (by simp), ← List.map_drop, List.getElem?_map, hy]; rfl
          · rw [List.drop_eq_nil_of_le (by omega)]; trivial
        · rename_i cs hcs
          simp only [Option.map_eq_some_iff] at e
          obtain ⟨l, h3, rfl⟩ := e
          obtain ⟨hlen, hget⟩ := frzs_get h3
          refine ⟨b, st + off, h2, ?_⟩
          by_cases hle : off ≤ cs.length
          · refine cellsOk (L := cs) (m := cs.length - off) h1 hcs rfl (by omega) fun j y hy => ?_
            obtain ⟨v', d', a1, a2, a3⟩ := hget j y hy
            rw [List.take_of_length_le (by simp)]
            exact ⟨v', a2, fun z hz => ih d' (by omega) a3 hz⟩
          · rw [List.drop_eq_nil_of_le (by omega)] at hlen
            have hl0 : l = [] := List.eq_nil_of_length_eq_zero (by simpa using hlen)
            rw [hl0]; trivial
        · cases e
      · cases e
theorem frzArg_ok (r : Rel η ro hk w) {v x : V} {cv : Value} (e : frzArg hk v = some x) (hv : VRel η ro v cv) : VRel η' (roAll η hk w ro) x cv ∧ flat x = true := by
  unfold frzArg at e
  split at e
  · rename_i cs
    simp only [Option.map_eq_some_iff] at e
    obtain ⟨l, h1, rfl⟩ := e
    obtain ⟨cvs, h2, h3, h4⟩ := hv
    obtain ⟨hlen, hget⟩ := frzs_get h1
    refine ⟨⟨cvs, h2, VRels.mk (by simp [hlen, h3.len]) fun j y hy => ?_, h4⟩, ?_⟩
    · rw [List.getElem?_map, Option.map_eq_some_iff] at hy
      obtain ⟨y', hy, rfl⟩ := hy
      obtain ⟨v', d', a1, a2, a3⟩ := hget j y' hy
      obtain ⟨z, b1, b2⟩ := h3.get a2
      exact ⟨z, b1, frz_ok r d' a3 b2⟩
    · simp only [flat, List.all_map]
      exact List.all_eq_true.2 fun _ _ => rfl
  · simp only [Option.map_eq_some_iff] at e
    obtain ⟨l, h1, rfl⟩ := e
    exact ⟨frz_ok r deep h1 hv, rfl⟩
theorem frzArgs_ok (r : Rel η ro hk w) : ∀ {l m : List V} {cs : List Value}, frzArgs hk l = some m → VRels η ro l cs → VRels η' (roAll η hk w ro) m cs ∧ m.all flat = true
  | [], m, [], e, _ => by cases e; exact ⟨trivial, rfl⟩
  | v :: l, m, c :: cs, e, h => by
    simp only [frzArgs, Option.bind_eq_some_iff] at e
    obtain ⟨x, h1, m', h2, h3⟩ := e
    cases h3
    obtain ⟨a1, a2⟩ := frzArg_ok (η' := η') r h1 h.1
    obtain ⟨a3, a4⟩ := frzArgs_ok r h2 h.2
    exact ⟨⟨a1, a3⟩, by simp [a2, a4]⟩
  | [], _, _ :: _, _, h => h.elim
  | _ :: _, _, [], _, h => h.elim
theorem frzRes_ok (r : Rel η ro hk w) {v x : V} {cv : Value} (e : frzRes hk v = some x) (hv : VRel η ro v cv) : VRel η' (roAll η hk w ro) x cv := by
  unfold frzRes at e
  split at e
  · rename_i l
    simp only [Option.map_eq_some_iff] at e
    obtain ⟨m, h1, rfl⟩ := e
    obtain ⟨cvs, h2, h3⟩ := hv
    exact ⟨cvs, h2, (frzArgs_ok r h1 h3).1⟩
  · exact (frzArg_ok r e hv).1
theorem scalF_ok {x : F} {cv : Value} (hx : scalF x = true) (h : FRel ro x cv) : FRel ro' x cv := by
  cases x with
  | s x => exact h
  | lst n cs => cases hx
  | fp cs => cases hx
theorem scal_ok {x : V} {cv : Value} (hx : scal x = true) (h : VRel η ro x cv) : VRel η' ro' x cv := by
  have agg : ∀ {cs : List V} {cvs : List Value}, (cs.all fun v => match v with | .f x => scalF x | _ => false) = true → VRels η ro cs cvs → VRels η' ro' cs cvs := by
    intro cs cvs hc h
    refine VRels.mk h.len fun j v hv => ?_
    obtain ⟨z, h1, h2⟩ := h.get hv
    refine ⟨z, h1, ?_⟩
    have := List.all_eq_true.1 hc v (List.mem_of_getElem? hv)
    cases v with
    | f y => exact scalF_ok this h2
    | _ => cases this
  cases x with
  | f x => exact scalF_ok hx h
  | agg cs =>
    obtain ⟨cvs, h1, h2, h3⟩ := h
    exact ⟨cvs, h1, agg hx h2, h3⟩
  | tup cs =>
    obtain ⟨cvs, h1, h2⟩ := h
    refine ⟨cvs, h1, VRels.mk h2.len fun j v hv => ?_⟩
    obtain ⟨z, h3, h4⟩ := h2.get hv
    refine ⟨z, h3, ?_⟩
    have := List.all_eq_true.1 hx v (List.mem_of_getElem? hv)
    cases v with
    | f y => exact scalF_ok this h4
    | agg cs' => obtain ⟨cvs', a1, a2, a3⟩ := h4; exact ⟨cvs', a1, agg this a2, a3⟩
    | _ => cases this
  | _ => cases hx
end
end Go.Abs
