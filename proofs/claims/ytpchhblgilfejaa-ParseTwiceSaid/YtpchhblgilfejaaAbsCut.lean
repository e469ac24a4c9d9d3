/-
  Cut points: the heap made anew out of what is still named.
-/
import Derived.Test.YtpchhblgilfejaaAbsFrz
set_option autoImplicit false
set_option linter.unusedVariables false
set_option linter.unusedSimpArgs false
namespace Go.Abs
open Go

section
variable {ds : List Deferred} {P : Program} {η η' : Et} {ro ro' : Ro} {h nh h' hk : H} {w w' : World}

theorem Rel.grow (r : Rel η ro h w) (hr : ro.le ro') (hc : ∀ b o v, ro' b o = some v → w.cell? ⟨b, o, none⟩ = some v) (hn : ∀ k b, Has η h k b → ∀ o, ro' b o = none) : Rel η ro' h w := by
  refine ⟨hc, fun k p hk => ?_, r.own, hn, r.glob.mono hr⟩
  obtain ⟨o, h1, h2⟩ := r.obj k p hk
  exact ⟨o, h1, h2.mono (Et.le_refl _) hr⟩
theorem Rel.snoc_dead (r : Rel η ro h w) : Rel η ro (h ++ [.dead]) w := by
  have back : ∀ k b, Has η (h ++ [.dead]) k b → Has η h k b := by
    rintro k b ⟨st, sz, o, h1, h2, h3⟩
    rw [get_snoc_lt (r.lt h1)] at h2
    exact ⟨st, sz, o, h1, h2, h3⟩
  refine ⟨r.cells, fun k p hk => ?_, fun k k' b h1 h2 => r.own k k' b (back k b h1) (back k' b h2), fun k b h1 => r.roOwn k b (back k b h1), r.glob⟩
  obtain ⟨o, h1, h2⟩ := r.obj k p hk
  exact ⟨o, by rw [get_snoc_lt (r.lt hk)]; exact h1, h2⟩
/-- an object at a place that was kept for it -/
theorem Rel.place (r : Rel η ro h w) {m : Nat} (hm : η m = none) (hl : m < h.length) {o : Ob} {p : Pl} (ho : ORel (η.set m p) ro w o p) (hb : ∀ b st sz, p = .at_ b st sz → ¬ Owned η h b ∧ ∀ i, ro b i = none) :
    Rel (η.set m p) ro (h.set m o) w ∧ η.le (η.set m p) ∧ ∀ b, Owned (η.set m p) (h.set m o) b → Owned η h b ∨ ∃ st sz, p = .at_ b st sz := by
  have hle : η.le (η.set m p) := fun k q hk => by
    rw [Et.set_ne]; exact hk
    rintro rfl; rw [hm] at hk; cases hk
  have back : ∀ k b, Has (η.set m p) (h.set m o) k b → (k ≠ m ∧ Has η h k b) ∨ (k = m ∧ ∃ st sz, p = .at_ b st sz) := by
    rintro k b ⟨st, sz, o', h1, h2, h3⟩
    by_cases hk : k = m
    · subst hk; rw [Et.set_same] at h1; cases h1; exact .inr ⟨rfl, st, sz, rfl⟩
    · rw [Et.set_ne _ _ hk] at h1
      rw [List.getElem?_set_ne (Ne.symm hk)] at h2
      exact .inl ⟨hk, st, sz, o', h1, h2, h3⟩
  refine ⟨⟨r.cells, fun k q hk => ?_, fun k k' b hk hk' => ?_, fun k b hk i => ?_, r.glob⟩, hle, ?_⟩
  · by_cases hkl : k = m
    · subst hkl; rw [Et.set_same] at hk; cases hk; exact ⟨o, by simp [hl], ho⟩
    · rw [Et.set_ne _ _ hkl] at hk
      obtain ⟨o', h1, h2⟩ := r.obj k q hk
      exact ⟨o', by rw [List.getElem?_set_ne (Ne.symm hkl)]; exact h1, h2.mono hle (Ro.le_refl _)⟩
  · rcases back k b hk with ⟨_, a⟩ | ⟨rfl, st, sz, a⟩ <;> rcases back k' b hk' with ⟨_, a'⟩ | ⟨rfl, st', sz', a'⟩
    · exact r.own k k' b a a'
    · exact absurd ⟨k, a⟩ (hb _ _ _ a').1
    · exact absurd ⟨k', a'⟩ (hb _ _ _ a).1
    · rfl
  · rcases back k b hk with ⟨_, a⟩ | ⟨rfl, st, sz, a⟩
    · exact r.roOwn k b a i
    · exact (hb _ _ _ a).2 i
  · rintro b ⟨k, hh⟩
    rcases back k b hh with ⟨_, a⟩ | ⟨rfl, a⟩
    · exact .inl ⟨k, a⟩
    · exact .inr a

/-- a block that is lent -/
def Lent (η : Et) (h : H) (b : Nat) : Prop := ∃ k st sz cs, η k = some (.at_ b st sz) ∧ h[k]? = some (.lent cs)
theorem Lent.owned {b : Nat} : Lent η h b → Owned η h b := fun ⟨k, st, sz, cs, h1, h2⟩ => ⟨k, st, sz, _, h1, h2, rfl⟩
theorem Lent.snoc {b : Nat} {p : Pl} {o : Ob} (hlt : ∀ k q, η k = some q → k < h.length) (l : Lent η h b) : Lent (η.set h.length p) (h ++ [o]) b := by
  obtain ⟨k, st, sz, cs, h1, h2⟩ := l
  have := hlt k _ h1
  exact ⟨k, st, sz, cs, by rw [Et.set_ne _ _ (Nat.ne_of_lt this)]; exact h1, by rw [get_snoc_lt this]; exact h2⟩
theorem Lent.snoc_dead {b : Nat} {o : Ob} (l : Lent η h b) : Lent η (h ++ [o]) b := by
  obtain ⟨k, st, sz, cs, h1, h2⟩ := l
  exact ⟨k, st, sz, cs, h1, by rw [get_snoc_lt (List.getElem?_eq_some_iff.1 h2).1]; exact h2⟩
theorem Lent.place {b m : Nat} {p : Pl} {o : Ob} (hm : η m = none) (l : Lent η h b) : Lent (η.set m p) (h.set m o) b := by
  obtain ⟨k, st, sz, cs, h1, h2⟩ := l
  have hne : k ≠ m := by rintro rfl; rw [hm] at h1; cases h1
  exact ⟨k, st, sz, cs, by rw [Et.set_ne _ _ hne]; exact h1, by rw [List.getElem?_set_ne (Ne.symm hne)]; exact h2⟩
/-- The new heap so far: pend: boxes whose insides are under way. -/
structure J (η : Et) (ro : Ro) (h hk : H) (w : World) (tk : List Nat) (base : Nat → Prop) (η' : Et) (nh : H) (us pend : List Nat) : Prop where
  rel : Rel η' (roAll η hk w ro) nh w
  own : ∀ b, Owned η' nh b → base b ∨ ∃ k, k ∈ us ∧ k ∉ pend ∧ Has η h k b ∧ (k ∈ tk ∨ Lent η' nh b)
  no : ∀ k ∈ us, ∀ b, ¬ Has η hk k b
  pend : ∀ k ∈ pend, k ∈ us
  lent : ∀ b, Lent η h b → Owned η' nh b → Lent η' nh b
/-- where it comes from: hk: what may be frozen; base: blocks that the new heap has had before -/
structure Whence (η : Et) (ro : Ro) (h hk : H) (w : World) (tk : List Nat) (base : Nat → Prop) : Prop where
  rel : Rel η ro h w
  frz : Rel η ro hk w
  sub : ∀ k b, Has η hk k b → Has η h k b ∧ k ∉ tk
  base : ∀ b, base b → ¬ Owned η h b
theorem Whence.no {η : Et} {ro : Ro} {h hk : H} {w : World} {tk : List Nat} {base : Nat → Prop} (r : Whence η ro h hk w tk base) {k : Nat} (ht : k ∈ tk) : ∀ b, ¬ Has η hk k b := fun b hh => (r.sub k b hh).2 ht
/-- what was there stays -/
structure Onto (η : Et) (h : H) (η' : Et) (h' : H) : Prop where
  le : η.le η'
  len : h.length ≤ h'.length
  at_ : ∀ k, k < h.length → η' k = η k ∧ h'[k]? = h[k]?
theorem Onto.refl (η : Et) (h : H) : Onto η h η h := ⟨Et.le_refl _, Nat.le_refl _, fun _ _ => ⟨rfl, rfl⟩⟩
theorem Onto.trans {η η' η'' : Et} {h h' h'' : H} (a : Onto η h η' h') (b : Onto η' h' η'' h'') : Onto η h η'' h'' :=
  ⟨a.le.trans b.le, Nat.le_trans a.len b.len, fun k hk => by
    obtain ⟨h1, h2⟩ := a.at_ k hk
    obtain ⟨h3, h4⟩ := b.at_ k (Nat.lt_of_lt_of_le hk a.len)
    exact ⟨h3.trans h1, h4.trans h2⟩⟩

section
variable {tk : List Nat} {base : Nat → Prop}

/-- a block that is taken over is free -/
theorem J.free {η' : Et} {us pend : List Nat} (r : Whence η ro h hk w tk base) (j : J η ro h hk w tk base η' nh us pend) {k b : Nat} (hh : Has η h k b) (hx : ∀ b, ¬ Has η hk k b) (hu : k ∉ us ∨ k ∈ pend) : ¬ Owned η' nh b ∧ ∀ i, roAll η hk w ro b i = none := by
  constructor
  · intro ho
    rcases j.own b ho with hb | ⟨k', h1, h2, h3, _⟩
    · exact r.base b hb ⟨k, hh⟩
    cases r.rel.own k k' b hh h3
    rcases hu with hu | hu
    · exact hu h1
    · exact h2 hu
  · intro i
    rw [roAll_ne, r.rel.roOwn k b hh i]
    rintro ⟨k', h1⟩
    obtain ⟨h2, h3⟩ := r.sub k' b h1
    cases r.rel.own k k' b hh h2
    exact hx b h1
theorem J.add {η' : Et} {us pend : List Nat} (r : Whence η ro h hk w tk base) (j : J η ro h hk w tk base η' nh us pend) {k : Nat} {o' : Ob} {p' : Pl} (hx : ∀ b, ¬ Has η hk k b) (ht : k ∈ tk ∨ ∃ cs, o' = .lent cs) (hl : ∀ cs, h[k]? = some (.lent cs) → ∃ cs, o' = .lent cs) (hu : k ∉ us)
    (ho : ORel (η'.set nh.length p') (roAll η hk w ro) w o' p') (hp : ∀ b st sz, p' = .at_ b st sz → Has η h k b) :
    J η ro h hk w tk base (η'.set nh.length p') (nh ++ [o']) (k :: us) pend ∧ Onto η' nh (η'.set nh.length p') (nh ++ [o']) := by
  have new : ∀ b st sz, p' = .at_ b st sz → (∃ cs, o' = .lent cs) → Lent (η'.set nh.length p') (nh ++ [o']) b := by
    rintro b st sz rfl ⟨cs, rfl⟩
    exact ⟨nh.length, st, sz, cs, Et.set_same _ _ _, by simp⟩
  refine ⟨⟨j.rel.add ho fun b st sz e => j.free r (hp b st sz e) hx (.inl hu), ?_, ?_, ?_, ?_⟩, ⟨j.rel.le_set _, by simp, fun i hi => ⟨Et.set_ne _ _ (Nat.ne_of_lt hi), get_snoc_lt hi⟩⟩⟩
  · rintro b ⟨i, st, sz, q, h1, h2, h3⟩
    by_cases hi : i = nh.length
    · subst hi; rw [Et.set_same] at h1; cases h1
      exact .inr ⟨k, List.mem_cons_self, fun hk => hu (j.pend k hk), hp _ _ _ rfl, ht.imp id (new _ _ _ rfl)⟩
    · rw [Et.set_ne _ _ hi] at h1
      rw [get_snoc_lt (j.rel.lt h1)] at h2
      rcases j.own b ⟨i, st, sz, q, h1, h2, h3⟩ with hb | ⟨k', a1, a2, a3, a4⟩
      · exact .inl hb
      · exact .inr ⟨k', List.mem_cons_of_mem _ a1, a2, a3, a4.imp id (Lent.snoc fun _ _ => j.rel.lt)⟩
  · intro i hi
    rcases List.mem_cons.1 hi with rfl | hi
    · exact hx
    · exact j.no i hi
  · exact fun i hi => List.mem_cons_of_mem _ (j.pend i hi)
  · rintro b hl' ⟨i, st, sz, q, h1, h2, h3⟩
    by_cases hi : i = nh.length
    · subst hi; rw [Et.set_same] at h1; cases h1
      obtain ⟨k2, s1, s2, cs, g1, g2⟩ := hl'
      have := r.rel.own k k2 b (hp _ _ _ rfl) ⟨s1, s2, _, g1, g2, rfl⟩
      subst this
      exact new _ _ _ rfl (hl cs g2)
    · rw [Et.set_ne _ _ hi] at h1
      rw [get_snoc_lt (j.rel.lt h1)] at h2
      exact Lent.snoc (fun _ _ => j.rel.lt) (j.lent b hl' ⟨i, st, sz, q, h1, h2, h3⟩)
/-- an object whose insides come first -/
theorem J.hold {η' : Et} {us pend : List Nat} (j : J η ro h hk w tk base η' nh us pend) {k : Nat} (hx : ∀ b, ¬ Has η hk k b) (hu : k ∉ us) : J η ro h hk w tk base η' (nh ++ [.dead]) (k :: us) (k :: pend) := by
  have back : ∀ b, Owned η' (nh ++ [.dead]) b → Owned η' nh b := by
    rintro b' ⟨i, st', sz', q, a1, a2, a3⟩
    rw [get_snoc_lt (j.rel.lt a1)] at a2
    exact ⟨i, st', sz', q, a1, a2, a3⟩
  refine ⟨j.rel.snoc_dead, ?_, ?_, ?_, fun b hl ho => (j.lent b hl (back b ho)).snoc_dead⟩
  · intro b' hb'
    rcases j.own b' (back b' hb') with hb | ⟨k', b1, b2, b3, b4⟩
    · exact .inl hb
    refine .inr ⟨k', List.mem_cons_of_mem _ b1, ?_, b3, b4.imp id Lent.snoc_dead⟩
    intro hm
    rcases List.mem_cons.1 hm with rfl | hm
    · exact hu b1
    · exact b2 hm
  · intro i hi
    rcases List.mem_cons.1 hi with rfl | hi
    · exact hx
    · exact j.no i hi
  · intro i hi
    rcases List.mem_cons.1 hi with rfl | hi
    · exact List.mem_cons_self
    · exact List.mem_cons_of_mem _ (j.pend i hi)
/-- the object itself, behind its insides -/
theorem J.done {η' η'' : Et} {us pend us2 : List Nat} {nh2 : H} (r : Whence η ro h hk w tk base) (j : J η ro h hk w tk base η' nh us pend) {k : Nat} (a1 : J η ro h hk w tk base η'' nh2 us2 (k :: pend)) {m : Nat} {o : Ob} (hm : η'' m = none) (hml : m < nh2.length) {p : Pl}
    (hor : ORel (η''.set m p) (roAll η hk w ro) w o p) (hp : ∀ b st sz, p = .at_ b st sz → Has η h k b) (hx : ∀ b, ¬ Has η hk k b) (ht : k ∈ tk) (hn : ∀ cs, h[k]? ≠ some (.lent cs)) (hu : k ∉ us) (hin : k ∈ us2) :
    J η ro h hk w tk base (η''.set m p) (nh2.set m o) us2 pend ∧ η''.le (η''.set m p) := by
  obtain ⟨c1, c2, c3⟩ := a1.rel.place hm hml hor (fun b' st' sz' e => a1.free r (hp b' st' sz' e) hx (.inr List.mem_cons_self))
  refine ⟨⟨c1, ?_, a1.no, fun i hi => a1.pend i (List.mem_cons_of_mem _ hi), ?_⟩, c2⟩
  · intro b' hb'
    rcases c3 b' hb' with hb' | ⟨st', sz', e⟩
    · rcases a1.own b' hb' with hb | ⟨k', d1, d2, d3, d4⟩
      · exact .inl hb
      · exact .inr ⟨k', d1, fun hm => d2 (List.mem_cons_of_mem _ hm), d3, d4.imp id (Lent.place hm)⟩
    · exact .inr ⟨k, hin, fun hm => hu (j.pend k hm), hp _ _ _ e, .inl ht⟩
  · intro b' hl hb'
    rcases c3 b' hb' with hb' | ⟨st', sz', e⟩
    · exact (a1.lent b' hl hb').place hm
    · obtain ⟨k2, s1, s2, cs, g1, g2⟩ := hl
      have := r.rel.own k k2 b' (hp _ _ _ e) ⟨s1, s2, _, g1, g2, rfl⟩
      subst this
      exact absurd g2 (hn cs)

theorem flats_ok {η' : Et} {L : List V} {c : Array Value} {st : Nat} (hh : Held η ro L c st) (hl : L.all flat = true) (hr : ro.le ro') : Held η' ro' L c st := fun j v hv => by
  obtain ⟨x, h1, h2, h3⟩ := hh j v hv
  exact ⟨x, h1, h2, flat_ok (List.all_eq_true.1 hl v (List.mem_of_getElem? hv)) h3 hr⟩
theorem Held.part {L : List V} {c : Array Value} {st : Nat} (hh : Held η ro L c st) (off n : Nat) : Held η ro ((L.drop off).take n) c (st + off) := fun j v hv => by
  rw [List.getElem?_take] at hv
  split at hv
  · rw [List.getElem?_drop] at hv
    obtain ⟨x, h1, h2, h3⟩ := hh _ _ hv
    exact ⟨x, by rw [Nat.add_assoc]; exact h1, h2, h3⟩
  · cases hv
theorem map_flat (cs : List F) : (cs.map V.f).all flat = true := by
  rw [List.all_map]; exact List.all_eq_true.2 fun _ _ => rfl

/-- a whole slice of one's own -/
theorem own_ok {η' : Et} {us pend : List Nat} (r : Whence η ro h hk w tk base) (j : J η ro h hk w tk base η' nh us pend) {k off n es : Nat} {cv : Value} (hv : VRel η ro (.ref k off n es) cv) {o o' : Ob} {L : List V} (ho : h[k]? = some o) (hl : o.vl = some L)
    (hle : off + n * es ≤ L.length) (ho' : o'.vl = some ((L.drop off).take (n * es))) (hf : ((L.drop off).take (n * es)).all flat = true) (ht : k ∈ tk) (hu : k ∉ us) :
    ∃ η'', J η ro h hk w tk base η'' (nh ++ [o']) (k :: us) pend ∧ Onto η' nh η'' (nh ++ [o']) ∧ VRel η'' (roAll η hk w ro) (.ref nh.length 0 n es) cv := by
  have hlive : o.live = true := by cases o <;> first | rfl | cases hl
  have hnl : ∀ cs, h[k]? = some (.lent cs) → ∃ cs, o' = .lent cs := fun cs e => by rw [ho] at e; cases e; cases hl
  rcases hv with ⟨b, st, sz, c, o1, h1, h2, h3, h4, h5⟩ | ⟨h1, rfl, rfl, h2⟩
  · obtain ⟨cc, T, lo, hi, e1, e2, e3, e4, e5⟩ := r.rel.at_ h1 ho hl
    have hor : ORel (η'.set nh.length (.at_ b (st + off) sz)) (roAll η hk w ro) w o' (.at_ b (st + off) sz) := by
      have : CellsAt (η'.set nh.length (.at_ b (st + off) sz)) (roAll η hk w ro) w ((L.drop off).take (n * es)) (.at_ b (st + off) sz) :=
        .inr ⟨b, st + off, sz, cc, T, lo, hi, rfl, e1, e2, e3, by rw [List.length_take, List.length_drop]; omega, flats_ok (e5.part off (n * es)) hf (roAll_le r.rel)⟩
      cases o' with
      | dead => trivial
      | lent l => cases ho'
      | map q es => cases ho'
      | cells cs => cases ho'; exact this
      | fz cs => have ho2 := Option.some.inj ho'; rw [← ho2] at this; exact this
    obtain ⟨a1, a2⟩ := j.add r (r.no ht) (.inl ht) hnl hu hor (by rintro b' st' sz' e; cases e; exact ⟨st, sz, o, h1, ho, hlive⟩)
    exact ⟨_, a1, a2, .inl ⟨b, st + off, sz, c, o1, Et.set_same _ _ _, h2, h3, by omega, by simpa using h5⟩⟩
  · have hL : L = [] := by
      obtain ⟨o2, b1, b2⟩ := r.rel.obj k _ h1
      rw [ho] at b1; cases b1
      have : ∀ {cs : List V}, CellsAt η ro w cs .nil → cs = [] := by
        intro cs hc
        rcases hc with ⟨_, hc⟩ | ⟨_, _, _, _, _, _, _, hc, _⟩
        · exact hc
        · cases hc
      cases o with
      | dead => cases hl
      | lent l => cases hl
      | map q es => cases hl
      | cells cs => cases hl; exact this b2
      | fz cs => cases hl; exact this b2
    subst hL
    have hor : ORel (η'.set nh.length .nil) (roAll η hk w ro) w o' .nil := by
      have : CellsAt (η'.set nh.length .nil) (roAll η hk w ro) w (([] : List V).drop 0 |>.take (0 * es)) .nil := .inl ⟨rfl, by simp⟩
      cases o' with
      | dead => trivial
      | lent l => cases ho'
      | map q es => cases ho'
      | cells cs => cases ho'; exact this
      | fz cs => have ho2 := Option.some.inj ho'; rw [← ho2] at this; exact this
    obtain ⟨a1, a2⟩ := j.add r (r.no ht) (.inl ht) hnl hu hor (by rintro b' st' sz' e; cases e)
    exact ⟨_, a1, a2, .inr ⟨Et.set_same _ _ _, rfl, rfl, h2⟩⟩

theorem canonVal_ok (r : Whence η ro h hk w tk base) {v v' : V} {nh nh' : H} {us us' pend : List Nat} {η' : Et} {cv : Value} (e : canonVal hk v nh us = some (v', nh', us')) (j : J η ro h hk w tk base η' nh us pend) (hv : VRel η ro v cv) :
    ∃ η'', J η ro h hk w tk base η'' nh' us' pend ∧ Onto η' nh η'' nh' ∧ (∀ k ∈ us, k ∈ us') ∧ VRel η'' (roAll η hk w ro) v' cv := by
  unfold canonVal at e
  split at e
  · rename_i hf
    cases e
    exact ⟨η', j, Onto.refl _ _, fun _ h => h, flat_ok hf hv (roAll_le r.rel)⟩
  · rw [Option.map_eq_some_iff] at e
    obtain ⟨x, h1, h2⟩ := e
    cases h2
    exact ⟨η', j, Onto.refl _ _, fun _ h => h, (frzArg_ok r.frz h1 hv).1⟩
theorem canonOwn_ok (r : Whence η ro h hk w tk base) {es : Nat} {v v' : V} {nh nh' : H} {us us' pend : List Nat} {η' : Et} {cv : Value} (e : canonOwn h tk es v nh us = some (v', nh', us')) (j : J η ro h hk w tk base η' nh us pend) (hv : VRel η ro v cv) :
    ∃ η'', J η ro h hk w tk base η'' nh' us' pend ∧ Onto η' nh η'' nh' ∧ (∀ k ∈ us, k ∈ us') ∧ VRel η'' (roAll η hk w ro) v' cv := by
  unfold canonOwn at e
  split at e
  · cases e
    have h0 := rel_s hv
    have r2 := j.rel.add (o := .fz []) (p := .nil) (.inl ⟨rfl, rfl⟩) (by rintro b st sz e; cases e)
    have noO : ∀ b, Owned (η'.set nh.length .nil) (nh ++ [.fz []]) b → Owned η' nh b := by
      rintro b ⟨i, st, sz, q, h1, h2, h3⟩
      by_cases hi : i = nh.length
      · subst hi; rw [Et.set_same] at h1; cases h1
      · rw [Et.set_ne _ _ hi] at h1
        rw [get_snoc_lt (j.rel.lt h1)] at h2
        exact ⟨i, st, sz, q, h1, h2, h3⟩
    refine ⟨_, ⟨r2, ?_, j.no, j.pend, fun b hl ho => Lent.snoc (fun _ _ => j.rel.lt) (j.lent b hl (noO b ho))⟩, ⟨j.rel.le_set _, by simp, fun i hi => ⟨Et.set_ne _ _ (Nat.ne_of_lt hi), get_snoc_lt hi⟩⟩, fun _ h => h, .inr ⟨Et.set_same _ _ _, rfl, rfl, h0⟩⟩
    intro b hb
    rcases j.own b (noO b hb) with hf | ⟨k, c1, c2, c3, c4⟩
    · exact .inl hf
    · exact .inr ⟨k, c1, c2, c3, c4.imp id (Lent.snoc fun _ _ => j.rel.lt)⟩
  · rename_i n cs
    split at e
    · rename_i hf
      cases e
      refine ⟨η', j, Onto.refl _ _, fun _ h => h, ?_⟩
      obtain ⟨A, c, rfl, h2, h3⟩ := hv
      refine ⟨A, c, rfl, h2, h3.imp id fun ⟨b, o, h4, h5⟩ => ⟨b, o, h4, VCells.mk fun j x hx => ?_⟩⟩
      obtain ⟨y, a1, a2, a3⟩ := h5.get hx
      exact ⟨y, roAll_le r.rel _ _ _ a1, a2, flat_ok (List.all_eq_true.1 hf x (List.mem_of_getElem? hx)) a3 (roAll_le r.rel)⟩
    · cases e
  · rename_i k off n es'
    split at e
    · rename_i hc
      obtain ⟨rfl, hc1, hc2⟩ := hc
      have ht : k ∈ tk := by simpa using hc1
      have hu : k ∉ us := by simpa using hc2
      split at e
      · rename_i cs ho
        split at e
        · rename_i hle
          cases e
          obtain ⟨η'', a1, a2, a3⟩ := own_ok (o' := .fz ((cs.drop off).take (n * es'))) r j hv ho rfl (by simpa using hle) (by simp [Ob.vl]) (by rw [← List.map_drop, ← List.map_take]; exact map_flat _) ht hu
          exact ⟨η'', a1, a2, fun _ h => List.mem_cons_of_mem _ h, a3⟩
        · cases e
      · rename_i cs ho
        split at e
        · rename_i hle
          dsimp only at e
          split at e
          · rename_i hf
            cases e
            obtain ⟨η'', a1, a2, a3⟩ := own_ok (o' := .cells ((cs.drop off).take (n * es'))) r j hv ho rfl hle rfl hf ht hu
            exact ⟨η'', a1, a2, fun _ h => List.mem_cons_of_mem _ h, a3⟩
          · cases e
        · cases e
      · cases e
    · cases e
  · cases e
theorem canonRows_ok (r : Whence η ro h hk w tk base) (l : List (Option Nat)) : ∀ (cs : List V) (i : Nat) {cs' : List V} {nh nh' : H} {us us' pend : List Nat} {η' : Et} {xs : List Value}, canonRows h hk tk l i cs nh us = some (cs', nh', us') → J η ro h hk w tk base η' nh us pend → VRels η ro cs xs →
    ∃ η'', J η ro h hk w tk base η'' nh' us' pend ∧ Onto η' nh η'' nh' ∧ (∀ k ∈ us, k ∈ us') ∧ VRels η'' (roAll η hk w ro) cs' xs
  | [], i, cs', nh, nh', us, us', pend, η', [], e, j, _ => by
    simp [canonRows] at e
    obtain ⟨rfl, rfl, rfl⟩ := e
    exact ⟨η', j, Onto.refl _ _, fun _ h => h, trivial⟩
  | v :: cs, i, cs', nh, nh', us, us', pend, η', x :: xs, e, j, hv => by
    unfold canonRows at e
    rw [Option.bind_eq_some_iff] at e
    obtain ⟨⟨v1, nh1, us1⟩, h1, e⟩ := e
    rw [Option.bind_eq_some_iff] at e
    obtain ⟨⟨cs2, nh2, us2⟩, h2, e⟩ := e
    cases e
    have one : ∃ η'', J η ro h hk w tk base η'' nh1 us1 pend ∧ Onto η' nh η'' nh1 ∧ (∀ k ∈ us, k ∈ us1) ∧ VRel η'' (roAll η hk w ro) v1 x := by
      split at h1
      · exact canonVal_ok r h1 j hv.1
      · exact canonOwn_ok r h1 j hv.1
    obtain ⟨η1, a1, a2, a3, a4⟩ := one
    obtain ⟨η2, b1, b2, b3, b4⟩ := canonRows_ok r l cs (i + 1) h2 a1 hv.2
    exact ⟨η2, b1, a2.trans b2, fun k hk => b3 k (a3 k hk), ⟨a4.mono b2.le (Ro.le_refl _), b4⟩⟩
  | [], _, _, _, _, _, _, _, _, _ :: _, _, _, h => h.elim
  | _ :: _, _, _, _, _, _, _, _, _, [], _, _, h => h.elim
theorem weak_ok : ∀ {x : F} {cv : Value}, VRel η ro (weakF x) cv → VRel η' ro' (weakF x) cv
  | .s _, _, h => h
  | .lst _ _, _, _ => trivial
  | .fp _, _, _ => trivial
theorem weak_junk {v : V} {cv : Value} (h : VRel η ro v cv) : VRel η' ro' (weakF (junkF v)) cv := by
  cases v with
  | f x => cases x with
    | s y => exact h
    | _ => trivial
  | _ => trivial
theorem lent_held {o : Ob} {L : List V} {cs : List F} (h1 : o.lk = some L) (h2 : lentOf o = some cs) : cs.length = L.length ∧ ∀ {c : Array Value} {st : Nat} {η' : Et} {ro' : Ro}, Held η ro L c st → Held η' ro' (cs.map weakF) c st := by
  cases o with
  | dead => cases h1
  | map q es => cases h1
  | cells l =>
    cases h1; cases h2
    refine ⟨by simp, fun hh j v hv => ?_⟩
    rw [List.getElem?_map, List.getElem?_map, Option.map_map, Option.map_eq_some_iff] at hv
    obtain ⟨u, h3, rfl⟩ := hv
    obtain ⟨x, a, b, c⟩ := hh j u h3
    exact ⟨x, a, b, weak_junk c⟩
  | fz l =>
    cases h1; cases h2
    refine ⟨by simp, fun hh j v hv => ?_⟩
    rw [List.getElem?_map, Option.map_eq_some_iff] at hv
    obtain ⟨u, h3, rfl⟩ := hv
    obtain ⟨x, a, b, c⟩ := hh j (.f u) (by rw [List.getElem?_map, h3]; rfl)
    exact ⟨x, a, b, weak_junk (v := .f u) c⟩
  | lent l =>
    cases h1; cases h2
    refine ⟨by simp, fun hh j v hv => ?_⟩
    obtain ⟨x, a, b, c⟩ := hh j v hv
    rw [List.getElem?_map, Option.map_eq_some_iff] at hv
    obtain ⟨u, h3, rfl⟩ := hv
    exact ⟨x, a, b, weak_ok c⟩
theorem isDead_no {k : Nat} (e : isDead hk k = true) : ∀ b, ¬ Has η hk k b := by
  rintro b ⟨st, sz, o, h1, h2, h3⟩
  unfold isDead at e
  rw [h2] at e
  cases o with
  | dead => cases h3
  | _ => simp at e
theorem canonLnt_ok (r : Whence η ro h hk w tk base) {v v' : V} {nh nh' : H} {us us' pend : List Nat} {η' : Et} {cv : Value} (e : canonLnt h hk v nh us = some (v', nh', us')) (j : J η ro h hk w tk base η' nh us pend) (hv : VRel η ro v cv) :
    ∃ η'', J η ro h hk w tk base η'' nh' us' pend ∧ Onto η' nh η'' nh' ∧ (∀ k ∈ us, k ∈ us') ∧ VRel η'' (roAll η hk w ro) v' cv := by
  unfold canonLnt at e
  split at e
  rotate_left
  · cases e
  rename_i k off n es
  split at e
  rotate_left
  · cases e
  rename_i hc
  have hu : k ∉ us := by simpa using hc.1
  have hx : ∀ b, ¬ Has η hk k b := isDead_no hc.2
  rw [Option.map_eq_some_iff] at e
  obtain ⟨cs, h1, h2⟩ := e
  cases h2
  rw [Option.bind_eq_some_iff] at h1
  obtain ⟨o, ho, hlo⟩ := h1
  obtain ⟨L, hL⟩ : ∃ L, o.lk = some L := by cases o <;> first | exact ⟨_, rfl⟩ | cases hlo
  have hlive : o.live = true := by cases o <;> first | rfl | cases hL
  obtain ⟨hlen, hheld⟩ := lent_held (η := η) (ro := ro) hL hlo
  rcases hv with ⟨b, st, sz, c, o1, g1, g2, g3, g4, g5⟩ | ⟨g1, rfl, rfl, g2⟩
  · obtain ⟨cc, T, lo, hi, e1, e2, e3, e4, e5⟩ := r.rel.at_lk g1 ho hL
    have hor : ORel (η'.set nh.length (.at_ b st sz)) (roAll η hk w ro) w (.lent cs) (.at_ b st sz) :=
      .inr ⟨b, st, sz, cc, T, lo, hi, rfl, e1, e2, e3, by rw [List.length_map, hlen]; exact e4, hheld e5⟩
    obtain ⟨a1, a2⟩ := j.add r hx (.inr ⟨cs, rfl⟩) (fun _ _ => ⟨cs, rfl⟩) hu hor (by rintro b' st' sz' e; cases e; exact ⟨st, sz, o, g1, ho, hlive⟩)
    exact ⟨_, a1, a2, fun _ h => List.mem_cons_of_mem _ h, .inl ⟨b, st, sz, c, o1, Et.set_same _ _ _, g2, g3, g4, g5⟩⟩
  · have hcs : cs = [] := by
      obtain ⟨o2, b1, b2⟩ := r.rel.obj k _ g1
      rw [ho] at b1; cases b1
      have : ∀ {l : List V}, CellsAt η ro w l .nil → l = [] := by
        intro l hc
        rcases hc with ⟨_, hc⟩ | ⟨_, _, _, _, _, _, _, hc, _⟩
        · exact hc
        · cases hc
      have hl0 : L = [] := by
        cases o with
        | dead => cases hL
        | map q es => cases hL
        | cells l => cases hL; exact this b2
        | fz l => cases hL; exact this b2
        | lent l => cases hL; exact this b2
      rw [hl0] at hlen
      exact List.eq_nil_of_length_eq_zero hlen
    subst hcs
    have hor : ORel (η'.set nh.length .nil) (roAll η hk w ro) w (.lent []) .nil := .inl ⟨rfl, rfl⟩
    obtain ⟨a1, a2⟩ := j.add r hx (.inr ⟨[], rfl⟩) (fun _ _ => ⟨[], rfl⟩) hu hor (by rintro b' st' sz' e; cases e)
    exact ⟨_, a1, a2, fun _ h => List.mem_cons_of_mem _ h, .inr ⟨Et.set_same _ _ _, rfl, rfl, g2⟩⟩
theorem canonLend_ok (r : Whence η ro h hk w tk base) (l : List Nat) : ∀ (cs : List V) (i : Nat) {cs' : List V} {nh nh' : H} {us us' pend : List Nat} {η' : Et} {xs : List Value}, canonLend h hk l i cs nh us = some (cs', nh', us') → J η ro h hk w tk base η' nh us pend → VRels η ro cs xs →
    ∃ η'', J η ro h hk w tk base η'' nh' us' pend ∧ Onto η' nh η'' nh' ∧ (∀ k ∈ us, k ∈ us') ∧ VRels η'' (roAll η hk w ro) cs' xs
  | [], i, cs', nh, nh', us, us', pend, η', [], e, j, _ => by
    simp [canonLend] at e
    obtain ⟨rfl, rfl, rfl⟩ := e
    exact ⟨η', j, Onto.refl _ _, fun _ h => h, trivial⟩
  | v :: cs, i, cs', nh, nh', us, us', pend, η', x :: xs, e, j, hv => by
    unfold canonLend at e
    rw [Option.bind_eq_some_iff] at e
    obtain ⟨⟨v1, nh1, us1⟩, h1, e⟩ := e
    rw [Option.bind_eq_some_iff] at e
    obtain ⟨⟨cs2, nh2, us2⟩, h2, e⟩ := e
    cases e
    have one : ∃ η'', J η ro h hk w tk base η'' nh1 us1 pend ∧ Onto η' nh η'' nh1 ∧ (∀ k ∈ us, k ∈ us1) ∧ VRel η'' (roAll η hk w ro) v1 x := by
      split at h1
      · split at h1
        · exact canonLnt_ok r h1 j hv.1
        · cases h1; exact ⟨η', j, Onto.refl _ _, fun _ h => h, trivial⟩
      · cases h1; exact ⟨η', j, Onto.refl _ _, fun _ h => h, FRel.mono (roAll_le r.rel) _ _ hv.1⟩
      · cases h1; exact ⟨η', j, Onto.refl _ _, fun _ h => h, trivial⟩
      · cases h1
    obtain ⟨η1, a1, a2, a3, a4⟩ := one
    obtain ⟨η2, b1, b2, b3, b4⟩ := canonLend_ok r l cs (i + 1) h2 a1 hv.2
    exact ⟨η2, b1, a2.trans b2, fun k hk => b3 k (a3 k hk), ⟨a4.mono b2.le (Ro.le_refl _), b4⟩⟩
  | [], _, _, _, _, _, _, _, _, _ :: _, _, _, h => h.elim
  | _ :: _, _, _, _, _, _, _, _, _, [], _, _, h => h.elim

/-- the object that is pinned -/
def pinAt (h : H) (s : Sh) (v : V) : Option (List Sh × Nat) :=
  match s, v with
  | .pin l, .ptr k _ => some (l, k)
  | .apin l, .agg [.ptr k _] => some (l, k)
  | .pbox l, .ptr b _ => match h[b]? with
    | some (.cells [.ptr k _]) => some (l, k)
    | _ => none
  | _, _ => none
mutual
theorem canon_ok (r : Whence η ro h hk w tk base) : ∀ (s : Sh) {v v' : V} {nh nh' : H} {us us' pend : List Nat} {η' : Et} {cv : Value}, canon h hk tk s v nh us = some (v', nh', us') → J η ro h hk w tk base η' nh us pend → VRel η ro v cv →
    ∃ η'', J η ro h hk w tk base η'' nh' us' pend ∧ Onto η' nh η'' nh' ∧ (∀ k ∈ us, k ∈ us') ∧ VRel η'' (roAll η hk w ro) v' cv ∧ (∀ ls k, pinAt h s v = some (ls, k) → ∃ p, η k = some p ∧ η'' 0 = some p)
  | .val, v, v', nh, nh', us, us', pend, η', cv, e, j, hv => by
    unfold canon at e
    split at e
    · rename_i hf
      cases e
      exact ⟨η', j, Onto.refl _ _, fun _ h => h, flat_ok hf hv (roAll_le r.rel), fun ls k e => by cases e⟩
    · rw [Option.map_eq_some_iff] at e
      obtain ⟨x, h1, h2⟩ := e
      cases h2
      exact ⟨η', j, Onto.refl _ _, fun _ h => h, (frzArg_ok r.frz h1 hv).1, fun ls k e => by cases e⟩
  | .raw, v, v', nh, nh', us, us', pend, η', cv, e, j, hv => by simp [canon] at e
  | .mp, v, v', nh, nh', us, us', pend, η', cv, e, j, hv => by
    unfold canon at e
    split at e
    · rename_i k
      split at e
      · rename_i hc
        have ht : k ∈ tk := by simpa using hc.1
        have hu : k ∉ us := by simpa using hc.2
        split at e
        · rename_i q es ho
          cases e
          obtain ⟨b, h1, h2⟩ := hv
          obtain ⟨ents, clock, h3, h4, h5⟩ := r.rel.map' h1 ho
          have hor : ORel (η'.set nh.length (.at_ b 0 0)) (roAll η hk w ro) w (.map q es) (.at_ b 0 0) := ⟨b, ents, clock, rfl, h3, MRel.mono (roAll_le r.rel) h4, h5⟩
          obtain ⟨a1, a2⟩ := j.add r (r.no ht) (.inl ht) (fun cs e => by rw [ho] at e; cases e) hu hor (by rintro b' st' sz' e; cases e; exact ⟨0, 0, _, h1, ho, rfl⟩)
          exact ⟨_, a1, a2, fun _ h => List.mem_cons_of_mem _ h, ⟨b, Et.set_same _ _ _, h2⟩, fun ls k e => by cases e⟩
        · cases e
      · cases e
    · cases e
  | .vec, v, v', nh, nh', us, us', pend, η', cv, e, j, hv => by
    unfold canon at e
    split at e
    · rename_i k
      split at e
      · rename_i hc
        have ht : k ∈ tk := by simpa using hc.1
        have hu : k ∉ us := by simpa using hc.2
        obtain ⟨b, st, sz, hkk, hcv⟩ := hv
        have key : ∀ {o : Ob} {l : List F}, h[k]? = some o → o.vl = some (l.map .f) → some (V.ptr nh.length 0, nh ++ [Ob.fz l], k :: us) = some (v', nh', us') →
            ∃ η'', J η ro h hk w tk base η'' nh' us' pend ∧ Onto η' nh η'' nh' ∧ (∀ k ∈ us, k ∈ us') ∧ VRel η'' (roAll η hk w ro) v' cv ∧ (∀ ls k1, pinAt h Sh.vec (V.ptr k 0) = some (ls, k1) → ∃ p, η k1 = some p ∧ η'' 0 = some p) := by
          intro o l ho hl e
          cases e
          have hlive : o.live = true := by cases o <;> first | rfl | cases hl
          obtain ⟨c, T, lo, hi, e1, e2, e3, e4, e5⟩ := r.rel.at_ hkk ho hl
          have hor : ORel (η'.set nh.length (.at_ b st sz)) (roAll η hk w ro) w (.fz l) (.at_ b st sz) := .inr ⟨b, st, sz, c, T, lo, hi, rfl, e1, e2, e3, e4, flats_ok e5 (map_flat l) (roAll_le r.rel)⟩
          obtain ⟨a1, a2⟩ := j.add r (r.no ht) (.inl ht) (fun cs e => by rw [ho] at e; cases e; cases hl) hu hor (by rintro b' st' sz' e; cases e; exact ⟨st, sz, o, hkk, ho, hlive⟩)
          exact ⟨_, a1, a2, fun _ h => List.mem_cons_of_mem _ h, ⟨b, st, sz, Et.set_same _ _ _, hcv⟩, fun ls k e => by cases e⟩
        have key2 : ∀ {o : Ob} {l : List F}, h[k]? = some o → o.vl = some (l.map .f) → some (V.ptr nh.length 0, nh ++ [Ob.fz l], k :: us) = some (v', nh', us') →
            ∃ η'', J η ro h hk w tk base η'' nh' us' pend ∧ Onto η' nh η'' nh' ∧ (∀ k ∈ us, k ∈ us') ∧ VRel η'' (roAll η hk w ro) v' cv ∧ (∀ ls k1, pinAt h Sh.vec (V.ptr k 0) = some (ls, k1) → ∃ p, η k1 = some p ∧ η'' 0 = some p) := fun h1 h2 h3 => by
          obtain ⟨η'', a1, a2, a3, a4, _⟩ := key h1 h2 h3
          exact ⟨η'', a1, a2, a3, a4, fun ls k e => by cases e⟩
        split at e
        · rename_i cs ho
          exact key2 ho rfl e
        · rename_i cs ho
          rw [Option.bind_eq_some_iff] at e
          obtain ⟨l, hl, e⟩ := e
          rw [toFs_eq] at hl
          subst hl
          exact key2 ho rfl e
        · cases e
      · cases e
    · cases e
  | .own es, v, v', nh, nh', us, us', pend, η', cv, e, j, hv => by
    obtain ⟨η'', a1, a2, a3, a4⟩ := canonOwn_ok r (by unfold canon at e; unfold canonOwn; exact e) j hv
    exact ⟨η'', a1, a2, a3, a4, fun ls k e => by cases e⟩
  | .st l, v, v', nh, nh', us, us', pend, η', cv, e, j, hv => by
    unfold canon at e
    split at e
    · rename_i cs
      rw [Option.bind_eq_some_iff] at e
      obtain ⟨⟨cs', nh2, us2⟩, h1, h2⟩ := e
      cases h2
      obtain ⟨cvs, rfl, h3, h4⟩ := hv
      obtain ⟨η'', a1, a2, a3, a4, _⟩ := canons_ok r l h1 j h3
      exact ⟨η'', a1, a2, a3, ⟨cvs, rfl, a4, h4⟩, fun ls k e => by cases e⟩
    · cases e
  | .lnt, v, v', nh, nh', us, us', pend, η', cv, e, j, hv => by
    obtain ⟨η'', a1, a2, a3, a4⟩ := canonLnt_ok r (by unfold canon at e; exact e) j hv
    exact ⟨η'', a1, a2, a3, a4, fun ls k e => by cases e⟩
  | .lend l, v, v', nh, nh', us, us', pend, η', cv, e, j, hv => by
    unfold canon at e
    split at e
    · rename_i cs
      rw [Option.map_eq_some_iff] at e
      obtain ⟨⟨cs', nh2, us2⟩, h1, h2⟩ := e
      cases h2
      obtain ⟨cvs, rfl, h3, h4⟩ := hv
      obtain ⟨η'', a1, a2, a3, a4⟩ := canonLend_ok r l cs 0 h1 j h3
      exact ⟨η'', a1, a2, a3, ⟨cvs, rfl, a4, h4⟩, fun ls k e => by cases e⟩
    · cases e
  | .rows l, v, v', nh, nh', us, us', pend, η', cv, e, j, hv => by
    unfold canon at e
    split at e
    · rename_i k off n es
      split at e
      · rename_i hc
        have ht : k ∈ tk := by simpa using hc.2.1
        have hu : k ∉ us := by simpa using hc.2.2
        rw [Option.bind_eq_some_iff] at e
        obtain ⟨cs, hcs, e⟩ := e
        rw [Option.bind_eq_some_iff] at hcs
        obtain ⟨o, ho, hco⟩ := hcs
        have hvl : o.vl = some cs := by cases o <;> first | exact hco | cases hco
        have hlive : o.live = true := by cases o <;> first | rfl | cases hvl
        have hnl : ∀ cs, h[k]? ≠ some (.lent cs) := fun cs e => by rw [ho] at e; cases e; cases hvl
        split at e
        rotate_left
        · cases e
        rename_i hle
        rw [Option.bind_eq_some_iff] at e
        obtain ⟨⟨cs', nh2, us2⟩, h1, h2⟩ := e
        cases h2
        rcases hv with ⟨b, st, sz, c, o1, g1, g2, g3, g4, g5⟩ | ⟨g1, rfl, rfl, g2⟩
        · obtain ⟨cc, T, lo, hi, e1, e2, e3, e4, e5⟩ := r.rel.at_ g1 ho hvl
          obtain ⟨xs, x1, x2, x3, x4⟩ := held_list e5 off (n * es) hle
          have hh : Has η h k b := ⟨st, sz, _, g1, ho, hlive⟩
          obtain ⟨η'', a1, a2, a3, a4⟩ := canonRows_ok r l _ 0 h1 (j.hold (r.no ht) hu) x2
          have hm : η'' nh.length = none := by rw [(a2.at_ nh.length (by simp)).1]; exact j.rel.none_at
          have hml : nh.length < nh2.length := Nat.lt_of_lt_of_le (by simp) a2.len
          have hor : ORel (η''.set nh.length (.at_ b (st + off) sz)) (roAll η hk w ro) w (.cells cs') (.at_ b (st + off) sz) := by
            refine .inr ⟨b, st + off, sz, cc, T, lo, hi, rfl, e1, e2, e3, by rw [a4.len, x1]; omega, fun i y hy => ?_⟩
            obtain ⟨z, b1, b2⟩ := a4.get hy
            refine ⟨z, x3 i z b1, x4 z (List.mem_of_getElem? b1), VRel.mono ?_ (Ro.le_refl _) _ _ b2⟩
            intro i q hq; rw [Et.set_ne]; exact hq
            rintro rfl; rw [hm] at hq; cases hq
          obtain ⟨d1, d2⟩ := J.done r j a1 hm hml hor (by rintro b' st' sz' e; cases e; exact hh) (r.no ht) ht hnl hu (a3 k List.mem_cons_self)
          refine ⟨_, d1, ⟨a2.le.trans d2, by rw [List.length_set]; exact Nat.le_of_lt hml, fun i hi => ?_⟩, fun i hi => a3 i (List.mem_cons_of_mem _ hi), .inl ⟨b, st + off, sz, c, o1, Et.set_same _ _ _, g2, g3, by omega, by simpa using g5⟩, fun ls k e => by cases e⟩
          obtain ⟨f1, f2⟩ := a2.at_ i (by simp; omega)
          refine ⟨by rw [Et.set_ne _ _ (Nat.ne_of_lt hi)]; exact f1, ?_⟩
          rw [List.getElem?_set_ne (by omega), f2, get_snoc_lt hi]
        · simp only [List.drop_zero, Nat.zero_mul, List.take_zero, canonRows, Option.some.injEq, Prod.mk.injEq] at h1
          obtain ⟨rfl, rfl, rfl⟩ := h1
          have a1 := j.hold (r.no ht) hu
          have hm : η' nh.length = none := j.rel.none_at
          have hor : ORel (η'.set nh.length .nil) (roAll η hk w ro) w (.cells []) .nil := .inl ⟨rfl, rfl⟩
          obtain ⟨d1, d2⟩ := J.done r j a1 hm (by simp) hor (by rintro b' st' sz' e; cases e) (r.no ht) ht hnl hu List.mem_cons_self
          refine ⟨_, d1, ⟨d2, by simp, fun i hi => ⟨Et.set_ne _ _ (Nat.ne_of_lt hi), ?_⟩⟩, fun i hi => List.mem_cons_of_mem _ hi, .inr ⟨Et.set_same _ _ _, rfl, rfl, g2⟩, fun ls k e => by cases e⟩
          rw [List.getElem?_set_ne (by omega), get_snoc_lt hi]
      · cases e
    · cases e
  | .box l, v, v', nh, nh', us, us', pend, η', cv, e, j, hv => by
    unfold canon at e
    split at e
    · rename_i k
      split at e
      · rename_i hc
        have ht : k ∈ tk := by simpa using hc.1
        have hu : k ∉ us := by simpa using hc.2
        split at e
        · rename_i cs ho
          rw [Option.bind_eq_some_iff] at e
          obtain ⟨⟨cs', nh2, us2⟩, h1, h2⟩ := e
          cases h2
          obtain ⟨b, st, sz, hkk, hcv⟩ := hv
          obtain ⟨c, T, lo, hi, e1, e2, e3, e4, e5⟩ := r.rel.at_ hkk ho rfl
          obtain ⟨xs, x1, x2, x3, x4⟩ := held_list e5 0 cs.length (by omega)
          rw [List.drop_zero, List.take_length] at x2
          have hh : Has η h k b := ⟨st, sz, _, hkk, ho, rfl⟩
          have j2 : J η ro h hk w tk base η' (nh ++ [.dead]) (k :: us) (k :: pend) := j.hold (r.no ht) hu
          obtain ⟨η'', a1, a2, a3, a4, _⟩ := canons_ok r l h1 j2 x2
          have hm : η'' nh.length = none := by rw [(a2.at_ nh.length (by simp)).1]; exact j.rel.none_at
          have hml : nh.length < nh2.length := Nat.lt_of_lt_of_le (by simp) a2.len
          have hor : ORel (η''.set nh.length (.at_ b st sz)) (roAll η hk w ro) w (.cells cs') (.at_ b st sz) := by
            refine .inr ⟨b, st, sz, c, T, lo, hi, rfl, e1, e2, e3, by rw [a4.len, x1]; exact e4, fun i y hy => ?_⟩
            obtain ⟨z, b1, b2⟩ := a4.get hy
            refine ⟨z, x3 i z b1, x4 z (List.mem_of_getElem? b1), VRel.mono ?_ (Ro.le_refl _) _ _ b2⟩
            intro i q hq; rw [Et.set_ne]; exact hq
            rintro rfl; rw [hm] at hq; cases hq
          obtain ⟨c1, c2⟩ := J.done r j a1 hm hml hor (by rintro b' st' sz' e; cases e; exact hh) (r.no ht) ht (fun cs e => by rw [ho] at e; cases e) hu (a3 k List.mem_cons_self)
          refine ⟨_, c1, ⟨?_, ?_, ?_⟩, fun i hi => a3 i (List.mem_cons_of_mem _ hi), ⟨b, st, sz, Et.set_same _ _ _, hcv⟩, fun ls k e => by cases e⟩
          · exact a2.le.trans c2
          · rw [List.length_set]; exact Nat.le_of_lt hml
          · intro i hi
            obtain ⟨d1, d2⟩ := a2.at_ i (by simp; omega)
            refine ⟨by rw [Et.set_ne _ _ (Nat.ne_of_lt hi)]; exact d1, ?_⟩
            rw [List.getElem?_set_ne (by omega), d2, get_snoc_lt hi]
        · cases e
      · cases e
    · cases e
  | .pin l, v, v', nh, nh', us, us', pend, η', cv, e, j, hv => by
    unfold canon at e
    split at e
    · rename_i k
      split at e
      · rename_i hc
        have ht : k ∈ tk := by simpa using hc.1
        have hu : k ∉ us := by simpa using hc.2
        split at e
        · rename_i cs ho
          rw [Option.bind_eq_some_iff] at e
          obtain ⟨⟨cs', nh2, us2⟩, h1, h2⟩ := e
          cases h2
          obtain ⟨b, st, sz, hkk, hcv⟩ := hv
          obtain ⟨c, T, lo, hi, e1, e2, e3, e4, e5⟩ := r.rel.at_ hkk ho rfl
          obtain ⟨xs, x1, x2, x3, x4⟩ := held_list e5 0 cs.length (by omega)
          rw [List.drop_zero, List.take_length] at x2
          have hh : Has η h k b := ⟨st, sz, _, hkk, ho, rfl⟩
          have j2 : J η ro h hk w tk base η' ([.dead]) (k :: us) (k :: pend) := j.hold (r.no ht) hu
          obtain ⟨η'', a1, a2, a3, a4, _⟩ := canons_ok r l h1 j2 x2
          have hm : η'' 0 = none := by rw [(a2.at_ 0 (by simp)).1]; exact j.rel.none_at
          have hml : 0 < nh2.length := Nat.lt_of_lt_of_le (by simp) a2.len
          have hor : ORel (η''.set 0 (.at_ b st sz)) (roAll η hk w ro) w (.cells cs') (.at_ b st sz) := by
            refine .inr ⟨b, st, sz, c, T, lo, hi, rfl, e1, e2, e3, by rw [a4.len, x1]; exact e4, fun i y hy => ?_⟩
            obtain ⟨z, b1, b2⟩ := a4.get hy
            refine ⟨z, x3 i z b1, x4 z (List.mem_of_getElem? b1), VRel.mono ?_ (Ro.le_refl _) _ _ b2⟩
            intro i q hq; rw [Et.set_ne]; exact hq
            rintro rfl; rw [hm] at hq; cases hq
          obtain ⟨c1, c2⟩ := J.done r j a1 hm hml hor (by rintro b' st' sz' e; cases e; exact hh) (r.no ht) ht (fun cs e => by rw [ho] at e; cases e) hu (a3 k List.mem_cons_self)
          refine ⟨_, c1, ⟨?_, ?_, ?_⟩, fun i hi => a3 i (List.mem_cons_of_mem _ hi), ⟨b, st, sz, Et.set_same _ _ _, hcv⟩, fun ls k' e => by cases e; exact ⟨_, hkk, Et.set_same _ _ _⟩⟩
          · exact a2.le.trans c2
          · rw [List.length_set]; exact Nat.le_of_lt hml
          · intro i hi
            exact absurd hi (Nat.not_lt_zero _)
        · cases e
      · cases e
    · cases e
  | .apin l, v, v', nh, nh', us, us', pend, η', cv, e, j, hv => by
    unfold canon at e
    split at e
    · rename_i k
      split at e
      · rename_i hc
        have ht : k ∈ tk := by simpa using hc.1
        have hu : k ∉ us := by simpa using hc.2
        split at e
        · rename_i cs ho
          rw [Option.bind_eq_some_iff] at e
          obtain ⟨⟨cs', nh2, us2⟩, h1, h2⟩ := e
          cases h2
          obtain ⟨cvs, hcs, hgv, hxs⟩ := hv
          obtain ⟨cvs⟩ := cvs
          obtain ⟨z, rfl⟩ : ∃ z, cvs = [z] := by
            have := hgv.len
            match cvs, this with
            | [z], _ => exact ⟨z, rfl⟩
          obtain ⟨b, st, sz, hkk, hcv⟩ := hgv.1
          obtain ⟨c, T, lo, hi, e1, e2, e3, e4, e5⟩ := r.rel.at_ hkk ho rfl
          obtain ⟨xs, x1, x2, x3, x4⟩ := held_list e5 0 cs.length (by omega)
          rw [List.drop_zero, List.take_length] at x2
          have hh : Has η h k b := ⟨st, sz, _, hkk, ho, rfl⟩
          have j2 : J η ro h hk w tk base η' ([.dead]) (k :: us) (k :: pend) := j.hold (r.no ht) hu
          obtain ⟨η'', a1, a2, a3, a4, _⟩ := canons_ok r l h1 j2 x2
          have hm : η'' 0 = none := by rw [(a2.at_ 0 (by simp)).1]; exact j.rel.none_at
          have hml : 0 < nh2.length := Nat.lt_of_lt_of_le (by simp) a2.len
          have hor : ORel (η''.set 0 (.at_ b st sz)) (roAll η hk w ro) w (.cells cs') (.at_ b st sz) := by
            refine .inr ⟨b, st, sz, c, T, lo, hi, rfl, e1, e2, e3, by rw [a4.len, x1]; exact e4, fun i y hy => ?_⟩
            obtain ⟨z, b1, b2⟩ := a4.get hy
            refine ⟨z, x3 i z b1, x4 z (List.mem_of_getElem? b1), VRel.mono ?_ (Ro.le_refl _) _ _ b2⟩
            intro i q hq; rw [Et.set_ne]; exact hq
            rintro rfl; rw [hm] at hq; cases hq
          obtain ⟨c1, c2⟩ := J.done r j a1 hm hml hor (by rintro b' st' sz' e; cases e; exact hh) (r.no ht) ht (fun cs e => by rw [ho] at e; cases e) hu (a3 k List.mem_cons_self)
          refine ⟨_, c1, ⟨?_, ?_, ?_⟩, fun i hi => a3 i (List.mem_cons_of_mem _ hi), ⟨⟨[z]⟩, hcs, ⟨⟨b, st, sz, Et.set_same _ _ _, hcv⟩, trivial⟩, hxs⟩, fun ls k' e => by cases e; exact ⟨_, hkk, Et.set_same _ _ _⟩⟩
          · exact a2.le.trans c2
          · rw [List.length_set]; exact Nat.le_of_lt hml
          · intro i hi
            exact absurd hi (Nat.not_lt_zero _)
        · cases e
      · cases e
    · cases e
  | .pbox l, v, v', nh, nh', us, us', pend, η', cv, e, j, hv => by
    unfold canon at e
    split at e
    · rename_i bk
      split at e
      · rename_i hcb
        have htb : bk ∈ tk := by simpa using hcb.1
        have hub : bk ∉ us := by simpa using hcb.2
        split at e
        · rename_i k hob
          split at e
          · rename_i hc
            have ht : k ∈ tk := by simpa using hc.1
            have hu : k ∉ bk :: us := by simpa using hc.2
            split at e
            · rename_i cs ho
              rw [Option.bind_eq_some_iff] at e
              obtain ⟨⟨cs', nh2, us2⟩, h1, h2⟩ := e
              cases h2
              obtain ⟨bb, bst, bsz, hbk, hcv⟩ := hv
              obtain ⟨bc, bT, blo, bhi, f1, f2, f3, f4, f5⟩ := r.rel.at_ hbk hob rfl
              obtain ⟨z, f6, f7, b, st, sz, hkk, hz⟩ := f5 0 _ rfl
              have hhb : Has η h bk bb := ⟨bst, bsz, _, hbk, hob, rfl⟩
              obtain ⟨c, T, lo, hi, e1, e2, e3, e4, e5⟩ := r.rel.at_ hkk ho rfl
              obtain ⟨xs, x1, x2, x3, x4⟩ := held_list e5 0 cs.length (by omega)
              rw [List.drop_zero, List.take_length] at x2
              have hh : Has η h k b := ⟨st, sz, _, hkk, ho, rfl⟩
              have j1 : J η ro h hk w tk base η' ([.dead]) (bk :: us) (bk :: pend) := j.hold (r.no htb) hub
              have j2 : J η ro h hk w tk base η' ([.dead, .dead]) (k :: bk :: us) (k :: bk :: pend) := j1.hold (r.no ht) hu
              obtain ⟨η'', a1, a2, a3, a4, _⟩ := canons_ok r l h1 j2 x2
              have hm0 : η'' 0 = none := by
                rw [(a2.at_ 0 (by simp)).1]
                exact j.rel.none_at
              have hm1 : η'' 1 = none := by
                rw [(a2.at_ 1 (by simp)).1]
                exact j1.rel.none_at
              have hml : 1 < nh2.length := Nat.lt_of_lt_of_le (by simp) a2.len
              have hor : ORel (η''.set 0 (.at_ b st sz)) (roAll η hk w ro) w (.cells cs') (.at_ b st sz) := by
                refine .inr ⟨b, st, sz, c, T, lo, hi, rfl, e1, e2, e3, by rw [a4.len, x1]; exact e4, fun i y hy => ?_⟩
                obtain ⟨z, b1, b2⟩ := a4.get hy
                refine ⟨z, x3 i z b1, x4 z (List.mem_of_getElem? b1), VRel.mono ?_ (Ro.le_refl _) _ _ b2⟩
                intro i q hq; rw [Et.set_ne]; exact hq
                rintro rfl; rw [hm0] at hq; cases hq
              obtain ⟨c1, c2⟩ := J.done r j1 a1 hm0 (by omega) hor (by rintro b' st' sz' e; cases e; exact hh) (r.no ht) ht (fun cs e => by rw [ho] at e; cases e) hu (a3 k List.mem_cons_self)
              have hm1' : (η''.set 0 (.at_ b st sz)) 1 = none := by rw [Et.set_ne _ _ (by omega)]; exact hm1
              have hor2 : ORel ((η''.set 0 (.at_ b st sz)).set 1 (.at_ bb bst bsz)) (roAll η hk w ro) w (.cells [.ptr 0 0]) (.at_ bb bst bsz) := by
                refine .inr ⟨bb, bst, bsz, bc, bT, blo, bhi, rfl, f1, f2, f3, f4, fun i y hy => ?_⟩
                cases i with
                | zero =>
                  cases hy
                  exact ⟨z, f6, f7, b, st, sz, by rw [Et.set_ne _ _ (by omega), Et.set_same], hz⟩
                | succ i => simp at hy
              obtain ⟨d1, d2⟩ := J.done r j c1 hm1' (by rw [List.length_set]; exact hml) hor2 (by rintro b' st' sz' e; cases e; exact hhb) (r.no htb) htb (fun cs e => by rw [hob] at e; cases e) hub (a3 bk (by simp))
              refine ⟨_, d1, ⟨?_, ?_, ?_⟩, fun i hi => a3 i (by simp [hi]), ⟨bb, bst, bsz, Et.set_same _ _ _, hcv⟩, fun ls k' e => by
                simp only [pinAt, hob] at e
                cases e
                exact ⟨_, hkk, by rw [Et.set_ne _ _ (by omega), Et.set_same]⟩⟩
              · exact (a2.le.trans c2).trans d2
              · rw [List.length_set, List.length_set]; simp
              · intro i hi
                exact absurd hi (Nat.not_lt_zero _)
            · cases e
          · cases e
        · cases e
      · cases e
    · cases e
theorem canons_ok (r : Whence η ro h hk w tk base) : ∀ (l : List Sh) {cs cs' : List V} {nh nh' : H} {us us' pend : List Nat} {η' : Et} {xs : List Value}, canons h hk tk l cs nh us = some (cs', nh', us') → J η ro h hk w tk base η' nh us pend → VRels η ro cs xs →
    ∃ η'', J η ro h hk w tk base η'' nh' us' pend ∧ Onto η' nh η'' nh' ∧ (∀ k ∈ us, k ∈ us') ∧ VRels η'' (roAll η hk w ro) cs' xs ∧ (∀ s l' v cs0 ls k, l = s :: l' → cs = v :: cs0 → pinAt h s v = some (ls, k) → ∃ p, η k = some p ∧ η'' 0 = some p)
  | [], [], cs', nh, nh', us, us', pend, η', [], e, j, _ => by
    simp [canons] at e
    obtain ⟨rfl, rfl, rfl⟩ := e
    exact ⟨η', j, Onto.refl _ _, fun _ h => h, trivial, fun _ _ _ _ _ _ e => by cases e⟩
  | s :: l, v :: cs, cs', nh, nh', us, us', pend, η', x :: xs, e, j, hv => by
    unfold canons at e
    rw [Option.bind_eq_some_iff] at e
    obtain ⟨⟨v1, nh1, us1⟩, h1, e⟩ := e
    rw [Option.bind_eq_some_iff] at e
    obtain ⟨⟨cs2, nh2, us2⟩, h2, e⟩ := e
    cases e
    obtain ⟨η1, a1, a2, a3, a4, a5⟩ := canon_ok r s h1 j hv.1
    obtain ⟨η2, b1, b2, b3, b4, _⟩ := canons_ok r l h2 a1 hv.2
    refine ⟨η2, b1, a2.trans b2, fun k hk => b3 k (a3 k hk), ⟨a4.mono b2.le (Ro.le_refl _), b4⟩, fun s' l' v' cs0 ls k e1 e2 e3 => ?_⟩
    cases e1; cases e2
    obtain ⟨p, h3, h4⟩ := a5 ls k e3
    exact ⟨p, h3, by rw [(b2.at_ 0 (a1.rel.lt h4)).1, h4]⟩
  | [], _ :: _, _, _, _, _, _, _, _, _, e, _, _ => by simp [canons] at e
  | _ :: _, [], _, _, _, _, _, _, _, _, e, _, _ => by simp [canons] at e
  | [], [], _, _, _, _, _, _, _, _ :: _, _, _, h => h.elim
  | _ :: _, _ :: _, _, _, _, _, _, _, _, [], _, _, h => h.elim
end
theorem canonAll_ok (r : Whence η ro h hk w tk base) {fr : Fr} {g : Nat → Value} (f : ∀ i, VRel η ro (fr i) (g i)) : ∀ (l : List (Nat × Sh)) {m : List (Nat × V)} {nh nh' : H} {us : List Nat} {η' : Et}, canonAll h hk tk fr l nh us = some (m, nh') → J η ro h hk w tk base η' nh us [] →
    ∃ η'' us', J η ro h hk w tk base η'' nh' us' [] ∧ Onto η' nh η'' nh' ∧ (∀ i, VRel η'' (roAll η hk w ro) (mk m i) (g i)) ∧ (∀ i s l' ls k, l = (i, s) :: l' → pinAt h s (fr i) = some (ls, k) → ∃ p, η k = some p ∧ η'' 0 = some p)
  | [], m, nh, nh', us, η', e, j => by
    simp [canonAll] at e
    obtain ⟨rfl, rfl⟩ := e
    exact ⟨η', us, j, Onto.refl _ _, fun i => trivial, fun _ _ _ _ _ e => by cases e⟩
  | (i, s) :: l, m, nh, nh', us, η', e, j => by
    unfold canonAll at e
    rw [Option.bind_eq_some_iff] at e
    obtain ⟨⟨v1, nh1, us1⟩, h1, e⟩ := e
    rw [Option.bind_eq_some_iff] at e
    obtain ⟨⟨m2, nh2⟩, h2, e⟩ := e
    cases e
    obtain ⟨η1, a1, a2, a3, a4, a5⟩ := canon_ok r s h1 j (f i)
    obtain ⟨η2, us2, b1, b2, b3, _⟩ := canonAll_ok r f l h2 a1
    refine ⟨η2, us2, b1, a2.trans b2, fun k => ?_, fun i' s' l' ls k e1 e2 => ?_⟩
    rotate_left
    · cases e1
      obtain ⟨p, h3, h4⟩ := a5 ls k e2
      exact ⟨p, h3, by rw [(b2.at_ 0 (a1.rel.lt h4)).1, h4]⟩
    by_cases hk : k = i
    · subst hk
      have : mk ((k, v1) :: m2) k = v1 := by simp [mk]
      rw [this]; exact a4.mono b2.le (Ro.le_refl _)
    · have : mk ((i, v1) :: m2) k = mk m2 k := by simp [mk, List.lookup, beq_eq_false_iff_ne.2 hk]
      rw [this]; exact b3 k
end

/-- What holds from a function's start on, in a heap of its own; pin: object 0 stays where it lies. -/
structure Fin (η0 : Et) (ro0 : Ro) (h0 : H) (w0 : World) (pin : Bool) (η : Et) (ro : Ro) (h : H) (w : World) : Prop where
  size : w0.heap.size ≤ w.heap.size
  keep : ∀ b, b < w0.heap.size → ¬ Owned η0 h0 b → w.heap[b]? = w0.heap[b]?
  owns : ∀ b, b < w0.heap.size → Owned η h b → Owned η0 h0 b
  os : w.os = w0.os
  tape : w.tape = w0.tape
  output : w.output = w0.output
  rol : ro0.le ro
  rok : ∀ b, b < w0.heap.size → ¬ Owned η0 h0 b → ∀ o, ro b o = ro0 b o
  pinned : pin = true → ∃ p, η0 0 = some p ∧ η 0 = some p
  lentLt : ∀ b, Lent η0 h0 b → b < w0.heap.size
  lent : ∀ b, Lent η0 h0 b → (w.heap[b]? = w0.heap[b]? ∧ ∀ o, ro b o = ro0 b o) ∧ (Owned η h b → Lent η h b)
theorem Stp.lents (r : Rel η ro h w) (s : Stp η ro h w η' ro' h' w') {b : Nat} (hb : b < w.heap.size) (l : Owned η h b → Lent η h b) (hu : ¬ Owned η h b → w'.heap[b]? = w.heap[b]? ∧ ∀ o, ro' b o = ro b o) : (w'.heap[b]? = w.heap[b]? ∧ ∀ o, ro' b o = ro b o) ∧ (Owned η' h' b → Lent η' h' b) := by
  by_cases ho : Owned η h b
  · obtain ⟨k, st, sz, cs, h1, h2⟩ := l ho
    obtain ⟨h3, h4⟩ := s.lent k cs h2
    exact ⟨h4 b st sz h1, fun _ => ⟨k, st, sz, cs, s.le r k _ h1, h3⟩⟩
  · exact ⟨hu ho, fun h => absurd (s.owns b hb h) ho⟩
theorem Fin.keeps (η0 : Et) (ro0 : Ro) (h0 : H) (w0 : World) (pin : Bool) : Keeps (Fin η0 ro0 h0 w0 pin) := ⟨fun i r s =>
  ⟨Nat.le_trans i.size s.size, fun b hb hn => (s.keep b (Nat.lt_of_lt_of_le hb i.size) fun ho => hn (i.owns b hb ho)).trans (i.keep b hb hn), fun b hb ho => i.owns b hb (s.owns b (Nat.lt_of_lt_of_le hb i.size) ho),
   s.os.trans i.os, s.tape.trans i.tape, s.output.trans i.output, i.rol.trans s.rol, fun b hb hn o => (s.rok b (Nat.lt_of_lt_of_le hb i.size) (fun ho => hn (i.owns b hb ho)) o).trans (i.rok b hb hn o),
   fun hp => let ⟨p, h1, h2⟩ := i.pinned hp; ⟨p, h1, by rw [s.ext 0 (r.lt h2)]; exact h2⟩, i.lentLt,
   fun b hl => by
     obtain ⟨h1, h2⟩ := i.lent b hl
     have hb := Nat.lt_of_lt_of_le (i.lentLt b hl) i.size
     obtain ⟨h3, h4⟩ := Stp.lents r s hb h2 (fun hn => ⟨s.keep b hb hn, s.rok b hb hn⟩)
     exact ⟨⟨h3.1.trans h1.1, fun o => (h3.2 o).trans (h1.2 o)⟩, h4⟩⟩⟩
theorem mk_map (fr : Fr) {g : Nat → Value} (f : ∀ i, VRel η ro (fr i) (g i)) : ∀ (l : List (Nat × Sh)) (i : Nat), VRel η ro (mk (l.map fun x => (x.1, fr x.1)) i) (g i)
  | [], i => trivial
  | x :: l, i => by
    by_cases hk : i = x.1
    · subst hk
      have : mk ((x :: l).map fun x => (x.1, fr x.1)) x.1 = fr x.1 := by simp [mk]
      rw [this]; exact f _
    · have : mk ((x :: l).map fun x => (x.1, fr x.1)) i = mk (l.map fun x => (x.1, fr x.1)) i := by simp [mk, List.lookup, beq_eq_false_iff_ne.2 hk]
      rw [this]; exact mk_map fr f l i
theorem whence_kill (r : Rel η ro h w) (tk : List Nat) (base : Nat → Prop) (hb : ∀ b, base b → ¬ Owned η h b) : Whence η ro h (Go.Abs.kill tk 0 (noLent h)) w tk base :=
  ⟨r, r.noLent.killAll tk, fun k b hh => ⟨(has_killN hh).1, by have := (has_killN hh).2.1; simpa using this⟩, hb⟩
theorem J.start (r : Rel η ro h w) {tk : List Nat} {base : Nat → Prop} (hk : H) : J η ro h hk w tk base (fun _ => none) [] [] [] := by
  refine ⟨⟨fun b o v hv => roAll_cells r hv, fun k p hk => (by cases hk), ?_, ?_, r.glob.mono (roAll_le r)⟩, ?_, by simp, by simp, fun b _ ho => by obtain ⟨k, _, _, _, h1, _⟩ := ho; cases h1⟩
  · rintro k k' b ⟨_, _, _, h1, _⟩; cases h1
  · rintro k b ⟨_, _, _, h1, _⟩; cases h1
  · rintro b ⟨k, _, _, _, h1, _⟩; cases h1
theorem Fin.cutOk (N : Nat) {an : Ann} (η0 : Et) (ro0 : Ro) (h0 : H) (w0 : World) {pin : Bool} (ha : ∀ p l, an p = some l → pin = true → isRaw l = true ∨ headPin l = true) : CutOk N ds an (Fin η0 ro0 h0 w0 pin) := by
  intro p fr h k kj out η ro a w e f r i
  unfold Go.Abs.cut at e
  split at e
  · exact ⟨fr, h, η, ro, .inl e, f, r, i⟩
  · rename_i l hl
    split at e
    · exact ⟨_, h, η, ro, .inr e, ⟨f.size, mk_map fr f.at_ l, f.defers, f.glob⟩, r, i⟩
    · rename_i hraw
      split at e
      rotate_left
      · cases e
      rename_i hpin
      dsimp only at e
      rw [canonAllK_eq, Option.bind_eq_some_iff] at e
      obtain ⟨⟨m, nh⟩, h1, e⟩ := e
      have wh := whence_kill r (l.flatMap fun x => takes h x.2 (fr x.1)) (fun _ => False) fun b hb => hb.elim
      obtain ⟨η2, us2, a1, a2, a3, a4⟩ := canonAll_ok wh f.at_ l h1 (J.start r _)
      refine ⟨_, nh, η2, _, .inr e, ⟨f.size, a3, f.defers, f.glob.mono (roAll_le r)⟩, a1.rel, ⟨i.size, i.keep, fun b hb ho => ?_, i.os, i.tape, i.output, i.rol.trans (roAll_le r), fun b hb hn o => ?_, fun hp => ?_, i.lentLt, fun b hl => ⟨⟨(i.lent b hl).1.1, fun o => ?_⟩, fun ho => ?_⟩⟩⟩
      · rcases a1.own b ho with hf | ⟨k, _, _, hh, _⟩
        · exact hf.elim
        · exact i.owns b hb ⟨k, hh⟩
      · rw [roAll_ne]
        · exact i.rok b hb hn o
        · rintro ⟨k, hh⟩
          exact hn (i.owns b hb ⟨k, (has_killN hh).1⟩)
      rotate_right
      rotate_right
      · rw [roAll_ne]
        · exact (i.lent b hl).1.2 o
        · rintro ⟨k, hh⟩
          obtain ⟨g1, g2, g3⟩ := has_killN hh
          obtain ⟨k2, s1, s2, cs, q1, q2⟩ := (i.lent b hl).2 ⟨k, g1⟩
          have := r.own k k2 b g1 ⟨s1, s2, _, q1, q2, rfl⟩
          subst this
          exact g3 cs q2
      · have hown : Owned η h b := by
          rcases a1.own b ho with hf | ⟨k, _, _, hh, _⟩
          · exact hf.elim
          · exact ⟨k, hh⟩
        exact a1.lent b ((i.lent b hl).2 hown) ho
      · obtain ⟨p, g1, g2⟩ := i.pinned hp
        refine ⟨p, g1, ?_⟩
        have hhd := (ha _ l hl hp).resolve_left hraw
        cases l with
        | nil => cases hhd
        | cons x l =>
          obtain ⟨i0, s0⟩ := x
          cases s0 with
          | pin ls =>
            have h5 : fr i0 = .ptr 0 0 := by
              simp only [pinOk] at hpin
              split at hpin
              · assumption
              · cases hpin
            obtain ⟨p', q1, q2⟩ := a4 i0 _ l ls 0 rfl (by rw [h5]; rfl)
            rw [g2] at q1; cases q1
            exact q2
          | pbox ls =>
            have h5 : pinAt h (.pbox ls) (fr i0) = some (ls, 0) := by
              simp only [pinOk] at hpin
              split at hpin
              · rename_i b hb
                split at hpin
                · rename_i hob
                  rw [hb]
                  simp only [pinAt, hob]
                · cases hpin
              · cases hpin
            obtain ⟨p', q1, q2⟩ := a4 i0 _ l ls 0 rfl h5
            rw [g2] at q1; cases q1
            exact q2
          | _ => cases hhd
theorem Stp.keeps (η0 : Et) (ro0 : Ro) (h0 : H) (w0 : World) : Keeps (Stp η0 ro0 h0 w0) := ⟨fun i _ s => i.trans s⟩
theorem Stp.cutOk (N : Nat) {an : Ann} (ha : ∀ p l, an p = some l → isRaw l = true) (η0 : Et) (ro0 : Ro) (h0 : H) (w0 : World) : CutOk N ds an (Stp η0 ro0 h0 w0) := by
  intro p fr h k kj out η ro a w e f r i
  unfold Go.Abs.cut at e
  split at e
  · exact ⟨fr, h, η, ro, .inl e, f, r, i⟩
  · rename_i l hl
    rw [if_pos (ha p l hl)] at e
    exact ⟨_, h, η, ro, .inr e, ⟨f.size, mk_map fr f.at_ l, f.defers, f.glob⟩, r, i⟩
end
end Go.Abs
