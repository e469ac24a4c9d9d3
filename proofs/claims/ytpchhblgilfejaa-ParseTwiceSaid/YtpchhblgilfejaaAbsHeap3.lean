/-
  What changes memory: append; literals.
-/
import Derived.Test.YtpchhblgilfejaaAbsHeap2
import Derived.Laws.IdiomStrings
set_option autoImplicit false
set_option linter.unusedVariables false
set_option linter.unusedSimpArgs false
namespace Go.Abs
open Go Go.MapKept
section
variable {P : Program} {η : Et} {ro : Ro} {h : H} {w : World}

theorem vcells_list : ∀ {cs : List V} {b o : Nat}, VCells η ro cs b o → ∃ xs : List Value, xs.length = cs.length ∧ VRels η ro cs xs ∧ (∀ (j : Nat) x, xs[j]? = some x → ro b (o + j) = some x) ∧ ∀ x ∈ xs, x.oneCell' = true
  | [], _, _, _ => ⟨[], rfl, trivial, by simp, by simp⟩
  | y :: ys, b, o, ⟨⟨z, z1, z2, z3⟩, hcs⟩ => by
    obtain ⟨xs, a1, a2, a3, a4⟩ := vcells_list hcs
    refine ⟨z :: xs, by simp [a1], ⟨z3, a2⟩, ?_, ?_⟩
    · intro j x hj
      cases j with
      | zero => simp at hj; subst hj; exact z1
      | succ j => have := a3 j x (by simpa using hj); rwa [show o + (j + 1) = o + 1 + j by omega]
    · intro x hx
      rcases List.mem_cons.1 hx with rfl | hx
      · exact z2
      · exact a4 x hx
/-- What is appended, as Go reads it. -/
structure Src (P : Program) (w : World) (es n : Nat) (cx : Value) (news : List Value) : Prop where
  len : news.length = n * es
  lenOf : (Builtin.lenOf cx).run P w = .ok n w
  first : ∀ w1 : World, w1.heap = w.heap → (Builtin.firstCells es n cx).run P w1 = .ok news.toArray w1
theorem cells_heap {w1 : World} (e : w1.heap = w.heap) (a : Addr) : w1.cell? a = w.cell? a := by simp [World.cell?, e]
theorem src_at {b o n c es : Nat} {news : List Value} (hl : news.length = n * es) (hc : ∀ (j : Nat) x, news[j]? = some x → w.cell? ⟨b, o + j, none⟩ = some x) : Src P w es n (.slice (some ⟨b, o, none⟩) n c) news :=
  ⟨hl, by simp [Builtin.lenOf], fun w1 e => by
    have := run_lds (P := P) (w := w1) (b := b) (o := o) (xs := news) fun j x hj => by rw [cells_heap e]; exact hc j x hj
    simp only [Builtin.firstCells]; rw [← hl]; exact this⟩
theorem src_none {n c es : Nat} (hn : n * es = 0) (A : Option Addr) : Src P w es n (.slice A n c) [] :=
  ⟨by simp [hn], by simp [Builtin.lenOf], fun w1 e => by
    cases A with
    | none => simp [Builtin.firstCells]
    | some a => simp [Builtin.firstCells, hn, loadCells, loadCellsFrom]⟩
theorem slCells_ok {x : V} {es n : Nat} {xs : List V} {cx : Value} (r : Rel η ro h w) (e : slCells h x es = some (n, xs)) (hl : xs.length = n * es) (hx : VRel η ro x cx) :
    ∃ news, Src P w es n cx news ∧ VRels η ro xs news ∧ (∀ y ∈ news, y.oneCell' = true) ∧ ∃ A c, cx = .slice A n c := by
  unfold slCells at e
  split at e
  · cases e; have := rel_s hx; subst this; exact ⟨[], src_none (by simp) _, trivial, by simp, _, _, rfl⟩
  · cases e
    obtain ⟨A, c, rfl, hc, hd⟩ := hx
    rcases hd with ⟨rfl, rfl⟩ | ⟨b, o, rfl, hcs⟩
    · exact ⟨[], src_none (by simp) _, trivial, by simp, _, _, rfl⟩
    · obtain ⟨news, a1, a2, a3, a4⟩ := fcells_list r hcs
      exact ⟨news, src_at (by rw [a1]; simpa using hl) a3, a2, a4, _, _, rfl⟩
  · cases e
    obtain ⟨A, c, rfl, hc, hd⟩ := hx
    rcases hd with ⟨rfl, rfl⟩ | ⟨b, o, rfl, hcs⟩
    · exact ⟨[], src_none (by simp) _, trivial, by simp, _, _, rfl⟩
    · obtain ⟨news, a1, a2, a3, a4⟩ := vcells_list hcs
      exact ⟨news, src_at (by rw [a1]; exact hl) fun j x hj => r.cells _ _ _ (a3 j x hj), a2, a4, _, _, rfl⟩
  · rename_i k off n' es'
    split at e
    · rename_i hes
      subst hes
      rw [Option.map_eq_some_iff] at e; obtain ⟨cs, hcs, e⟩ := e
      cases e
      rcases hx with ⟨b, st, sz, c, o, g1, rfl, g2, g3, g4⟩ | ⟨g1, rfl, rfl, rfl⟩
      · obtain ⟨news, a1, a2, a3, a4⟩ := r.rd g1 hcs
        by_cases hc0 : c = 0
        · have hn : n = 0 := by omega
          subst hn
          have : news = [] := List.eq_nil_of_length_eq_zero (by simpa using a1)
          subst this
          exact ⟨[], src_none (by simp) _, a2, by simp, _, _, rfl⟩
        · obtain rfl := g4 hc0
          exact ⟨news, src_at a1 a3, a2, a4, _, _, rfl⟩
      · have : xs = [] := List.eq_nil_of_length_eq_zero (by simpa using hl)
        subst this
        exact ⟨[], src_none (by simp) _, trivial, by simp, _, _, rfl⟩
    · cases e
  · cases e

/-! Go's append, by its two ways -/
theorem not_int {d : TypeDesc} (hd : ∀ k, d ≠ .int k) : (match d with | .int _ => true | _ => false) = false := by
  cases d <;> first | rfl | exact absurd rfl (hd _)
theorem run_app_room {st xt ty e es n m cap : Nat} {cx : Value} {news : List Value} {base : Option Addr} (hst : P.underlying st = some (.slice e)) {d : TypeDesc} (hxt : P.underlying xt = some d) (hd : ∀ k, d ≠ .int k) (hes : szOf P e = some es)
    (s : Src P w es n cx news) (hroom : m + n ≤ cap) :
    (Builtin.append_ #[st, xt] ty #[.slice base m cap, cx]).run P w = ((match base with | some a => storeCells (a.add (m * es)) news | none => pure () : Sem Unit).run P w).andThen fun _ w' => .ok (.slice base (m + n) cap) w' := by
  have hz := not_int hd
  cases base with
  | none => simp [Builtin.append_, run_ul hst, run_ul hxt, run_sz hes, s.lenOf, hroom, s.first w rfl, hz]
  | some a => simp [Builtin.append_, run_ul hst, run_ul hxt, run_sz hes, s.lenOf, hroom, s.first w rfl, hz]
theorem run_app_grow {st xt ty e n m cap : Nat} {cx : Value} {news olds : List Value} {base : Option Addr} {i : TypeInfo} {z : Value} (hst : P.underlying st = some (.slice e)) {d : TypeDesc} (hxt : P.underlying xt = some d) (hd : ∀ k, d ≠ .int k) (hi : P.info? e = some i) (hz : i.zero = some z)
    (s : Src P w i.size n cx news) (ho : (Builtin.firstCells i.size m (.slice base m cap)).run P w.drew = .ok olds.toArray w.drew) (hg : cap < m + n) (hb : (m + n) * i.bytes ≤ 140737488355328) (hb0 : 0 < i.bytes) :
    (Builtin.append_ #[st, xt] ty #[.slice base m cap, cx]).run P w =
      .ok (.slice (some ⟨w.heap.size, 0, none⟩) (m + n) (grownCap w (m + n) cap e)) (w.drew.alloc (.cells (olds.toArray ++ news.toArray ++ Builtin.zeroCells z.cells (grownCap w (m + n) cap e - (m + n))) e)) := by
  have hzz := not_int hd
  have hn : ¬ (m + n ≤ cap) := by omega
  have hle : m + n ≤ (m + n) * i.bytes := Nat.le_mul_of_pos_right _ hb0
  have h48' : ¬ (281474976710656 < Builtin.nextslicecap (m + n) cap * i.bytes) := by have := growslice_fits hg hb; omega
  have hf := s.first w.drew rfl
  have hb1 : i.bytes ≠ 0 := by omega
  simp [Builtin.append_, run_ul hst, run_ul hxt, sizeOf, typeInfo, zeroValue, hi, hz, s.lenOf, hn, hzz, h48', Question.forced, hf, ho, Go.newRow, grownCap, hb1]
  congr 2
  apply Array.ext'
  simp [List.append_assoc]
theorem drew_alike (w : World) : Alike w.drew w := ⟨rfl, rfl, rfl, rfl⟩

/-- a longer row, in a new block -/
theorem app_new (r : Rel η ro h w) {h1 : H} (hh : h1 = h ∨ ∃ k p, η k = some p ∧ (∀ cs, h[k]? ≠ some (.lent cs)) ∧ h1 = h.set k .dead) {L xs : List V} {olds news : List Value} {o : Ob} (hv : o.vl = some (L ++ xs)) (hL : VRels η ro L olds) (hX : VRels η ro xs news)
    (h1' : ∀ y ∈ olds, y.oneCell' = true) (h2' : ∀ y ∈ news, y.oneCell' = true) {m n es cap : Nat} {e : TypeId} {z : Value} (hlo : olds.length = m * es) (hln : news.length = n * es) (hzs : z.cells.size = es) (hes : 0 < es) (hcap : m + n ≤ cap) :
    Rel (η.set h.length (.at_ w.heap.size 0 (cap * es))) ro (h1 ++ [o]) (w.drew.alloc (.cells (olds.toArray ++ news.toArray ++ Builtin.zeroCells z.cells (cap - (m + n))) e)) ∧
    Stp η ro h w (η.set h.length (.at_ w.heap.size 0 (cap * es))) ro (h1 ++ [o]) (w.drew.alloc (.cells (olds.toArray ++ news.toArray ++ Builtin.zeroCells z.cells (cap - (m + n))) e)) ∧
    VRel (η.set h.length (.at_ w.heap.size 0 (cap * es))) ro (.ref h.length 0 (m + n) es) (.slice (some ⟨w.heap.size, 0, none⟩) (m + n) cap) := by
  have hsz : (olds.toArray ++ news.toArray ++ Builtin.zeroCells z.cells (cap - (m + n))).size = cap * es := by
    simp only [Array.size_append, List.size_toArray, size_zeroCells, hlo, hln, hzs, ← Nat.add_mul]; congr 1; omega
  have := new_row r (drew_alike w) hh hv (hL.append hX) (fun y hy => by rcases List.mem_append.1 hy with hy | hy; exact h1' y hy; exact h2' y hy) (olds.toArray ++ news.toArray ++ Builtin.zeroCells z.cells (cap - (m + n))) e (by
      intro j x hj
      have hlt := (List.getElem?_eq_some_iff.1 hj).1
      rw [Array.getElem?_append_left (by simpa using hlt)]
      simpa using hj) (by rw [hsz, (hL.append hX).len]; simp only [List.length_append, hlo, hln, ← Nat.add_mul]; exact Nat.mul_le_mul_right _ hcap)
  rw [hsz] at this
  exact ⟨this.1, this.2, .inl ⟨_, 0, _, _, 0, Et.set_same _ _ _, rfl, hcap, by omega, fun _ => rfl⟩⟩

theorem nil_row (r : Rel η ro h w) {h1 : H} (hh : h1 = h ∨ ∃ k p, η k = some p ∧ (∀ cs, h[k]? ≠ some (.lent cs)) ∧ h1 = h.set k .dead) {o : Ob} (hv : o.vl = some []) :
    Rel (η.set h.length .nil) ro (h1 ++ [o]) w ∧ Stp η ro h w (η.set h.length .nil) ro (h1 ++ [o]) w := by
  have hlen : h1.length = h.length := by rcases hh with rfl | ⟨k, p, _, _, rfl⟩ <;> simp
  have r1 : Rel η ro h1 w := by rcases hh with rfl | ⟨k, p, hk, _, rfl⟩; exact r; exact r.kill hk
  have sub : ∀ b, Owned η h1 b → Owned η h b := by
    rintro b ⟨i, st', sz', q, a1, a2, a3⟩
    rcases hh with rfl | ⟨k, p, _, _, rfl⟩
    · exact ⟨i, st', sz', q, a1, a2, a3⟩
    · rcases get_set a2 with ⟨rfl, rfl⟩ | ⟨_, a4⟩
      · cases a3
      · exact ⟨i, st', sz', q, a1, a4, a3⟩
  have r3 := r1.add (o := o) (p := .nil) (orel_of_vl hv (.inl ⟨rfl, rfl⟩)) (by rintro b _ _ ⟨⟩)
  rw [hlen] at r3
  refine ⟨r3, ⟨Nat.le_refl _, fun _ _ _ => rfl, ?_, rfl, rfl, rfl, by simp [hlen], fun k hk => Et.set_ne _ _ (Nat.ne_of_lt hk), Ro.le_refl _, fun _ _ _ _ => rfl, fun i cs hi => ?_⟩⟩
  rotate_right
  · have hlt := (List.getElem?_eq_some_iff.1 hi).1
    have h1i : h1[i]? = some (.lent cs) := by
      rcases hh with rfl | ⟨k, p, _, hn, rfl⟩
      · exact hi
      · rw [List.getElem?_set_ne (fun q : k = i => hn cs (by rw [q]; exact hi))]; exact hi
    exact ⟨by rw [get_snoc_lt (by rw [hlen]; exact hlt)]; exact h1i, fun _ _ _ _ => ⟨rfl, fun _ => rfl⟩⟩
  rintro b hb ⟨i, st', sz', q, a1, a2, a3⟩
  by_cases hi : i = h.length
  · subst hi; rw [Et.set_same] at a1; cases a1
  · rw [Et.set_ne _ _ hi] at a1
    exact sub b ⟨i, st', sz', q, a1, by rw [get_snoc_lt (by rw [hlen]; exact r.lt a1)] at a2; exact a2, a3⟩
theorem vrels_take_len {L : List V} {a n : Nat} (hn : a + n ≤ L.length) : ((L.drop a).take n).length = n := by simp; omega
theorem sim_app {st xt ty e es by_ n : Nat} {s v : V} {xs : List V} {cs cx : Value} {news : List Value} {h' : H} (r : Rel η ro h w) (hst : P.underlying st = some (.slice e)) {d : TypeDesc} (hxt : P.underlying xt = some d) (hd : ∀ k, d ≠ .int k) (hes : szOf P e = some es) (hby : byOf P e = some by_)
    {z : Value} (hz : ∃ i, P.info? e = some i ∧ i.zero = some z ∧ z.cells.size = i.size) (he : app es by_ s n xs h idK = some (.ret v, h')) (hs : VRel η ro s cs) (hsrc : Src P w es n cx news) (hX : VRels η ro xs news) (h1 : ∀ y ∈ news, y.oneCell' = true) :
    ∃ η' w' cv, (Builtin.append_ #[st, xt] ty #[cs, cx]).run P w = .ok cv w' ∧ Rel η' ro h' w' ∧ Stp η ro h w η' ro h' w' ∧ VRel η' ro v cv := by
  obtain ⟨i, hi, hz0, hzs⟩ := hz
  obtain ⟨i', hi', rfl⟩ := szOf_eq.1 hes
  rw [hi] at hi'; cases hi'
  obtain ⟨i', hi', rfl⟩ := byOf_eq.1 hby
  rw [hi] at hi'; cases hi'
  unfold app at he
  split at he
  rotate_left
  · cases he
  rename_i hpre
  obtain ⟨hes0, hxl, hb2⟩ := hpre
  split at he
  · have hcs := rel_s hs
    subst hcs
    split at he
    rotate_left
    · cases he
    rename_i hb1
    simp [idK] at he; obtain ⟨rfl, rfl⟩ := he
    by_cases hn : n = 0
    · subst hn
      have hn0 : news = [] := List.eq_nil_of_length_eq_zero (by rw [hsrc.len]; simp)
      have hx0 : xs = [] := List.eq_nil_of_length_eq_zero (by rw [hxl]; simp)
      subst hn0; subst hx0
      obtain ⟨c1, c2⟩ := nil_row r (.inl rfl) (o := newRow []) (newRow_vl [])
      refine ⟨_, w, .slice none 0 0, ?_, c1, c2, .inr ⟨Et.set_same _ _ _, rfl, rfl, rfl⟩⟩
      rw [run_app_room hst hxt hd hes hsrc (by omega)]; rfl
    · have hrun := run_app_grow (ty := ty) (base := none) (m := 0) (cap := 0) (olds := []) hst hxt hd hi hz0 hsrc (by simp [Builtin.firstCells]) (by omega) (by simpa using hb1) hb2
      have := app_new r (.inl rfl) (L := []) (xs := xs) (olds := []) (news := news) (o := newRow xs) (by simpa using newRow_vl xs) trivial hX (by simp) h1 (m := 0) (n := n) (es := i.size) (cap := grownCap w (0 + n) 0 e) (e := e) (z := z) (by simp) hsrc.len hzs hes0 (grownCap_ge w (0 + n) 0 e)
      simp only [Nat.zero_add] at this hrun
      exact ⟨_, _, _, hrun, this.1, this.2.1, this.2.2⟩
  · rename_i m cl
    split at he
    · rename_i hn
      subst hn
      simp [idK] at he; obtain ⟨rfl, rfl⟩ := he
      obtain ⟨A, c, rfl, rfl, hd'⟩ := hs
      refine ⟨_, w, .slice A c c, ?_, r, Stp.refl _ _ _ _, A, c, rfl, rfl, hd'⟩
      have hn0 : news = [] := List.eq_nil_of_length_eq_zero (by rw [hsrc.len]; simp)
      subst hn0
      rw [run_app_room hst hxt hd hes hsrc (by omega)]
      cases A <;> simp [storeCells]
    split at he
    rotate_left
    · cases he
    rename_i hc
    obtain ⟨hn, hcl, hb1⟩ := hc
    simp [idK] at he; obtain ⟨rfl, rfl⟩ := he
    obtain ⟨A, c, rfl, rfl, hd'⟩ := hs
    obtain ⟨olds, b1, b2, b4, hfo⟩ : ∃ olds : List Value, olds.length = c * i.size ∧ VRels η ro cl olds ∧ (∀ y ∈ olds, y.oneCell' = true) ∧ (Builtin.firstCells i.size c (.slice A c c)).run P w.drew = .ok olds.toArray w.drew := by
      rcases hd' with ⟨rfl, rfl⟩ | ⟨b, o, rfl, hcs⟩
      · exact ⟨[], by simp, trivial, by simp, by cases A <;> simp [Builtin.firstCells, loadCells, loadCellsFrom]⟩
      · obtain ⟨news, a1, a2, a3, a4⟩ := vcells_list hcs
        refine ⟨news, by rw [a1, hcl], a2, a4, ?_⟩
        have := run_lds (P := P) (w := w.drew) (b := b) (o := o) (xs := news) fun j x hj => (r.cells _ _ _ (a3 j x hj) : _)
        simp only [Builtin.firstCells]; rw [← hcl, ← a1]; exact this
    have hrun := run_app_grow (ty := ty) hst hxt hd hi hz0 hsrc hfo (by omega) hb1 hb2
    have := app_new r (.inl rfl) (L := cl) (xs := xs) (olds := olds) (news := news) (o := newRow (cl ++ xs)) (newRow_vl _) b2 hX b4 h1 (m := c) (n := n) (es := i.size) (cap := grownCap w (c + n) c e) (e := e) (z := z) b1 hsrc.len hzs hes0 (grownCap_ge w (c + n) c e)
    exact ⟨_, _, _, hrun, this.1, this.2.1, this.2.2⟩
  · rename_i k off m es'
    · split at he
      · rename_i hb
        obtain ⟨rfl, hb1⟩ := hb
        -- the object as it is
        have main : ∀ (o o' : Ob) (L : List V), h[k]? = some o → o.vl = some L → off + m * i.size ≤ L.length → o'.vl = some ((L.drop off).take (m * i.size) ++ xs) → v = .ref h.length 0 (m + n) i.size → h' = h.set k .dead ++ [o'] →
            ∃ η' w' cv, (Builtin.append_ #[st, xt] ty #[cs, cx]).run P w = .ok cv w' ∧ Rel η' ro h' w' ∧ Stp η ro h w η' ro h' w' ∧ VRel η' ro v cv := by
          rintro o o' L a1 a2 a3 a4 rfl rfl
          have hlive : o.mine = true := by cases o <;> first | rfl | cases a2
          rcases hs with ⟨b, st', sz, c, o2, g1, rfl, g2, g3, g4⟩ | ⟨g1, rfl, rfl, rfl⟩
          · obtain ⟨ca, T, lo, hi', e1, e2, e3, e4, e5⟩ := r.at_ g1 a1 a2
            obtain ⟨olds, b1, b2, b3, b4⟩ := held_list e5 off (m * i.size) a3
            by_cases hn : n = 0
            · subst hn
              have hn0 : news = [] := List.eq_nil_of_length_eq_zero (by rw [hsrc.len]; simp)
              have hx0 : xs = [] := List.eq_nil_of_length_eq_zero (by rw [hxl]; simp)
              subst hn0; subst hx0
              rw [List.append_nil] at a4
              have hat : ∀ η', η.le η' → ORel η' ro w o' (.at_ b (st' + off) sz) := by
                intro η' he'
                refine orel_of_vl a4 (.inr ⟨b, st' + off, sz, _, T, lo, hi', rfl, e1, e2, e3, ?_, ?_⟩)
                · rw [vrels_take_len a3]; omega
                · intro j y hy
                  obtain ⟨x, hx, hyx⟩ := b2.get hy
                  exact ⟨x, b3 j x hx, b4 x (List.mem_of_getElem? hx), VRel.mono he' (Ro.le_refl _) _ _ hyx⟩
              have := same_block r g1 a1 hlive (w' := w) (fun i hi => rfl) rfl rfl rfl rfl hat
              refine ⟨_, _, .slice (some ⟨b, o2, none⟩) m c, ?_, this.1, this.2, .inl ⟨b, st' + off, sz, c, o2, Et.set_same _ _ _, rfl, g2, by omega, fun hc => by have := g4 hc; omega⟩⟩
              rw [run_app_room hst hxt hd hes hsrc (by omega)]; simp [storeCells]
            by_cases hroom : m + n ≤ c
            · -- in its own block
              have hc0 : c ≠ 0 := by omega
              obtain rfl := g4 hc0
              have hbl : b < w.heap.size := (Array.getElem?_eq_some_iff.1 e1).1
              have hcm : m * i.size + n * i.size ≤ c * i.size := by rw [← Nat.add_mul]; exact Nat.mul_le_mul_right _ hroom
              have hputs := run_puts (P := P) (T := T) (lo := lo) (hi := hi') news w ca (st' + off + m * i.size) 0 e1 (by rw [e2]; exact e3.no) (by rw [hsrc.len, e2]; omega) h1
              simp only [Nat.add_zero] at hputs
              have hrun := run_app_room (ty := ty) (base := some ⟨b, st' + off, none⟩) hst hxt hd hes hsrc hroom
              simp only [add_at, hputs, Result.andThen_ok] at hrun
              have hat : ∀ η', η.le η' → ORel η' ro (World.blk w b (.cells (aput ca (st' + off + m * i.size) news) T (lo, hi'))) o' (.at_ b (st' + off) sz) := by
                intro η' he'
                refine orel_of_vl a4 (.inr ⟨b, st' + off, sz, _, T, lo, hi', rfl, blk_get hbl, by rw [aput_size, e2], e3, ?_, ?_⟩)
                · rw [List.length_append, vrels_take_len a3, hxl]; omega
                · intro j y hy
                  rw [aput_get _ _ _ (by rw [hsrc.len, e2]; omega), hsrc.len]
                  by_cases hj : j < m * i.size
                  · rw [List.getElem?_append_left (by rw [vrels_take_len a3]; exact hj)] at hy
                    obtain ⟨x, hx, hyx⟩ := b2.get hy
                    refine ⟨x, ?_, b4 x (List.mem_of_getElem? hx), VRel.mono he' (Ro.le_refl _) _ _ hyx⟩
                    rw [if_neg (by omega)]
                    exact b3 j x hx
                  · rw [List.getElem?_append_right (by rw [vrels_take_len a3]; omega), vrels_take_len a3] at hy
                    obtain ⟨x, hx, hyx⟩ := hX.get hy
                    have hlt := (List.getElem?_eq_some_iff.1 hx).1
                    rw [hsrc.len] at hlt
                    refine ⟨x, ?_, h1 x (List.mem_of_getElem? hx), VRel.mono he' (Ro.le_refl _) _ _ hyx⟩
                    rw [if_pos (by omega), show st' + off + j - (st' + off + m * i.size) = j - m * i.size by omega]
                    exact hx
              have := same_block r g1 a1 hlive (w' := World.blk w b (.cells (aput ca (st' + off + m * i.size) news) T (lo, hi'))) (fun i hi => blk_other hi) (by simp [World.blk]) rfl rfl rfl hat
              refine ⟨_, _, _, hrun, this.1, this.2, .inl ⟨b, st' + off, sz, c, st' + off, Et.set_same _ _ _, rfl, hroom, by omega, fun _ => by omega⟩⟩
            · -- in a new block
              have hfo : (Builtin.firstCells i.size m (.slice (some ⟨b, o2, none⟩) m c)).run P w.drew = .ok olds.toArray w.drew := by
                by_cases hc0 : c = 0
                · have hm : m = 0 := by omega
                  subst hm
                  have : olds = [] := List.eq_nil_of_length_eq_zero (by simpa using b1)
                  subst this
                  simp [Builtin.firstCells, loadCells, loadCellsFrom]
                · obtain rfl := g4 hc0
                  have := run_lds (P := P) (w := w.drew) (b := b) (o := st' + off) (xs := olds) fun j x hj => by show w.cell? _ = _; rw [cell_at e1]; exact b3 j x hj
                  simp only [Builtin.firstCells]; rw [← b1]; exact this
              have hrun := run_app_grow (ty := ty) hst hxt hd hi hz0 hsrc hfo (by omega) hb1 hb2
              have := app_new r (.inr ⟨k, _, g1, not_lent a1 hlive, rfl⟩) a4 b2 hX b4 h1 (m := m) (n := n) (es := i.size) (cap := grownCap w (m + n) c e) (e := e) (z := z) b1 hsrc.len hzs hes0 (grownCap_ge w (m + n) c e)
              exact ⟨_, _, _, hrun, this.1, this.2.1, this.2.2⟩
          · -- it was nowhere yet
            have hL : (L.drop 0).take (0 * i.size) = [] := by simp
            rw [hL] at a4
            by_cases hn : n = 0
            · subst hn
              have hn0 : news = [] := List.eq_nil_of_length_eq_zero (by rw [hsrc.len]; simp)
              have hx0 : xs = [] := List.eq_nil_of_length_eq_zero (by rw [hxl]; simp)
              subst hn0; subst hx0
              obtain ⟨c1, c2⟩ := nil_row r (.inr ⟨k, _, g1, not_lent a1 hlive, rfl⟩) (o := o') a4
              refine ⟨_, w, .slice none 0 0, ?_, c1, c2, .inr ⟨Et.set_same _ _ _, rfl, rfl, rfl⟩⟩
              rw [run_app_room hst hxt hd hes hsrc (by omega)]; simp
            have hrun := run_app_grow (ty := ty) (base := none) (m := 0) (cap := 0) (olds := []) hst hxt hd hi hz0 hsrc (by simp [Builtin.firstCells]) (by omega) hb1 hb2
            have := app_new r (.inr ⟨k, _, g1, not_lent a1 hlive, rfl⟩) a4 (olds := []) trivial hX (by simp) h1 (m := 0) (n := n) (es := i.size) (cap := grownCap w (0 + n) 0 e) (e := e) (z := z) (by simp) hsrc.len hzs hes0 (grownCap_ge w (0 + n) 0 e)
            exact ⟨_, _, _, hrun, this.1, this.2.1, this.2.2⟩
        split at he
        · rename_i l hl
          split at he
          · rename_i hle
            split at he
            · rename_i ys hys
              simp [idK] at he; obtain ⟨rfl, rfl⟩ := he
              rw [toFs_eq] at hys; subst hys
              exact main _ _ (l.map .f) hl rfl (by simpa using hle) (by simp [Ob.vl, List.map_take, List.map_drop]) rfl rfl
            · simp [idK] at he; obtain ⟨rfl, rfl⟩ := he
              exact main _ _ (l.map .f) hl rfl (by simpa using hle) (by simp [Ob.vl, List.map_take, List.map_drop]) rfl rfl
          · cases he
        · rename_i l hl
          split at he
          · rename_i hle
            simp [idK] at he; obtain ⟨rfl, rfl⟩ := he
            exact main _ _ l hl rfl hle rfl rfl rfl
          · cases he
        · cases he
      · cases he
  · cases he

theorem newRow_f (ys : List F) : newRow (ys.map .f) = .fz ys := by
  unfold newRow; rw [toFs_eq.2 rfl]
theorem appF_eq (es by_ : Nat) (s : V) (n : Nat) (ys : List F) (h : H) (kk : V → H → R) : appF es by_ s n ys h kk = app es by_ s n (ys.map .f) h kk := by
  unfold appF app
  rw [List.length_map, newRow_f, toFs_eq.2 (rfl : ys.map V.f = ys.map V.f)]
theorem bytes_src {b : ByteArray} {es n : Nat} (hes : es = 1) (hn : n = b.size) : Src P w es n (.string b) (b.data.toList.map fun x => Value.int .u8 x.toNat) := by
  subst hes; subst hn
  refine ⟨by simp, by simp [Builtin.lenOf], fun w1 e => ?_⟩
  simp only [Builtin.firstCells, Sem.run_pure]
  congr 1
  apply Array.ext'
  have hx : b.extract 0 b.size = b := by simp
  rw [hx]; simp
theorem sim_append {st xt ty : TypeId} {s x v : V} {cs cx : Value} {h' : H} (r : Rel η ro h w) (he : Go.Abs.append P st xt s x h idK = some (.ret v, h')) (hs : VRel η ro s cs) (hx : VRel η ro x cx) :
    ∃ η' w' cv, (Builtin.append_ #[st, xt] ty #[cs, cx]).run P w = .ok cv w' ∧ Rel η' ro h' w' ∧ Stp η ro h w η' ro h' w' ∧ VRel η' ro v cv := by
  unfold Go.Abs.append at he
  rw [Option.bind_eq_some_iff] at he; obtain ⟨e, hel, he⟩ := he
  rw [Option.bind_eq_some_iff] at he; obtain ⟨es, hes, he⟩ := he
  rw [Option.bind_eq_some_iff] at he; obtain ⟨by_, hby, he⟩ := he
  rw [Option.bind_eq_some_iff] at he; obtain ⟨z, hzc, he⟩ := he
  have hz : ∃ i z, P.info? e = some i ∧ i.zero = some z ∧ z.cells.size = i.size := by
    obtain ⟨i, z, a1, a2, _, a3, _⟩ := zcellsF_eq.1 hzc; exact ⟨i, z, a1, a2, a3⟩
  obtain ⟨i, z', hi, hz0, hzs⟩ := hz
  unfold elem? at hel
  rw [Option.bind_eq_some_iff] at hel; obtain ⟨d, hu, hel⟩ := hel
  split at hel
  · cases hel
    have fin : ∀ {x : V} {e2 : TypeId} {n : Nat} {xs ys : List V}, P.underlying xt = some (.slice e2) → slCells h x es = some (n, xs) → (ys = xs ∨ ys = xs.map nrmV) → app es by_ s n ys h idK = some (.ret v, h') → VRel η ro x cx →
        ∃ η' w' cv, (Builtin.append_ #[st, xt] ty #[cs, cx]).run P w = .ok cv w' ∧ Rel η' ro h' w' ∧ Stp η ro h w η' ro h' w' ∧ VRel η' ro v cv := by
      intro x e2 n xs ys hxu hsl hys he hx
      have hyl : ys.length = xs.length := by rcases hys with rfl | rfl <;> simp
      have hpre : 0 < es ∧ xs.length = n * es := by
        unfold app at he
        split at he
        · rename_i hh; exact ⟨hh.1, hyl ▸ hh.2.1⟩
        · cases he
      obtain ⟨news, a1, a2, a3, _⟩ := slCells_ok (P := P) r hsl hpre.2 hx
      exact sim_app r hu hxu (fun k => by simp) hes hby ⟨i, hi, hz0, hzs⟩ he hs a1 (by rcases hys with rfl | rfl; exact a2; exact a2.nrm) a3
    split at he
    · rename_i b hxu
      have hcx := rel_s hx
      subst hcx
      split at he
      · rename_i hes1
        rw [appF_eq] at he
        refine sim_app r hu hxu (fun k => by simp) hes hby ⟨i, hi, hz0, hzs⟩ he hs (bytes_src hes1 rfl) ?_ (by intro y hy; obtain ⟨u, _, rfl⟩ := List.mem_map.1 hy; rfl)
        unfold byteF
        rw [List.map_map]
        generalize b.data.toList = l
        induction l with
        | nil => trivial
        | cons y l ih => exact ⟨rel_s' rfl, ih⟩
      · cases he
    · rename_i n cl hxu
      have hsl : slCells h (.f (.lst n cl)) es = some (n, cl.map .f) := rfl
      rw [appF_eq] at he
      exact fin hxu hsl (.inl rfl) he hx
    · rename_i k off n es' hxu
      split at he
      · rename_i cl hcl
        split at he
        · rename_i hc
          obtain ⟨rfl, hc⟩ := hc
          have hsl : slCells h (.ref k off n es') es' = some (n, ((cl.drop off).take (n * es')).map .f) := by
            simp only [slCells, if_true, Go.Abs.rd, hcl]; rw [if_pos hc]; rfl
          rw [appF_eq] at he
          exact fin hxu hsl (.inl rfl) he hx
        · cases he
      · rw [Option.bind_eq_some_iff] at he; obtain ⟨⟨n, xs⟩, hsl, he⟩ := he
        exact fin hxu hsl (by unfold nrmE; split; exact .inl rfl; exact .inr rfl) he hx
    · rename_i hxu _ _
      rw [Option.bind_eq_some_iff] at he; obtain ⟨⟨n, xs⟩, hsl, he⟩ := he
      exact fin hxu hsl (by unfold nrmE; split; exact .inl rfl; exact .inr rfl) he hx
    · cases he
  · cases hel

/-! ### what is built -/
theorem foldl_aput (xs : List Value) : ∀ (c : Array Value) (o k : Nat), ((xs.zipIdx k).foldl (fun cs (q : Value × Nat) => cs.setIfInBounds (o + q.2) q.1) c) = aput c (o + k) xs := by
  induction xs with
  | nil => intro c o k; rfl
  | cons x r ih => intro c o k; simp only [List.zipIdx_cons, List.foldl_cons, aput]; rw [ih]; rfl
theorem zipIdx_foldl (v : Array Value) (c : Array Value) (o : Nat) : v.zipIdx.foldl (fun cs (q : Value × Nat) => cs.setIfInBounds (o + q.2) q.1) c = aput c o v.toList := by
  rw [← Array.foldl_toList, Array.toList_zipIdx, foldl_aput]; simp
/-- parts, as Go has them -/
def Parts (η : Et) (ro : Ro) : List (Nat × V) → List (Nat × Value) → Prop
  | [], [] => True
  | a :: l, b :: m => (b.1 = a.1 ∧ VRel η ro a.2 b.2) ∧ Parts η ro l m
  | _, _ => False
theorem vrels_put {L : List V} {c : Array Value} {off : Nat} {cs : List V} {xs : List Value} (hr : VRels η ro L c.toList) (hv : VRels η ro cs xs) (ho : off + cs.length ≤ L.length) : VRels η ro (splice L off cs) (aput c off xs).toList := by
  have h1 := hr.len
  have h2 := hv.len
  simp only [Array.length_toList] at h1
  refine VRels.mk (by simp [splice_len, aput_size, h1]) fun j v hj => ?_
  rw [splice_get _ _ _ ho] at hj
  rw [Array.getElem?_toList, aput_get _ _ _ (by omega)]
  split at hj
  · rename_i hc
    rw [if_pos (by omega)]; exact hv.get hj
  · rename_i hc
    rw [if_neg (by omega)]
    obtain ⟨x, hx, hvx⟩ := hr.get hj
    exact ⟨x, by simpa using hx, hvx⟩
theorem aput_one {c : Array Value} {off : Nat} {xs : List Value} (h1 : ∀ x ∈ c.toList, x.oneCell' = true) (h2 : ∀ x ∈ xs, x.oneCell' = true) : ∀ x ∈ (aput c off xs).toList, x.oneCell' = true := by
  induction xs generalizing c off with
  | nil => exact h1
  | cons y r ih =>
    rw [aput]
    refine ih ?_ (fun x hx => h2 x (by simp [hx]))
    intro x hx
    rw [Array.toList_setIfInBounds] at hx
    rcases List.mem_or_eq_of_mem_set hx with hx | rfl
    · exact h1 x hx
    · exact h2 x (by simp)
theorem fill_ok {place : Nat → Option (Nat × Nat)} : ∀ {parts : List (Nat × V)} {cparts : List (Nat × Value)} {L L' : List V} {c : Array Value}, fill place L parts = some L' → Parts η ro parts cparts → VRels η ro L c.toList → (∀ x ∈ c.toList, x.oneCell' = true) →
    ∃ c', Instr.fill place c cparts = some c' ∧ VRels η ro L' c'.toList ∧ ∀ x ∈ c'.toList, x.oneCell' = true
  | [], [], L, L', c, e, _, hr, h1 => by cases e; exact ⟨c, rfl, hr, h1⟩
  | [], _ :: _, _, _, _, _, hp, _, _ => hp.elim
  | _ :: _, [], _, _, _, _, hp, _, _ => hp.elim
  | (i, v) :: rest, (i', cv) :: crest, L, L', c, e, hp, hr, h1 => by
    obtain ⟨⟨hi, hv⟩, hp⟩ := hp
    dsimp only at hi hv
    subst hi
    unfold fill at e
    rw [Option.bind_eq_some_iff] at e; obtain ⟨⟨off, size⟩, hpl, e⟩ := e
    rw [Option.bind_eq_some_iff] at e; obtain ⟨cs, hcs, e⟩ := e
    dsimp only at e
    split at e
    · rename_i hc
      obtain ⟨a1, a2⟩ := cellsOf_ok hcs hv
      have hl := a1.len
      have hL := hr.len
      simp only [Array.length_toList] at hl hL
      obtain ⟨c', b1, b2, b3⟩ := fill_ok e hp (vrels_put hr a1 hc.2) (aput_one h1 a2)
      refine ⟨c', ?_, b2, b3⟩
      simp only [Instr.fill, hpl]
      rw [if_neg (by simp; omega), zipIdx_foldl]
      exact b1
    · cases e
theorem sim_build {t : TypeId} {parts : List (Nat × V)} {cparts : Array (Nat × Value)} {v : V} {e : H} (he : Go.Abs.build P t parts idV = some (.ret v, e)) (hp : Parts η ro parts cparts.toList) :
    ∃ cv, (Instr.build t cparts).run P w = .ok cv w ∧ VRel η ro v cv := by
  unfold Go.Abs.build at he
  rw [Option.bind_eq_some_iff] at he; obtain ⟨z, hz, he⟩ := he
  obtain ⟨i, z', a1, a2, rfl, a4, a5⟩ := zcells_ok hz
  split at he
  · rename_i fs hu
    rw [Option.bind_eq_some_iff] at he; obtain ⟨places, hpl, he⟩ := he
    rw [Option.bind_eq_some_iff] at he; obtain ⟨cs, hcs, he⟩ := he
    simp [idV] at he; obtain ⟨rfl, _⟩ := he
    obtain ⟨c', b1, b2, b3⟩ := fill_ok hcs hp (c := z'.cells) (rels_s _ a4) a4
    refine ⟨.agg c', run_build w t cparts c' ?_, ⟨c', rfl, b2, b3⟩⟩
    simp only [Program.built, a1, hu, a2, hpl]
    simpa using b1
  · rename_i n e' hu
    rw [Option.bind_eq_some_iff] at he; obtain ⟨es, hes, he⟩ := he
    rw [Option.bind_eq_some_iff] at he; obtain ⟨cs, hcs, he⟩ := he
    simp [idV] at he; obtain ⟨rfl, _⟩ := he
    obtain ⟨ie, hie, rfl⟩ := szOf_eq.1 hes
    obtain ⟨c', b1, b2, b3⟩ := fill_ok hcs hp (c := z'.cells) (rels_s _ a4) a4
    refine ⟨.agg c', run_build w t cparts c' ?_, ⟨c', rfl, b2, b3⟩⟩
    simp only [Program.built, a1, hu, a2, hie]
    exact b1
  · cases he

theorem rowOf_ok {es : Nat} : ∀ {parts : List (Nat × V)} {cparts : List (Nat × Value)} {j : Nat} {cs : List V} {c : Array Value} {pre : List Value}, rowOf es j parts = some cs → Parts η ro parts cparts → c.size = (j + parts.length) * es → c.toList.take (j * es) = pre →
    ∃ c' xs, Instr.fill (fun i => some (i * es, es)) c cparts = some c' ∧ c'.toList = pre ++ xs ∧ VRels η ro cs xs ∧ (∀ x ∈ xs, x.oneCell' = true) ∧ c'.size = c.size ∧ cs.length = parts.length * es
  | [], [], j, cs, c, pre, e, _, hs, hp => by
    cases e
    refine ⟨c, [], rfl, ?_, trivial, by simp, rfl, by simp⟩
    rw [List.append_nil, ← hp, List.take_of_length_le]
    simp only [Array.length_toList, hs]; simp
  | [], _ :: _, _, _, _, _, _, hp, _, _ => hp.elim
  | _ :: _, [], _, _, _, _, _, hp, _, _ => hp.elim
  | (i, v) :: rest, (i', cv) :: crest, j, cs, c, pre, e, hp, hs, hpre => by
    obtain ⟨⟨hi, hv⟩, hp⟩ := hp
    dsimp only at hi hv
    subst hi
    unfold rowOf at e
    split at e
    · rename_i hij
      subst hij
      rw [Option.bind_eq_some_iff] at e; obtain ⟨cs1, hcs, e⟩ := e
      split at e
      · rename_i hlen
        rw [Option.bind_eq_some_iff] at e; obtain ⟨l, hl, e⟩ := e
        cases e
        obtain ⟨a1, a2⟩ := cellsOf_ok hcs hv
        have hcl := a1.len
        simp only [Array.length_toList] at hcl
        simp only [List.length_cons] at hs
        have hmul : (i' + (rest.length + 1)) * es = i' * es + es + rest.length * es := by rw [Nat.add_mul, Nat.add_mul]; omega
        have hfit : i' * es + cv.cells.toList.length ≤ c.size := by simp only [Array.length_toList]; omega
        have htake : (aput c (i' * es) cv.cells.toList).toList.take ((i' + 1) * es) = pre ++ cv.cells.toList := by
          have hple : pre.length = i' * es := by rw [← hpre, List.length_take]; simp; omega
          apply List.ext_getElem?
          intro k
          rw [List.getElem?_take, Array.getElem?_toList, aput_get _ _ _ hfit]
          have h1 : (i' + 1) * es = i' * es + es := by rw [Nat.add_mul]; omega
          rw [h1]
          by_cases hk : k < i' * es
          · rw [if_pos (by omega), if_neg (by omega), List.getElem?_append_left (by omega), ← hpre, List.getElem?_take, if_pos hk]; simp
          · rw [List.getElem?_append_right (by omega), hple]
            by_cases hk2 : k < i' * es + es
            · rw [if_pos hk2, if_pos (by simp only [Array.length_toList]; omega)]
            · rw [if_neg hk2, List.getElem?_eq_none (by simp only [Array.length_toList]; omega)]
        obtain ⟨c', xs, b1, b2, b3, b4, b5, b6⟩ := rowOf_ok (c := aput c (i' * es) cv.cells.toList) hl hp (by rw [aput_size, hs]; congr 1; omega) htake
        refine ⟨c', cv.cells.toList ++ xs, ?_, by rw [b2, List.append_assoc], a1.append b3, ?_, by rw [b5, aput_size], ?_⟩
        · simp only [Instr.fill]
          rw [if_neg (by simp; simp only [Array.length_toList] at hfit; omega), zipIdx_foldl]
          exact b1
        · intro x hx
          rcases List.mem_append.1 hx with hx | hx
          · exact a2 x hx
          · exact b4 x hx
        · rw [List.length_append, b6, hlen, List.length_cons, Nat.add_mul]; omega
      · cases e
    · cases e
theorem parts_len : ∀ {l : List (Nat × V)} {m : List (Nat × Value)}, Parts η ro l m → l.length = m.length
  | [], [], _ => rfl
  | _ :: _, _ :: _, h => by simp [parts_len h.2]
  | [], _ :: _, h => h.elim
  | _ :: _, [], h => h.elim
theorem sim_buildSlice {t : TypeId} {n : Nat} {parts : List (Nat × V)} {cparts : Array (Nat × Value)} {ob : Bool} {v : V} {h' : H} (r : Rel η ro h w) (he : Go.Abs.buildSlice P t n parts ob h idK = some (.ret v, h')) (hp : Parts η ro parts cparts.toList) :
    ∃ η' ro' w' cv, (Instr.buildSlice t n cparts).run P w = .ok cv w' ∧ Rel η' ro' h' w' ∧ Stp η ro h w η' ro' h' w' ∧ VRel η' ro' v cv := by
  unfold Go.Abs.buildSlice at he
  rw [Option.bind_eq_some_iff] at he; obtain ⟨e, hel, he⟩ := he
  rw [Option.bind_eq_some_iff] at he; obtain ⟨es, hes, he⟩ := he
  rw [Option.bind_eq_some_iff] at he; obtain ⟨z, hz, he⟩ := he
  rw [Option.bind_eq_some_iff] at he; obtain ⟨cs, hcs, he⟩ := he
  obtain ⟨i, z', a1, a2, rfl, a4, a5⟩ := zcells_ok hz
  obtain ⟨i', hi', rfl⟩ := szOf_eq.1 hes
  rw [a1] at hi'; cases hi'
  unfold elem? at hel
  rw [Option.bind_eq_some_iff] at hel; obtain ⟨d, hu, hel⟩ := hel
  split at hel
  rotate_left
  · cases hel
  cases hel
  split at he
  rotate_left
  · cases he
  rename_i hc
  obtain ⟨hn, hmax, hes0⟩ := hc
  have hrow := rowOf_ok (c := (Array.range (n * i.size)).map (z'.cells[· % z'.cells.size]!)) (pre := []) hcs hp (by simp [hn]) (by simp)
  obtain ⟨c', xs, b1, b2, b3, b4, b5, b6⟩ := hrow
  rw [List.nil_append] at b2
  have hcs' : c'.size = n * i.size := by rw [b5]; simp
  have hrun : (Instr.buildSlice t n cparts).run P w = .ok (.slice (some ⟨w.heap.size, 0, none⟩) n n) (w.alloc (.cells c' e)) := by
    by_cases h0 : n * i.size = 0
    · have hn0 : n = 0 := by rcases Nat.mul_eq_zero.1 h0 with h | h <;> omega
      subst hn0
      have : cparts.toList = [] := List.eq_nil_of_length_eq_zero (by rw [← parts_len hp, hn])
      rw [this] at b1
      simp only [Instr.fill, Option.some.injEq] at b1
      subst b1
      have e0 : ∀ f : Nat → Value, Array.map f (Array.range 0) = #[] := fun f => Array.eq_empty_of_size_eq_zero (by simp)
      simp [Instr.buildSlice, run_ul hu, run_sz hes, this, Instr.fill, Go.newRow]
      rw [e0, e0]
    · have hne : ¬ (16777216 < n * i.size) := by omega
      simp [Instr.buildSlice, run_ul hu, run_sz hes, hne, zeroValue, typeInfo, a1, a2, b1, Go.newRow]
      exact fun hz => absurd hz h0
  split at he
  · simp [idK] at he; obtain ⟨rfl, rfl⟩ := he
    have := new_row r (Alike.refl w) (.inl rfl) (newRow_vl (cs.map nrmV)) b3.nrm b4 c' e (by intro j x hj; rw [← b2] at hj; simpa using hj) (by rw [List.length_map, b6, hn, hcs']; exact Nat.le_refl _)
    rw [hcs'] at this
    exact ⟨_, ro, _, _, hrun, this.1, this.2, .inl ⟨_, 0, _, n, 0, Et.set_same _ _ _, rfl, Nat.le_refl _, by omega, fun _ => rfl⟩⟩
  · simp [idK] at he; obtain ⟨rfl, rfl⟩ := he
    -- its cells are never written again
    have r2 := r.alloc (w1 := w) rfl (.cells c' e)
    refine ⟨η, fun b o => if b = w.heap.size then c'[o]? else ro b o, _, _, hrun, ?_, ?_, ?_⟩
    · refine ⟨fun b o v hv => ?_, fun k p hk => ?_, r.own, fun k b hk o => ?_, ?_⟩
      · split at hv
        · rename_i hb; subst hb
          rw [cell_at (heap_alloc_at rfl)]; exact hv
        · exact r2.cells b o v hv
      · obtain ⟨o, h1, h2⟩ := r2.obj k p hk
        exact ⟨o, h1, h2.mono (Et.le_refl _) fun b o v hv => by
          rw [if_neg]; exact hv
          intro hb; have := r.ro_lt hv; omega⟩
      · rw [if_neg]; exact r.roOwn k b hk o
        intro hb; have := r.block_lt ⟨k, hk⟩; omega
      · refine r.glob.mono fun b o v hv => ?_
        rw [if_neg]; exact hv
        intro hb; have := r.ro_lt hv; omega
    · refine ⟨by simp, fun b hb _ => heap_alloc_lt rfl hb, fun b hb ho => ho, rfl, rfl, rfl, Nat.le_refl _, fun _ _ => rfl, fun b o v hv => ?_, fun b hb _ o => if_neg (by omega), fun k cs hk => ⟨hk, fun b st sz hp => have hb := r.block_lt ⟨k, st, sz, _, hp, hk, rfl⟩; ⟨heap_alloc_lt rfl hb, fun o => if_neg (by omega)⟩⟩⟩
      rw [if_neg]; exact hv
      intro hb; have := r.ro_lt hv; omega
    · refine ⟨_, n, rfl, rfl, .inr ⟨w.heap.size, 0, rfl, VCells.mk fun j y hy => ?_⟩⟩
      obtain ⟨x, hx, hyx⟩ := b3.get hy
      refine ⟨x, ?_, b4 x (List.mem_of_getElem? hx), VRel.mono (Et.le_refl _) (fun b o v hv => ?_) _ _ hyx⟩
      · rw [if_pos rfl, Nat.zero_add]; rw [← b2] at hx; simpa using hx
      · rw [if_neg]; exact hv
        intro hb; have := r.ro_lt hv; omega
theorem byteF_rel (b : ByteArray) : VRels η ro ((byteF b).map .f) (b.data.toList.map fun x => Value.int .u8 x.toNat) := by
  have h := rels_s (η := η) (ro := ro) (b.data.toList.map fun x => Value.int .u8 x.toNat) (by
    intro x hx
    obtain ⟨y, _, rfl⟩ := List.mem_map.1 hx
    rfl)
  rw [List.map_map] at h
  unfold byteF
  rw [List.map_map]
  exact h
/-- the mark of a row of bytes that was a constant -/
theorem run_mark {b : Nat} {c : Array Value} {T : TypeId} {lo hi o : Nat} (e : w.heap[b]? = some (.cells c T (lo, hi))) :
    (markStringish ⟨b, o, none⟩).run P w = .ok () (World.blk w b (.cells c T (if lo == hi then (c.size, c.size + 1) else (min lo c.size, max hi (c.size + 1))))) := by
  have hs : w.shape? b = some (T, c.size) := by unfold World.shape?; rw [e]
  have hw : w.freeze ⟨b, c.size, none⟩ 1 = World.blk w b (.cells c T (if lo == hi then (c.size, c.size + 1) else (min lo c.size, max hi (c.size + 1)))) := by
    unfold World.freeze World.blk
    rw [if_neg (by decide)]
    congr 1
    apply Array.ext_getElem?
    intro i
    rw [Array.getElem?_modify, Array.getElem?_setIfInBounds]
    by_cases hi : b = i
    · subst hi
      obtain ⟨hlt, he⟩ := Array.getElem?_eq_some_iff.1 e
      simp [he, hlt]
    · simp [hi]
  rw [← hw]
  simp [markStringish, hs]
theorem sim_mark {k off n es : Nat} {t e : TypeId} {cx : Value} (r : Rel η ro h w) (hx : VRel η ro (.ref k off n es) cx) (h1 : P.underlying t = some (.slice e)) (h2 : P.underlying e = some (.int .u8)) (hn0 : 0 < n) (hl : ∃ o, h[k]? = some o ∧ o.vl.isSome = true) :
    ∃ η' w' cv, (Go.convert t t cx).run P w = .ok cv w' ∧ Rel η' ro h w' ∧ Stp η ro h w η' ro h w' ∧ VRel η' ro (.ref k off n es) cv := by
  rcases hx with ⟨b, st, sz, c, o, g1, rfl, g2, g3, g4⟩ | ⟨g1, rfl, rfl, rfl⟩
  · obtain ⟨ob, ho, hlive⟩ := hl
    obtain ⟨ob', ho', hr⟩ := r.obj k _ g1
    rw [ho] at ho'; cases ho'
    have ca : ∃ L, ob.vl = some L ∧ CellsAt η ro w L (.at_ b st sz) := by
      cases ob with
      | cells l => exact ⟨_, rfl, hr⟩
      | fz l => exact ⟨_, rfl, hr⟩
      | _ => cases hlive
    obtain ⟨L, hL, hc⟩ := ca
    rcases hc with ⟨hp, _⟩ | ⟨b', st', sz', cc, T, lo, hi, hp, a1, a2, a3, a4, a5⟩
    · cases hp
    · cases hp
      have hrun : (Go.convert t t (.slice (some ⟨b, o, none⟩) n c)).run P w = .ok (.slice (some ⟨b, o, none⟩) n c) (World.blk w b (.cells cc T (if lo == hi then (cc.size, cc.size + 1) else (min lo cc.size, max hi (cc.size + 1))))) := by
        simp only [Go.convert, bind_assoc, Sem.run_bind, run_ul h1, run_ul h2]
        simp [Result.andThen, run_ul h2, run_mark a1]
      have hlt := (Array.getElem?_eq_some_iff.1 a1).1
      have up := upd_step (o' := ob) r (w' := World.blk w b (.cells cc T (if lo == hi then (cc.size, cc.size + 1) else (min lo cc.size, max hi (cc.size + 1))))) g1 ho (by cases ob <;> first | rfl | cases hlive)
        (fun i hi => by simp [World.blk, Array.getElem?_setIfInBounds, Ne.symm hi]) (by simp [World.blk]) rfl rfl rfl (orel_of_vl hL (.inr ⟨b, st, sz, cc, T, _, _, rfl, by
          show (World.blk w b _).heap[b]? = some (.cells cc T ((if lo == hi then (cc.size, cc.size + 1) else (min lo cc.size, max hi (cc.size + 1))).1, (if lo == hi then (cc.size, cc.size + 1) else (min lo cc.size, max hi (cc.size + 1))).2))
          simp [World.blk, hlt], a2, by
          by_cases hq : lo = hi
          · rw [if_pos (by simpa using hq)]
            exact ⟨Nat.le_succ _, fun i h1 h2 => by have : i < sz := h1; have h3 : cc.size ≤ i := h2.1; omega⟩
          · rw [if_neg (by simpa using hq)]
            have hle := a3.le
            have hge : sz ≤ lo := by
              rcases Nat.lt_or_ge lo sz with h5 | h5
              · exact absurd ⟨Nat.le_refl _, by omega⟩ (a3.no lo h5)
              · exact h5
            exact ⟨by show min lo cc.size ≤ max hi (cc.size + 1); omega, fun i h1 h2 => by have h3 : min lo cc.size ≤ i := h2.1; omega⟩, a4, a5⟩))
      rw [show h.set k ob = h from by
        apply List.ext_getElem?
        intro i
        by_cases hi : k = i
        · subst hi; rw [List.getElem?_set_self (List.getElem?_eq_some_iff.1 ho).1, ho]
        · rw [List.getElem?_set_ne hi]] at up
      exact ⟨η, _, _, hrun, up.1, up.2, .inl ⟨b, st, sz, c, o, g1, rfl, g2, g3, g4⟩⟩
  · exact absurd hn0 (Nat.lt_irrefl _)
theorem sim_bytesNew {s d : TypeId} {x v : V} {cx : Value} {h' : H} (r : Rel η ro h w) (he : Go.Abs.bytesNew P s d x h idK = some (.ret v, h')) (hx : VRel η ro x cx) :
    ∃ η' w' cv, (Go.convert s d cx).run P w = .ok cv w' ∧ Rel η' ro h' w' ∧ Stp η ro h w η' ro h' w' ∧ VRel η' ro v cv := by
  unfold Go.Abs.bytesNew at he
  split at he
  · rename_i e b h1 h2
    split at he
    · rename_i h3
      simp [idK] at he; obtain ⟨rfl, rfl⟩ := he
      cases rel_s hx
      have hg : b.size ≤ grownCap w b.size 0 e := grownCap_ge w b.size 0 e
      have hsz : (bytesRow b (grownCap w b.size 0 e)).size = grownCap w b.size 0 e := by
        unfold bytesRow
        rw [Array.size_append, Array.size_map, Array.size_replicate]
        show b.size + _ = _
        omega
      have hl : ((byteF b).map V.f).length = b.size := by simp [byteF]
      have := new_block (o := .fz (byteF b)) (ob := .cells (bytesRow b (grownCap w b.size 0 e)) e ((bytesRow b (grownCap w b.size 0 e)).size, (bytesRow b (grownCap w b.size 0 e)).size + 1)) (st := 0) (sz := (bytesRow b (grownCap w b.size 0 e)).size) r (drew_alike w) (.inl rfl) fun η' he => orel_of_vl (L := (byteF b).map .f) rfl (.inr ⟨_, 0, _, _, e, _, _, rfl, heap_alloc_at (drew_alike w).heap, rfl, ⟨Nat.le_succ _, fun i hi hh => by omega⟩, by rw [hl, hsz]; omega,
        held_of (rest := #[]) (byteF_rel b) (by
          intro x hx
          obtain ⟨y, _, rfl⟩ := List.mem_map.1 hx
          rfl) _ (by
          intro j x hj
          rw [List.getElem?_map, Option.map_eq_some_iff] at hj
          obtain ⟨y, hy, rfl⟩ := hj
          obtain ⟨hlt, hy'⟩ := List.getElem?_eq_some_iff.1 hy
          rw [bytesRow_at b _ j (by simpa using hlt)]
          simp at hy'
          rw [hy'])⟩)
      refine ⟨_, _, _, run_bytes_of_string w s d e b h1 h2 h3, this.1, this.2, .inl ⟨_, 0, _, grownCap w b.size 0 e, 0, Et.set_same _ _ _, rfl, hg, by rw [hsz]; omega, fun _ => rfl⟩⟩
    · cases he
  · rename_i b h1 h2
    simp [idK] at he; obtain ⟨rfl, rfl⟩ := he
    cases rel_s hx
    exact ⟨η, w, _, by simp [Go.convert, run_ul h1, run_ul h2], r, Stp.refl _ _ _ _, rel_s' rfl⟩
  · rename_i e1 e k off n es h1 h2
    split at he
    · rename_i h3
      split at he
      · rename_i hsd
        obtain ⟨rfl, hn0⟩ := hsd
        split at he
        · rename_i q hq
          simp [idK] at he; obtain ⟨rfl, rfl⟩ := he
          exact sim_mark r hx h2 h3 hn0 ⟨_, hq, rfl⟩
        · cases he
      · cases he
    · cases he
  · cases he
end
end Go.Abs
