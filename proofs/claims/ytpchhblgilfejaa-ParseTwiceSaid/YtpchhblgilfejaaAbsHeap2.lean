/-
  What changes memory: makes, appends, maps, literals.
-/
import Derived.Test.YtpchhblgilfejaaAbsHeap
import Derived.Laws.AppendOwn
import Derived.Laws.MakeOwn
set_option autoImplicit false
set_option linter.unusedVariables false
set_option linter.unusedSimpArgs false
namespace Go.Abs
open Go Go.MapKept
section
variable {P : Program} {η : Et} {ro : Ro} {h : H} {w : World}

theorem rels_s (l : List Value) (h1 : ∀ x ∈ l, x.oneCell' = true) : VRels η ro (l.map vs) l := by
  induction l with
  | nil => trivial
  | cons x r ih => exact ⟨rel_s' (h1 x (by simp)), ih fun y hy => h1 y (by simp [hy])⟩
theorem held_of {L : List V} {xs : List Value} {rest : Array Value} (hr : VRels η ro L xs) (h1 : ∀ x ∈ xs, x.oneCell' = true) (c : Array Value) (hc : ∀ (j : Nat) x, xs[j]? = some x → c[j]? = some x) : Held η ro L c 0 := by
  intro j v hv
  obtain ⟨x, hx, hvx⟩ := hr.get hv
  exact ⟨x, by rw [Nat.zero_add]; exact hc j x hx, h1 x (List.mem_of_getElem? hx), hvx⟩
theorem newRow_vl (L : List V) : (newRow L).vl = some L := by
  unfold newRow
  split
  · rename_i l hl; rw [toFs_eq] at hl; subst hl; rfl
  · rfl
theorem orel_of_vl {o : Ob} {L : List V} {p : Pl} (hv : o.vl = some L) (hc : CellsAt η ro w L p) : ORel η ro w o p := by
  cases o with
  | dead => cases hv
  | lent l => cases hv
  | map q es => cases hv
  | cells l => cases hv; exact hc
  | fz l => simp only [Ob.vl, Option.some.injEq] at hv; show CellsAt η ro w (l.map .f) p; rw [hv]; exact hc
/-- a row in a new block -/
theorem new_row (r : Rel η ro h w) {w1 : World} (e : Alike w1 w) {h1 : H} (hh : h1 = h ∨ ∃ k p, η k = some p ∧ (∀ cs, h[k]? ≠ some (.lent cs)) ∧ h1 = h.set k .dead) {o : Ob} {L : List V} (hv : o.vl = some L) {xs : List Value} (hr : VRels η ro L xs)
    (hone : ∀ x ∈ xs, x.oneCell' = true) (c : Array Value) (T : TypeId) (hc : ∀ (j : Nat) x, xs[j]? = some x → c[j]? = some x) (hs : L.length ≤ c.size) :
    Rel (η.set h.length (.at_ w.heap.size 0 c.size)) ro (h1 ++ [o]) (w1.alloc (.cells c T)) ∧ Stp η ro h w (η.set h.length (.at_ w.heap.size 0 c.size)) ro (h1 ++ [o]) (w1.alloc (.cells c T)) :=
  new_block r e hh fun η' he => orel_of_vl hv (.inr ⟨_, 0, c.size, c, T, 0, 0, rfl, heap_alloc_at e.heap, rfl, ⟨Nat.le_refl _, fun i _ hi => by omega⟩, by omega,
    held_of (rest := c) (VRels.mono he (Ro.le_refl _) _ _ hr) hone c hc⟩)

theorem zcells_ok {t : TypeId} {cs : List V} (e : zcells P t = some cs) : ∃ i z, P.info? t = some i ∧ i.zero = some z ∧ cs = z.cells.toList.map vs ∧ (∀ x ∈ z.cells.toList, x.oneCell' = true) ∧ z.cells.size = i.size := by
  simp only [zcells, Option.map_eq_some_iff] at e
  obtain ⟨l, h1, rfl⟩ := e
  obtain ⟨i, z, h2, h3, h4, h5, rfl⟩ := zcellsF_eq.1 h1
  exact ⟨i, z, h2, h3, by simp, h4, h5⟩
theorem sim_alloc {t : TypeId} {cs : List V} (r : Rel η ro h w) (e : zcells P t = some cs) :
    ∃ η' w' cv, (Instr.alloc t true (.tuple #[])).run P w = .ok cv w' ∧ Rel η' ro (h ++ [.cells cs]) w' ∧ Stp η ro h w η' ro (h ++ [.cells cs]) w' ∧ VRel η' ro (.ptr h.length 0) cv := by
  obtain ⟨i, z, h1, h2, rfl, h3, _⟩ := zcells_ok e
  have := new_row r (Alike.refl w) (.inl rfl) (o := .cells (z.cells.toList.map vs)) (L := z.cells.toList.map vs) rfl (rels_s _ h3) h3 z.cells t (by simp) (by simp)
  exact ⟨_, _, .pointer (some ⟨w.heap.size, 0, none⟩), by simp [Instr.alloc, zeroValue, typeInfo, h1, h2, newVar, Go.newRow], this.1, this.2, _, 0, _, Et.set_same _ _ _, rfl⟩
/-- a new variable that the machine doesn't know of yet -/
theorem sim_alloc2 {t : TypeId} {cs : List V} (r : Rel η ro h w) (e : zcells P t = some cs) :
    ∃ w' sz, (Instr.alloc t true (.tuple #[])).run P w = .ok (.pointer (some ⟨w.heap.size, 0, none⟩)) w' ∧ Rel η ro h w' ∧ Stp η ro h w η ro h w' ∧ w.heap.size < w'.heap.size ∧ ∀ η' ro', ORel η' ro' w' (.cells cs) (.at_ w.heap.size 0 sz) := by
  obtain ⟨i, z, h1, h2, rfl, h3, _⟩ := zcells_ok e
  refine ⟨w.alloc (.cells z.cells t), z.cells.size, by simp [Instr.alloc, zeroValue, typeInfo, h1, h2, newVar, Go.newRow], r.alloc rfl _,
    ⟨?_, fun b hb _ => heap_alloc_lt rfl hb, fun _ _ h => h, rfl, rfl, rfl, Nat.le_refl _, fun _ _ => rfl, Ro.le_refl _, fun _ _ _ _ => rfl, fun k cs hk => ⟨hk, fun b st sz hp => ⟨heap_alloc_lt rfl (r.block_lt ⟨k, st, sz, _, hp, hk, rfl⟩), fun _ => rfl⟩⟩⟩, ?_, fun η' ro' => ?_⟩
  · show w.heap.size ≤ (w.heap.push _).size; simp
  · show w.heap.size < (w.heap.push _).size; simp
  · exact .inr ⟨_, 0, z.cells.size, z.cells, t, 0, 0, rfl, heap_alloc_at rfl, rfl, ⟨Nat.le_refl _, fun i _ hi => by omega⟩, by simp, held_of (rest := z.cells) (rels_s _ h3) h3 z.cells (by simp)⟩
theorem sim_box {t : TypeId} {x : V} {cx : Value} {cs : List V} (r : Rel η ro h w) (e : cellsOf x = some cs) (hx : VRel η ro x cx) :
    ∃ η' w' cv, (Instr.box t cx).run P w = .ok cv w' ∧ Rel η' ro (h ++ [.cells cs]) w' ∧ Stp η ro h w η' ro (h ++ [.cells cs]) w' ∧ VRel η' ro (.ptr h.length 0) cv := by
  obtain ⟨h1, h2⟩ := cellsOf_ok e hx
  have := new_row r (Alike.refl w) (.inl rfl) (o := .cells cs) (L := cs) rfl h1 h2 cx.cells t (by simp) (by have := h1.len; simp at this; omega)
  exact ⟨_, _, .pointer (some ⟨w.heap.size, 0, none⟩), by simp [Instr.box, newVar, Go.newRow], this.1, this.2, _, 0, _, Et.set_same _ _ _, rfl⟩

theorem repl_len {α : Type} (z : List α) (n : Nat) : (repl z n).length = n * z.length := by
  induction n with
  | zero => simp [repl]
  | succ n ih => simp [repl, ih, Nat.add_mul]; omega
theorem repl_get {α : Type} (z : List α) (n j : Nat) (hj : j < n * z.length) : (repl z n)[j]? = z[j % z.length]? := by
  induction n generalizing j with
  | zero => simp at hj
  | succ n ih =>
    have hz : 0 < z.length := by
      rcases Nat.eq_zero_or_pos z.length with h0 | h0
      · simp [h0] at hj
      · exact h0
    rw [repl]
    by_cases hlt : j < z.length
    · rw [List.getElem?_append_left hlt, Nat.mod_eq_of_lt hlt]
    · rw [List.getElem?_append_right (by omega), ih _ (by rw [Nat.add_mul] at hj; omega), ← Nat.mod_eq_sub_mod (by omega)]
theorem repl_map {α β : Type} (f : α → β) (z : List α) (n : Nat) : (repl z n).map f = repl (z.map f) n := by
  induction n with
  | zero => rfl
  | succ n ih => simp [repl, ih]
theorem sim_makeSlice {t : TypeId} {l c v : V} {cl cc : Value} {ob : Bool} {h' : H} (r : Rel η ro h w)
    (he : Go.Abs.makeSlice P t l c ob h idK = some (.ret v, h')) (hl : VRel η ro l cl) (hc : VRel η ro c cc) :
    ∃ η' w' cv, (Instr.makeSlice t cl cc).run P w = .ok cv w' ∧ Rel η' ro h' w' ∧ Stp η ro h w η' ro h' w' ∧ VRel η' ro v cv := by
  unfold Go.Abs.makeSlice at he
  rw [Option.bind_eq_some_iff] at he; obtain ⟨e, hel, he⟩ := he
  rw [Option.bind_eq_some_iff] at he; obtain ⟨es, hes, he⟩ := he
  rw [Option.bind_eq_some_iff] at he; obtain ⟨by_, hby, he⟩ := he
  rw [Option.bind_eq_some_iff] at he; obtain ⟨⟨kl, nl⟩, h1, he⟩ := he
  rw [Option.bind_eq_some_iff] at he; obtain ⟨⟨kc, nc⟩, h2, he⟩ := he
  rw [V.any?_eq] at h1 h2
  subst h1; subst h2
  split at he
  · rename_i hb
    obtain ⟨hlc, h0, h63, hbytes, hes0⟩ := hb
    cases hlc
    dsimp only at h0 h63 hbytes he
    have hcl : cl = .int kl nl := rel_s hl
    have hcc : cc = .int kl nl := rel_s hc
    subst hcl; subst hcc
    obtain ⟨i, hi, rfl⟩ := szOf_eq.1 hes
    obtain ⟨i', hi', rfl⟩ := byOf_eq.1 hby
    rw [hi] at hi'; cases hi'
    unfold elem? at hel
    rw [Option.bind_eq_some_iff] at hel; obtain ⟨d, hu, hel⟩ := hel
    split at hel
    · cases hel
      have fin : ∀ (z : Value), i.zero = some z → (∀ x ∈ z.cells.toList, x.oneCell' = true) → z.cells.size = i.size → ∀ (o : Ob) (L : List V), (L = repl (z.cells.toList.map vs) nl.toNat ∨ L = (repl (z.cells.toList.map vs) nl.toNat).map nrmV) → o.vl = some L → v = .ref h.length 0 nl.toNat i.size → h' = h ++ [o] →
          ∃ η' w' cv, (Instr.makeSlice t (.int kl nl) (.int kl nl)).run P w = .ok cv w' ∧ Rel η' ro h' w' ∧ Stp η ro h w η' ro h' w' ∧ VRel η' ro v cv := by
        rintro z hz hz1 hzs o L hL hvl rfl rfl
        have hrun := run_make (P := P) w t _ i z hu hi hz kl kl nl nl h0 (Int.le_refl _) (by omega) h63
        have hget : ∀ j, j < nl.toNat * i.size → (madeCells z.cells (nl.toNat * i.size))[j]? = z.cells.toList[j % z.cells.size]? := by
          intro j hj
          have hm : j % z.cells.size < z.cells.size := Nat.mod_lt _ (by omega)
          simp [madeCells, hj]
          rw [getElem!_pos z.cells _ hm, Array.getElem?_eq_getElem hm]
        have hlen : (repl z.cells.toList nl.toNat).length = nl.toNat * i.size := by rw [repl_len]; simp [hzs]
        have hone : ∀ x ∈ repl z.cells.toList nl.toNat, x.oneCell' = true := by
          intro x hx
          obtain ⟨j, hj⟩ := List.mem_iff_getElem?.1 hx
          have hlt := (List.getElem?_eq_some_iff.1 hj).1
          rw [repl_get _ _ _ (by rw [repl_len] at hlt; exact hlt)] at hj
          exact hz1 x (List.mem_of_getElem? hj)
        have base : VRels η ro (repl (z.cells.toList.map vs) nl.toNat) (repl z.cells.toList nl.toNat) := by rw [← repl_map]; exact rels_s _ hone
        have hLr : VRels η ro L (repl z.cells.toList nl.toNat) := by
          rcases hL with rfl | rfl
          · exact base
          · exact base.nrm
        have hLl := hLr.len
        have := new_row r (Alike.refl w) (.inl rfl) (o := o) (L := L) hvl (xs := repl z.cells.toList nl.toNat) hLr hone
          (madeCells z.cells (nl.toNat * i.size)) e (by
            intro j x hj
            have hlt := (List.getElem?_eq_some_iff.1 hj).1
            rw [hget j (by omega)]
            rw [repl_get _ _ _ (by rw [hlen] at hlt; simpa [hzs] using hlt)] at hj
            simpa using hj) (by rw [size_madeCells, hLl, hlen]; exact Nat.le_refl _)
        rw [size_madeCells] at this
        exact ⟨_, _, _, hrun, this.1, this.2, .inl ⟨_, 0, _, _, 0, Et.set_same _ _ _, rfl, Nat.le_refl _, by omega, fun _ => rfl⟩⟩
      split at he
      · rw [Option.bind_eq_some_iff] at he; obtain ⟨z, hz, he⟩ := he
        simp [idK] at he; obtain ⟨rfl, rfl⟩ := he
        obtain ⟨i', z', a1, a2, rfl, a4, a5⟩ := zcells_ok hz
        rw [hi] at a1; cases a1
        exact fin z' a2 a4 a5 _ _ (.inl rfl) rfl rfl rfl
      · rw [Option.bind_eq_some_iff] at he; obtain ⟨z, hz, he⟩ := he
        simp [idK] at he; obtain ⟨rfl, rfl⟩ := he
        obtain ⟨i', z', a1, a2, a4, a5, rfl⟩ := zcellsF_eq.1 hz
        rw [hi] at a1; cases a1
        exact fin z' a2 a4 a5 _ _ (.inr (by simp only [repl_map, List.map_map]; rfl)) (by simp only [Ob.vl, repl_map, List.map_map]; rfl) rfl rfl
    · cases hel
  · cases he

/-- cells of an object of one's own are written -/
theorem puts_ok (r : Rel η ro h w) {k b st sz off : Nat} (hk : η k = some (.at_ b st sz)) {xs : List Value} {cs L : List V} {o o' : Ob} (hr : VRels η ro cs xs) (h1 : ∀ x ∈ xs, x.oneCell' = true) (a1 : h[k]? = some o) (a2 : o.vl = some L) (a3 : o'.vl = some (splice L off cs)) (a4 : off + cs.length ≤ L.length) :
    ∃ w', (storeCells ⟨b, st + off, none⟩ xs).run P w = .ok () w' ∧ Rel η ro (h.set k o') w' ∧ Stp η ro h w η ro (h.set k o') w' := by
  have hlen := hr.len
  obtain ⟨c, T, lo, hi, e1, e2, e3, e4, e5⟩ := r.at_ hk a1 a2
  have hrun := run_puts (P := P) (T := T) (lo := lo) (hi := hi) xs w c (st + off) 0 e1 (by rw [e2]; exact e3.no) (by omega) h1
  simp only [Nat.add_zero] at hrun
  have hlive : o.mine = true := by cases o <;> first | rfl | cases a2
  have hat : CellsAt η ro (World.blk w b (.cells (aput c (st + off) xs) T (lo, hi))) (splice L off cs) (.at_ b st sz) :=
    .inr ⟨b, st, sz, _, T, lo, hi, rfl, blk_get (Array.getElem?_eq_some_iff.1 e1).1, by rw [aput_size, e2], e3, by rw [splice_len]; exact e4, held_put e5 hr h1 a4 (by rw [e2]; exact e4)⟩
  have := upd_step r hk a1 hlive (o' := o') (w' := World.blk w b (.cells (aput c (st + off) xs) T (lo, hi))) (fun i hi => blk_other hi) (by simp [World.blk]) rfl rfl rfl (by
    cases o' with
    | dead => cases a3
    | lent l => cases a3
    | map q es => cases a3
    | cells l => cases a3; exact hat
    | fz l => simp only [Ob.vl, Option.some.injEq] at a3; show CellsAt η ro _ (l.map .f) _; rw [a3]; exact hat)
  exact ⟨_, hrun, this.1, this.2⟩
theorem wr_puts (r : Rel η ro h w) {k b st sz off : Nat} (hk : η k = some (.at_ b st sz)) {xs : List Value} {cs : List V} {h2 : H} (hr : VRels η ro cs xs) (h1 : ∀ x ∈ xs, x.oneCell' = true) (hw : wr h k off cs = some h2) :
    ∃ w', (storeCells ⟨b, st + off, none⟩ xs).run P w = .ok () w' ∧ Rel η ro h2 w' ∧ Stp η ro h w η ro h2 w' := by
  unfold wr at hw
  split at hw
  · rename_i l hl
    split at hw
    · rename_i hle; cases hw; exact puts_ok r hk hr h1 hl rfl rfl hle
    · cases hw
  · rename_i l hl
    split at hw
    · rename_i hle
      cases hw
      unfold wrF
      split
      · rename_i m hm
        have := toFs_eq.1 hm
        have hm1 : m.length = cs.length := by have := congrArg List.length this; simpa using this.symm
        exact puts_ok r hk (cs := m.map .f) (this ▸ hr) h1 hl rfl (by simp [Ob.vl, splice_map]) (by simp; omega)
      · exact puts_ok r hk hr h1 hl rfl rfl (by simpa using hle)
    · cases hw
  · cases hw
theorem zeroCells_repl (z : Array Value) (n : Nat) : (Builtin.zeroCells z n).toList = repl z.toList n := by
  apply List.ext_getElem?
  intro j
  unfold Builtin.zeroCells
  by_cases hj : j < n * z.size
  · have hz : 0 < z.size := by
      rcases Nat.eq_zero_or_pos z.size with h | h
      · rw [h] at hj; omega
      · exact h
    rw [repl_get _ _ _ (by simpa using hj)]
    have hm : j % z.size < z.size := Nat.mod_lt _ hz
    simp [hj]
    rw [getElem!_pos z _ hm, Array.getElem?_eq_getElem hm]
  · rw [List.getElem?_eq_none (by simp; omega), List.getElem?_eq_none (by rw [repl_len]; simp; omega)]
theorem sim_clear {t ty : TypeId} {x v : V} {cx : Value} {h' : H} (r : Rel η ro h w) (he : Go.Abs.clearS P t x h idK = some (.ret v, h')) (hx : VRel η ro x cx) :
    ∃ w' cv, (Builtin.clear_ #[t] ty #[cx]).run P w = .ok cv w' ∧ Rel η ro h' w' ∧ Stp η ro h w η ro h' w' ∧ VRel η ro v cv := by
  unfold Go.Abs.clearS at he
  rw [Option.bind_eq_some_iff] at he; obtain ⟨e, hel, he⟩ := he
  rw [Option.bind_eq_some_iff] at he; obtain ⟨es, hes, he⟩ := he
  rw [Option.bind_eq_some_iff] at he; obtain ⟨z, hz, he⟩ := he
  unfold elem? at hel
  rw [Option.bind_eq_some_iff] at hel; obtain ⟨d, hu, hel⟩ := hel
  split at hel
  rotate_left
  · cases hel
  cases hel
  obtain ⟨i', z', a1, a2, rfl, a4, a5⟩ := zcells_ok hz
  have tup : VRel η ro (.tup []) (.tuple #[]) := ⟨#[], rfl, trivial⟩
  split at he
  · simp [idK] at he; obtain ⟨rfl, rfl⟩ := he
    cases rel_s hx
    exact ⟨w, .tuple #[], by simp [Builtin.clear_, run_ul hu], r, Stp.refl _ _ _ _, tup⟩
  · rename_i k off n es'
    split at he
    · rename_i hn
      subst hn
      simp [idK] at he; obtain ⟨rfl, rfl⟩ := he
      refine ⟨w, .tuple #[], ?_, r, Stp.refl _ _ _ _, tup⟩
      rcases hx with ⟨b, st, sz, c, o, h1, rfl, h2, h3⟩ | ⟨_, _, _, rfl⟩ <;> simp [Builtin.clear_, run_ul hu]
    · rename_i hn
      split at he
      rotate_left
      · cases he
      rw [wrK_eq, Option.bind_eq_some_iff] at he; obtain ⟨h2, hwr, he⟩ := he
      simp [idK] at he; obtain ⟨rfl, rfl⟩ := he
      rcases hx with ⟨b, st, sz, c, o, h1, rfl, h2, h3, h4⟩ | ⟨_, h5, _, _⟩
      rotate_left
      · exact absurd h5 hn
      have ho := h4 (by omega)
      subst ho
      have hone : ∀ x ∈ repl z'.cells.toList n, x.oneCell' = true := by
        intro x hx
        obtain ⟨j, hj⟩ := List.mem_iff_getElem?.1 hx
        have hlt := (List.getElem?_eq_some_iff.1 hj).1
        rw [repl_get _ _ _ (by rw [repl_len] at hlt; exact hlt)] at hj
        exact a4 x (List.mem_of_getElem? hj)
      obtain ⟨w', q1, q2, q3⟩ := wr_puts (P := P) r h1 (xs := repl z'.cells.toList n) (by rw [← repl_map]; exact rels_s _ hone) hone hwr
      have hze : (zeroValue e).run P w = .ok z' w := by simp [zeroValue, typeInfo, a1, a2]
      refine ⟨w', .tuple #[], ?_, q2, q3, tup⟩
      rw [← zeroCells_repl] at q1
      obtain ⟨n', rfl⟩ : ∃ n', n = n' + 1 := ⟨n - 1, by omega⟩
      simp [Builtin.clear_, run_ul hu, hze, q1]
  · cases he
theorem sim_makeMap {t : TypeId} {v : V} {h' : H} (r : Rel η ro h w) (he : Go.Abs.makeMap P t h idK = some (.ret v, h')) :
    ∃ η' w' cv, (Instr.makeMap t none).run P w = .ok cv w' ∧ Rel η' ro h' w' ∧ Stp η ro h w η' ro h' w' ∧ VRel η' ro v cv := by
  unfold Go.Abs.makeMap at he
  split at he
  · rw [Option.bind_eq_some_iff] at he; obtain ⟨q, hq, he⟩ := he
    simp [idK] at he; obtain ⟨rfl, rfl⟩ := he
    have := new_block r (Alike.refl w) (.inl rfl) (o := .map q []) (ob := .map #[] 0) (st := 0) (sz := 0) (fun η' _ => ⟨_, #[], 0, rfl, heap_alloc_at rfl, trivial, by simp, rfl, by simp⟩)
    exact ⟨_, _, .map (some w.heap.size), by simp [Instr.makeMap], this.1, this.2, _, Et.set_same _ _ _, rfl⟩
  · cases he

theorem mput_ok {q : KK} {key : Value} (hk : IsKK q key) {x : F} {cx : Value} (hx : FRel ro x cx) (clock : Nat) : ∀ {es : List (Value × F)} {ents : List MapEntry}, MRel ro es ents → (∀ a ∈ es, IsKK q a.1) →
    ((mfind key es = none → MRel ro (mput key x es) (ents ++ [{ key, val := cx, born := clock }])) ∧
     ∀ j e, ents[j]? = some e → e.key = key → (∀ i, i < j → ∀ e', ents[i]? = some e' → e'.key ≠ key) → MRel ro (mput key x es) (ents.modify j fun e => { e with key, val := cx })) ∧ ∀ a ∈ mput key x es, IsKK q a.1
  | [], [], _, _ => ⟨⟨fun _ => ⟨⟨rfl, hx⟩, trivial⟩, by simp⟩, by simp [mput, hk]⟩
  | (a, y) :: es, e :: ents, hm, ha => by
    have ha0 : IsKK q a := ha (a, y) (by simp)
    have hek : e.key = a := hm.1.1
    have ih := mput_ok hk hx clock hm.2 (fun b hb => ha b (by simp [hb]))
    by_cases hsame : key = a
    · subst hsame
      have hs : sameKey key key = true := (sameKey_iff hk hk).2 rfl
      refine ⟨⟨fun hn => by simp [mfind, hs] at hn, ?_⟩, ?_⟩
      · intro j e' hj hkey hfirst
        cases j with
        | zero => simp only [mput, hs, if_true]; exact ⟨⟨rfl, hx⟩, hm.2⟩
        | succ j => exact absurd hek (hfirst 0 (by omega) e rfl)
      · simp only [mput, hs, if_true]
        intro b hb
        rcases List.mem_cons.1 hb with rfl | hb
        · exact hk
        · exact ha b (by simp [hb])
    · have hs : sameKey key a = false := by
        cases hq : sameKey key a with
        | true => exact absurd ((sameKey_iff hk ha0).1 hq) hsame
        | false => rfl
      refine ⟨⟨fun hn => ?_, ?_⟩, ?_⟩
      · simp only [mput, hs, Bool.false_eq_true, if_false]
        exact ⟨hm.1, ih.1.1 (by simpa [mfind, hs] using hn)⟩
      · intro j e' hj hkey hfirst
        cases j with
        | zero => simp at hj; subst hj; exact absurd (hkey.symm.trans hek) hsame
        | succ j =>
          simp only [mput, hs, Bool.false_eq_true, if_false]
          exact ⟨hm.1, ih.1.2 j e' (by simpa using hj) hkey fun i hi e'' he'' => hfirst (i + 1) (by omega) e'' (by simpa using he'')⟩
      · simp only [mput, hs, Bool.false_eq_true, if_false]
        intro b hb
        rcases List.mem_cons.1 hb with rfl | hb
        · exact ha0
        · exact ih.2 b hb
  | [], _ :: _, hm, _ => hm.elim
  | _ :: _, [], hm, _ => hm.elim
/-- the place that a key has is the first with it -/
theorem findNow_first {d : TypeDesc} {key : Value} {q : KK} (hd : ∀ v, IsKK q v → IsKey d v) (hk : IsKK q key) : ∀ (ents : List MapEntry) (i j : Nat) (v : Value), (∀ e ∈ ents, IsKK q e.key) → Instr.findNow d key ents i = some (some (i + j, v)) →
    ∀ a, a < j → ∀ e, ents[a]? = some e → e.key ≠ key
  | [], i, j, v, _, he => by simp [Instr.findNow] at he
  | e :: ents, i, j, v, hkk, he => by
    obtain ⟨r, hr, hiff⟩ := sameNow_of_keys (hd _ hk) (hd _ (hkk e (by simp)))
    cases r with
    | true => simp [Instr.findNow, hr] at he; intro a ha; omega
    | false =>
      simp [Instr.findNow, hr] at he
      have hne : e.key ≠ key := fun q => by have := hiff.2 q.symm; cases this
      intro a ha e' he'
      cases a with
      | zero => simp at he'; subst he'; exact hne
      | succ a =>
        have he2 : Instr.findNow d key ents (i + 1) = some (some (i + 1 + (j - 1), v)) := by rw [he]; congr 3; omega
        exact findNow_first hd hk ents (i + 1) (j - 1) v (fun e he => hkk e (by simp [he])) he2 a (by omega) e' (by simpa using he')
theorem mrel_keys {q : KK} : ∀ {es : List (Value × F)} {ents : List MapEntry}, MRel ro es ents → (∀ a ∈ es, IsKK q a.1) → ∀ e ∈ ents, IsKK q e.key
  | [], [], _, _ => by simp
  | a :: es, e :: ents, hm, ha => by
    intro e' he'
    rcases List.mem_cons.1 he' with rfl | he'
    · rw [hm.1.1]; exact ha a (by simp)
    · exact mrel_keys hm.2 (fun b hb => ha b (by simp [hb])) e' he'
  | [], _ :: _, hm, _ => hm.elim
  | _ :: _, [], hm, _ => hm.elim
theorem sim_mapUpdate {t : TypeId} {m i x : V} {cm ci cx : Value} {h' : H} {y : Out} (r : Rel η ro h w) (he : Go.Abs.mapUpdate P t m i x h idH = some (y, h')) (hm : VRel η ro m cm) (hi : VRel η ro i ci) (hx : VRel η ro x cx) :
    ∃ w', (Instr.mapUpdate t cm ci cx).run P w = .ok () w' ∧ Rel η ro h' w' ∧ Stp η ro h w η ro h' w' := by
  unfold Go.Abs.mapUpdate at he
  split at he
  · rename_i kt et hu
    rw [Option.bind_eq_some_iff] at he; obtain ⟨q, hq, he⟩ := he
    rw [Option.bind_eq_some_iff] at he; obtain ⟨key, hkey, he⟩ := he
    rw [Option.bind_eq_some_iff] at he; obtain ⟨fx, hfx, he⟩ := he
    rw [V.f?_eq] at hfx; subst hfx
    obtain ⟨rfl, hk, hk1⟩ := keyOk_ok hkey
    have hci : key = ci := (rel_s hi).symm
    subst hci
    obtain ⟨d, hd, hdk⟩ := kkOf_ok hq
    cases m with
    | mp k =>
      dsimp only at he
      cases hes : h[k]? with
      | none => rw [hes] at he; cases he
      | some o =>
        rw [hes] at he
        cases o with
        | map q' es =>
          dsimp only at he
          by_cases hqq : q' = q
          · rw [if_pos hqq] at he
            subst hqq
            simp [idH] at he; obtain ⟨_, rfl⟩ := he
            obtain ⟨b, h1, rfl⟩ := hm
            obtain ⟨ents, clock, h2, h3, h4, hbn⟩ := r.map' h1 hes
            have hb : b < w.heap.size := (Array.getElem?_eq_some_iff.1 h2).1
            have hck : (Instr.checkKey false (9999 + 1) kt key).run P w = .ok () w := MapKept.run_checkKey hd (hdk _ hk) false 9999
            have fin : ∀ ents' clock', MRel ro (mput key fx es) ents'.toList → (∀ a ∈ mput key fx es, IsKK q' a.1) → Born ents' clock' → Rel η ro (h.set k (.map q' (mput key fx es))) (World.blk w b (.map ents' clock')) ∧ Stp η ro h w η ro (h.set k (.map q' (mput key fx es))) (World.blk w b (.map ents' clock')) := by
              intro ents' clock' a1 a2 a3
              exact upd_step r h1 hes rfl (fun i hi => blk_other hi) (by simp [World.blk]) rfl rfl rfl ⟨b, ents', clock', rfl, blk_get hb, a1, a2, a3⟩
            rcases find_ok hdk hk 0 h3 h4 with ⟨f1, f2, f3⟩ | ⟨j, z, e', f1, f2, f3, f4, f5⟩
            · have hf := MapKept.run_findKey (w := w) hd f2
              have hput := mput_ok hk (x := fx) (cx := cx) hx clock h3 h4
              refine ⟨World.blk w b (.map (ents.push { key, val := cx, born := clock }) (clock + 1)), ?_, fin _ _ (by simpa using hput.1.1 f1) hput.2 (hbn.push _ rfl)⟩
              simp only [Instr.mapUpdate, Sem.run_bind, run_ul hu, Result.andThen_ok, MapKept.run_getObj_map h2, hck, hf]
              exact MapKept.run_setObj_map _ h2
            · have hf := MapKept.run_findKey (w := w) hd f2
              have hput := mput_ok hk (x := fx) (cx := cx) hx clock h3 h4
              have hfirst := findNow_first hdk hk ents.toList 0 j e'.val (mrel_keys h3 h4) f2
              refine ⟨World.blk w b (.map (ents.modify j fun e => { e with key, val := cx }) clock), ?_, fin _ _ (by rw [Array.toList_modify]; exact hput.1.2 j e' f3 f5 hfirst) hput.2 (hbn.modify _ _ fun e => rfl)⟩
              have hj : ents[0 + j]? = some e' := by simpa using f3
              simp only [Instr.mapUpdate, Sem.run_bind, run_ul hu, Result.andThen_ok, MapKept.run_getObj_map h2, hck, hf, hj, Option.map_some, Option.getD_some, f5, MapKept.run_keyThatStays (hdk _ hk)]
              rw [MapKept.run_setObj_map _ h2]
              simp [World.blk]
          · rw [if_neg hqq] at he; cases he
        | cells _ => cases he
        | fz _ => cases he
        | lent _ => cases he
        | dead => cases he
    | _ => cases he
  · cases he
theorem mset_ok {x : F} {cx : Value} (hx : FRel ro x cx) : ∀ {es : List (Value × F)} {ents : List MapEntry} (n : Nat), MRel ro es ents → MRel ro (es.modify n fun a => (a.1, x)) (ents.modify n fun e => { e with val := cx })
  | [], [], n, _ => by cases n <;> exact trivial
  | (a, y) :: es, e :: ents, 0, hm => ⟨⟨hm.1.1, hx⟩, hm.2⟩
  | (a, y) :: es, e :: ents, n + 1, hm => by
    rw [List.modify_succ_cons, List.modify_succ_cons]
    exact ⟨hm.1, mset_ok hx n hm.2⟩
  | [], _ :: _, _, hm => hm.elim
  | _ :: _, [], _, hm => hm.elim
theorem mset_keys {q : KK} {x : F} : ∀ {es : List (Value × F)} (n : Nat), (∀ a ∈ es, IsKK q a.1) → ∀ a ∈ es.modify n (fun a => (a.1, x)), IsKK q a.1
  | [], n, _, a, ha => by cases n <;> simp at ha
  | b :: es, 0, h, a, ha => by
    rw [List.modify_zero_cons] at ha
    rcases List.mem_cons.1 ha with rfl | ha
    · exact h b (by simp)
    · exact h a (by simp [ha])
  | b :: es, n + 1, h, a, ha => by
    rw [List.modify_succ_cons] at ha
    rcases List.mem_cons.1 ha with rfl | ha
    · exact h _ (by simp)
    · exact mset_keys n (fun c hc => h c (by simp [hc])) a ha
theorem born_find {ents : Array MapEntry} {clock : Nat} (hb : Born ents clock) {n : Nat} (hn : n < ents.size) : ents.findIdx? (fun e => ((e.born : Nat) : Int) == ((n : Nat) : Int)) = some n := by
  rw [Array.findIdx?_eq_some_iff_getElem]
  refine ⟨hn, ?_, fun j hj => ?_⟩
  · have := hb.2 n _ (Array.getElem?_eq_getElem hn)
    simp [this]
  · have := hb.2 j _ (Array.getElem?_eq_getElem (by omega))
    simp [this]; omega
theorem sim_entryStore {t : TypeId} {m st x : V} {cm cs cx : Value} {h' : H} {y : Out} (r : Rel η ro h w) (he : Go.Abs.entryStore m st x h idH = some (y, h')) (hm : VRel η ro m cm) (hs : VRel η ro st cs) (hx : VRel η ro x cx) :
    ∃ w', (Instr.entryStore t cm cs cx).run P w = .ok () w' ∧ Rel η ro h' w' ∧ Stp η ro h w η ro h' w' := by
  unfold Go.Abs.entryStore at he
  split at he
  · rename_i k
    split at he
    · rename_i q es hes
      rw [Option.bind_eq_some_iff] at he; obtain ⟨n, hn, he⟩ := he
      rw [Option.bind_eq_some_iff] at he; obtain ⟨fx, hfx, he⟩ := he
      split at he
      rotate_left
      · cases he
      rename_i hlt
      simp [idH] at he; obtain ⟨_, rfl⟩ := he
      rw [V.f?_eq] at hfx; subst hfx
      have hst := V.int?_eq.1 hn
      subst hst
      have hcs : cs = .int .i64 n := rel_s hs
      subst hcs
      obtain ⟨b, h1, rfl⟩ := hm
      obtain ⟨ents, clock, h2, h3, h4, hbn⟩ := r.map' h1 hes
      obtain ⟨n, rfl⟩ : ∃ z : Nat, n = z := ⟨n.toNat, by omega⟩
      have hl : es.length = ents.size := by rw [h3.len]; simp
      have hfi := born_find hbn (n := n) (by omega)
      refine ⟨World.blk w b (.map (ents.modify n fun e => { e with val := cx }) clock), ?_, ?_⟩
      · simp only [Instr.entryStore, Sem.run_bind, MapKept.run_getObj_map h2, Result.andThen_ok, asInt, asIntOf, Sem.run_pure, hfi]
        exact MapKept.run_setObj_map _ h2
      · rw [Int.toNat_natCast]
        exact upd_step r h1 hes rfl (fun i hi => blk_other hi) (by simp [World.blk]) rfl rfl rfl ⟨b, _, clock, rfl, blk_get (Array.getElem?_eq_some_iff.1 h2).1, by rw [Array.toList_modify]; exact mset_ok hx n h3, mset_keys n h4, hbn.modify _ _ fun e => rfl⟩
    · cases he
  · cases he
theorem sim_mapEntry {t : TypeId} {m i v : V} {cm ci : Value} {h' : H} (r : Rel η ro h w) (he : Go.Abs.mapEntry P t m i h idK = some (.ret v, h')) (hm : VRel η ro m cm) (hi : VRel η ro i ci) :
    ∃ w' cv, (Instr.mapEntry t cm ci).run P w = .ok cv w' ∧ Rel η ro h' w' ∧ Stp η ro h w η ro h' w' ∧ VRel η ro v cv := by
  unfold Go.Abs.mapEntry at he
  split at he
  · rename_i kt et hu
    rw [Option.bind_eq_some_iff] at he; obtain ⟨q, hq, he⟩ := he
    rw [Option.bind_eq_some_iff] at he; obtain ⟨key, hkey, he⟩ := he
    rw [Option.bind_eq_some_iff] at he; obtain ⟨z, hz, he⟩ := he
    split at he
    rotate_left
    · cases he
    rename_i hz1
    obtain ⟨rfl, hk, hk1⟩ := keyOk_ok hkey
    have hci : key = ci := (rel_s hi).symm
    subst hci
    obtain ⟨d, hd, hdk⟩ := kkOf_ok hq
    split at he
    rotate_left
    · cases he
    rename_i k
    split at he
    rotate_left
    · cases he
    rename_i q' es hes
    split at he
    rotate_left
    · cases he
    rename_i hqq
    subst hqq
    obtain ⟨b, h1, rfl⟩ := hm
    obtain ⟨ents, clock, h2, h3, h4, hbn⟩ := r.map' h1 hes
    have hl : es.length = ents.size := by rw [h3.len]; simp
    have hb : b < w.heap.size := (Array.getElem?_eq_some_iff.1 h2).1
    have hck : (Instr.checkKey false (9999 + 1) kt key).run P w = .ok () w := MapKept.run_checkKey hd (hdk _ hk) false 9999
    rcases find_ok hdk hk 0 h3 h4 with ⟨f1, f2, f3⟩ | ⟨j, x0, e0, f1, f2, f3, f4, f5⟩
    · have hf := MapKept.run_findKey (w := w) hd f2
      have hI : mfindI key es 0 = none := by
        rcases findI_ok hk 0 h3 h4 with ⟨g1, _⟩ | ⟨j, x, e, _, g2, _, g4, _⟩
        · exact g1
        · exact absurd g4 (f3 e (List.mem_of_getElem? g2))
      rw [hI] at he
      simp [idK] at he; obtain ⟨rfl, rfl⟩ := he
      have hput := mput_ok hk (x := .s z) (cx := z) ⟨rfl, hz1⟩ clock h3 h4
      have fin : Rel η ro (h.set k (.map q' (mput key (.s z) es))) (World.blk w b (.map (ents.push { key, val := z, born := clock }) (clock + 1))) ∧ Stp η ro h w η ro (h.set k (.map q' (mput key (.s z) es))) (World.blk w b (.map (ents.push { key, val := z, born := clock }) (clock + 1))) :=
        upd_step r h1 hes rfl (fun i hi => blk_other hi) (by simp [World.blk]) rfl rfl rfl ⟨b, _, clock + 1, rfl, blk_get hb, by simpa using hput.1.1 f1, hput.2, hbn.push _ rfl⟩
      refine ⟨World.blk w b (.map (ents.push { key, val := z, born := clock }) (clock + 1)), .tuple #[z, goInt clock], ?_, ?_, ?_, ?_⟩
      · simp only [Instr.mapEntry, Sem.run_bind, run_ul hu, Result.andThen_ok, MapKept.run_getObj_map h2, hck, hf, run_zero hz]
        rw [MapKept.run_setObj_map _ h2]
        rfl
      · exact fin.1
      · exact fin.2
      · refine ⟨#[z, goInt clock], rfl, ⟨rfl, hz1⟩, ⟨?_, rfl⟩, trivial⟩
        rw [hl, hbn.1]; rfl
    · have hf := MapKept.run_findKey (w := w) hd f2
      have hfirst := findNow_first hdk hk ents.toList 0 j e0.val (mrel_keys h3 h4) (by simpa using f2)
      obtain ⟨x1, hI, hx1⟩ : ∃ x1, mfindI key es 0 = some (j, x1) ∧ FRel ro x1 e0.val := by
        rcases findI_ok hk 0 h3 h4 with ⟨_, g3⟩ | ⟨j', x, e, g1, g2, g3, g4, g5⟩
        · exact absurd f5 (g3 e0 (List.mem_of_getElem? f3))
        · have : j' = j := by
            rcases Nat.lt_trichotomy j' j with c | c | c
            · exact absurd g4 (hfirst j' c e g2)
            · exact c
            · exact absurd f5 (g5 j c e0 f3)
          subst this
          rw [f3] at g2; cases g2
          exact ⟨x, by rw [g1, Nat.zero_add], g3⟩
      rw [hI] at he
      simp [idK] at he; obtain ⟨rfl, rfl⟩ := he
      have hj : ents[j]? = some e0 := by simpa using f3
      have hsame : ents.modify j (fun e => { e with key := key }) = ents := by
        apply Array.ext_getElem?
        intro a
        rw [Array.getElem?_modify]
        split
        · rename_i q; subst q
          rw [hj]; simp [← f5]
        · rfl
      have hborn : e0.born = j := hbn.2 j e0 hj
      have fin : Rel η ro (h.set k (.map q' es)) (World.blk w b (.map ents clock)) ∧ Stp η ro h w η ro (h.set k (.map q' es)) (World.blk w b (.map ents clock)) :=
        upd_step r h1 hes rfl (fun i hi => blk_other hi) (by simp [World.blk]) rfl rfl rfl ⟨b, ents, clock, rfl, blk_get hb, h3, h4, hbn⟩
      refine ⟨World.blk w b (.map ents clock), .tuple #[e0.val, goInt j], ?_, ?_, ?_, ?_⟩
      · simp only [Instr.mapEntry, Sem.run_bind, run_ul hu, Result.andThen_ok, MapKept.run_getObj_map h2, hck, hf, Nat.zero_add, hj, Option.map_some, Option.getD_some, f5, MapKept.run_keyThatStays (hdk _ hk), hsame, hborn]
        rw [MapKept.run_setObj_map _ h2]
        rfl
      · exact fin.1
      · exact fin.2
      · exact ⟨#[e0.val, goInt j], rfl, hx1, ⟨rfl, rfl⟩, trivial⟩
  · cases he
end
end Go.Abs
