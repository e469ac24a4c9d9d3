/-
  THE ABSTRACT MACHINE IS RIGHT: what it says comes out, comes out of Go's program.
-/
import Derived.Test.YtpchhblgilfejaaAbsGraft
import Derived.Recover
set_option autoImplicit false
set_option linter.unusedVariables false
set_option linter.unusedSimpArgs false
namespace Go.Abs
open Go

section
variable {P : Program} {η η' : Et} {ro ro' : Ro} {h h' : H} {w w' : World} {N : Nat} {ds : List Deferred} {fr : Fr} {a : Act}

/-- a result -/
def resOne (tmps : Array Value) : ResultVar → Sem Value
  | .tmp t => pure (tmps.getD t undef)
  | .cell a t => do loadVar t (← asAddr (tmps.getD a undef))
def fin1 : List V → V
  | [v] => v
  | l => .tup l
theorem load_addr {t : TypeId} {v : V} {ca cv : Value} (he : ∃ kk x, Go.Abs.load P t v h idV = some (kk, x)) (hv : VRel η ro v ca) (hr : (Instr.loadAt t ca).run P w = .ok cv w) : (do loadVar t (← asAddr ca) : Sem Value).run P w = .ok cv w := by
  cases ca with
  | pointer q =>
    cases q with
    | some q => exact hr
    | none => simp [Instr.loadAt, Instr.sureAddr] at hr
  | _ => simp [Instr.loadAt, Instr.sureAddr] at hr
theorem resV_ok (r : Rel η ro h w) (f : FrRel N ds η ro fr a) {kk : V → R} {out : Out × H} : ∀ (l : List ResultVar) {acc : List V} {cacc : List Value}, resV P fr h kk l acc = some out → VRels η ro acc.reverse cacc.reverse →
    ∃ us cus, (l.mapM (resOne a.tmps)).run P w = .ok cus w ∧ VRels η ro (acc.reverse ++ us) (cacc.reverse ++ cus) ∧ kk (fin1 (acc.reverse ++ us)) = some out
  | [], acc, cacc, e, hv => by
    refine ⟨[], [], rfl, by simpa using hv, ?_⟩
    unfold resV at e
    rw [List.append_nil]
    cases acc with
    | nil => exact e
    | cons v acc =>
      cases acc with
      | nil => exact e
      | cons u acc =>
        have : fin1 (v :: u :: acc).reverse = .tup (v :: u :: acc).reverse := by
          unfold fin1
          split
          · rename_i x hx
            have := congrArg List.length hx
            simp at this
          · rfl
        rw [this]; exact e
  | .tmp t :: l, acc, cacc, e, hv => by
    unfold resV at e
    obtain ⟨us, cus, h1, h2, h3⟩ := resV_ok r f l (cacc := a.tmps.getD t undef :: cacc) e (by
      simp only [List.reverse_cons]; exact hv.append ⟨f.at_ t, trivial⟩)
    refine ⟨fr t :: us, a.tmps.getD t undef :: cus, ?_, by simpa using h2, by simpa using h3⟩
    rw [List.mapM_cons]
    simp only [Sem.run_bind, resOne, Sem.run_pure, Result.andThen_ok, h1]
  | .cell c t :: l, acc, cacc, e, hv => by
    unfold resV at e
    rw [(load_nat P t (fr c) h).out] at e
    cases hq : Go.Abs.load P t (fr c) h idV with
    | none => rw [hq] at e; cases e
    | some q =>
      obtain ⟨o, x⟩ := q
      rw [hq] at e
      cases o with
      | pan v => cases e
      | ret v =>
        obtain ⟨cv, g1, g2⟩ := sim_load r hq (f.at_ c)
        have g3 := load_addr ⟨_, _, hq⟩ (f.at_ c) g1
        obtain ⟨us, cus, h1, h2, h3⟩ := resV_ok r f l (acc := v :: acc) (cacc := cv :: cacc) e (by
          simp only [List.reverse_cons]; exact hv.append ⟨g2, trivial⟩)
        refine ⟨v :: us, cv :: cus, ?_, by simpa using h2, by simpa using h3⟩
        rw [List.mapM_cons]
        have g4 : (resOne a.tmps (.cell c t)).run P w = .ok cv w := g3
        simp only [Sem.run_bind, g4, Sem.run_pure, Result.andThen_ok, h1]
theorem results_ok (r : Rel η ro h w) (f : FrRel N ds η ro fr a) {kk : V → R} {out : Out × H} {fn : Func} (e : resV P fr h kk fn.results.toList [] = some out) :
    ∃ v cv, (results fn a.tmps).run P w = .ok cv w ∧ VRel η ro v cv ∧ kk v = some out := by
  obtain ⟨us, cus, h1, h2, h3⟩ := resV_ok r f fn.results.toList (cacc := []) e trivial
  simp only [List.reverse_nil, List.nil_append] at h2 h3
  have hm : (fn.results.mapM (resOne a.tmps)).run P w = .ok cus.toArray w := by
    rw [Array.mapM_eq_mapM_toList]
    simp [h1]
  have hres : results fn a.tmps = (do let vs ← fn.results.mapM (resOne a.tmps); pure (if h : vs.size = 1 then vs[0] else .tuple vs)) := by
    unfold results
    congr 1
  refine ⟨fin1 us, if hh : cus.toArray.size = 1 then cus.toArray[0] else .tuple cus.toArray, ?_, ?_, h3⟩
  · rw [hres, Sem.run_bind, hm]; rfl
  · unfold fin1
    split
    · rename_i v
      obtain ⟨c, rfl, hc⟩ := h2.one
      simpa using hc
    · rename_i hn
      have hl := h2.len
      rw [dif_neg]
      · exact ⟨cus.toArray, rfl, by simpa using h2⟩
      · intro hs
        have h1' : us.length = 1 := by rw [hl]; simpa using hs
        obtain ⟨v, hv⟩ := List.length_eq_one_iff.1 h1'
        exact hn v hv
end

/-- contracts from elsewhere -/
def ExtSim (w0 : World0) : Prop :=
  ∀ (f : FuncId) (e : List V → H → R), w0.ext f = some e → ∀ (args : List V) (cargs : Array Value) (h : H) (η : Et) (ro : Ro) (w : World) (o : Out) (h' : H), Rel η ro h w → VRels η ro args cargs.toList →
    e args h = some (o, h') → (∃ fn, w0.P.funcs[f]? = some fn ∧ fn.name ≠ "runtime.NumGoroutine" ∧ fn.body.isSome = true) ∧ Calls w0.P f cargs w (After η ro h w o h')

theorem entry_ok {η : Et} {ro : Ro} {args : List V} {cargs : Array Value} {n : Nat} (hg : GOk ro) (h : VRels η ro args cargs.toList) (hn : args.length ≤ n) :
    FrRel n [] η ro (entry args) { tmps := cargs ++ Array.replicate (n - cargs.size) undef, defers := [] } := by
  have hl : args.length = cargs.size := by simpa using h.len
  refine ⟨by simp; omega, fun i => ?_, rfl, hg⟩
  unfold entry
  rw [List.getD_eq_getElem?_getD, Array.getD_eq_getD_getElem?]
  by_cases hi : i < args.length
  · obtain ⟨x, h1, h2⟩ := h.get (List.getElem?_eq_getElem hi)
    have h1' : cargs[i]? = some x := by simpa using h1
    rw [List.getElem?_eq_getElem hi, Array.getElem?_append_left (by omega), h1']
    exact h2
  · rw [List.getElem?_eq_none (by omega)]
    have : (cargs ++ Array.replicate (n - cargs.size) undef)[i]?.getD undef = undef := by
      rw [Array.getElem?_append_right (by omega), Array.getElem?_replicate]
      split <;> rfl
    simp only [Option.getD_none, this]
    rfl

theorem nrm1_ok {η : Et} {ro : Ro} {v : V} {cv : Value} (h : VRel η ro v cv) : VRel η ro (nrm1 v) cv := by
  unfold nrm1
  split
  · obtain ⟨cvs, rfl, h1, h2⟩ := h; exact ⟨cvs, rfl, h1.nrm, h2⟩
  · exact nrmV_ok h
theorem nrmBy_ok {η : Et} {ro : Ro} : ∀ (l : List Sh) {vs : List V} {cs : List Value}, VRels η ro vs cs → VRels η ro (nrmBy l vs) cs
  | [], vs, cs, h => by unfold nrmBy; exact h
  | s :: l, [], cs, h => by cases s <;> exact h
  | s :: l, v :: vs, [], h => h.elim
  | s :: l, v :: vs, c :: cs, ⟨h1, h2⟩ => by
    cases s
    case val => exact ⟨nrm1_ok h1, nrmBy_ok l h2⟩
    all_goals exact ⟨h1, nrmBy_ok l h2⟩
theorem frz_f {h : H} {d : Nat} {y x : F} (e : frz h d (.f y) = some x) : x = frzF y := by
  cases d with
  | zero => cases e
  | succ d => simp [frz] at e; exact e.symm
theorem ripes_mem : ∀ {l : List V} {v : V}, ripes l = true → v ∈ l → ripe v = true
  | w :: l, v, h, hm => by
    rw [ripes, Bool.and_eq_true] at h
    rcases List.mem_cons.1 hm with rfl | hm
    · exact h.1
    · exact ripes_mem h.2 hm
theorem frz_ripe {η : Et} {ro : Ro} {h : H} : ∀ d : Nat, (∀ {v : V} {y : F} {c : Value}, ripe v = true → frz h d v = some y → VRel η ro v c → FRel ro y c) ∧ (∀ {l : List V} {ys : List F} {b o : Nat}, ripes l = true → frzs h d l = some ys → VCells η ro l b o → FCells ro ys b o)
  | 0 => ⟨fun _ e _ => by simp [frz] at e, fun _ e _ => by simp [frzs] at e⟩
  | d + 1 => by
    obtain ⟨i1, i2⟩ := frz_ripe (η := η) (ro := ro) (h := h) d
    refine ⟨fun {v y c} hr e hv => ?_, fun {l ys b o} hr e hv => ?_⟩
    · cases v with
      | f q => rw [frz_f e]; exact frzF_ok hv
      | any => simp [frz] at e
      | agg cs => simp [frz] at e
      | lit n cs =>
        simp only [frz, Option.map_eq_some_iff] at e
        obtain ⟨l, e, rfl⟩ := e
        obtain ⟨A, k, rfl, hk, hh⟩ := hv
        refine ⟨A, k, rfl, by omega, hh.imp (fun ⟨a, b⟩ => ⟨a, ?_⟩) fun ⟨b, o, a1, a2⟩ => ⟨b, o, a1, i2 (by simpa [ripe] using hr) e a2⟩⟩
        subst b
        cases d with
        | zero => simp [frzs] at e
        | succ d => simp [frzs] at e; exact e
      | _ => simp [ripe] at hr
    · cases l with
      | nil => simp [frzs] at e; subst e; trivial
      | cons v r =>
        simp only [frzs, Option.bind_eq_some_iff] at e
        obtain ⟨x, e1, l', e2, e3⟩ := e
        cases e3
        rw [ripes, Bool.and_eq_true] at hr
        obtain ⟨⟨x', h1, h2, h3⟩, h4⟩ := hv
        exact ⟨⟨x', h1, i1 hr.1 e1 h3⟩, i2 hr.2 e2 h4⟩
theorem frzArgs_flat {η η' : Et} {ro : Ro} {h : H} : ∀ {l m : List V} {cs : List Value}, l.all ripe = true → frzArgs h l = some m → VRels η ro l cs → VRels η' ro m cs
  | [], m, [], _, e, _ => by cases e; trivial
  | v :: l, m, c :: cs, hf, e, hv => by
    simp only [frzArgs, Option.bind_eq_some_iff] at e
    obtain ⟨x, h1, m', h2, h3⟩ := e
    cases h3
    rw [List.all_cons, Bool.and_eq_true] at hf
    refine ⟨?_, frzArgs_flat hf.2 h2 hv.2⟩
    have hv1 := hv.1
    have hf1 := hf.1
    unfold frzArg at h1
    split at h1
    · rename_i ws
      simp only [Option.map_eq_some_iff] at h1
      obtain ⟨k, h4, rfl⟩ := h1
      obtain ⟨cvs, h5, h6, h7⟩ := hv1
      obtain ⟨hlen, hget⟩ := frzs_get h4
      refine ⟨cvs, h5, VRels.mk (by simp [hlen, h6.len]) fun j y hy => ?_, h7⟩
      rw [List.getElem?_map, Option.map_eq_some_iff] at hy
      obtain ⟨y', hy, rfl⟩ := hy
      obtain ⟨v', d', a1, a2, a3⟩ := hget j y' hy
      obtain ⟨z, b1, b2⟩ := h6.get a2
      exact ⟨z, b1, (frz_ripe d').1 (ripes_mem (by simpa [ripe] using hf1) (List.mem_of_getElem? a2)) a3 b2⟩
    · simp only [Option.map_eq_some_iff] at h1
      obtain ⟨k, h4, rfl⟩ := h1
      exact (frz_ripe deep).1 hf1 h4 hv1
  | [], _, _ :: _, _, _, h => h.elim
  | _ :: _, _, [], _, _, h => h.elim

theorem dead_rel {η : Et} {ro : Ro} {h : H} {w : World} (r : Rel η ro h w) : Rel η ro (h.map fun _ => .dead) w := by
  have no : ∀ k b, ¬ Has η (h.map fun _ => .dead) k b := by
    rintro k b ⟨st, sz, o, h1, h2, h3⟩
    rw [List.getElem?_map, Option.map_eq_some_iff] at h2
    obtain ⟨o', _, rfl⟩ := h2
    cases h3
  refine ⟨r.cells, fun k p hk => ?_, fun k k' b h1 => absurd h1 (no k b), fun k b h1 => absurd h1 (no k b), r.glob⟩
  exact ⟨.dead, by rw [List.getElem?_map, List.getElem?_eq_getElem (r.lt hk)]; rfl, trivial⟩
theorem only_get (gv tk : List Nat) : ∀ (i : Nat) (h : H) (j : Nat), (only gv tk i h)[j]? = (h[j]?).map fun o => if gv.contains (i + j) && !tk.contains (i + j) then o else .dead
  | _, [], _ => by simp [only]
  | i, o :: h, 0 => by simp [only]
  | i, o :: h, j + 1 => by
    unfold only
    rw [List.getElem?_cons_succ, List.getElem?_cons_succ, only_get gv tk (i + 1) h j, show i + 1 + j = i + (j + 1) by omega]
theorem has_only {η : Et} {h : H} {gv tk : List Nat} {k b : Nat} (hh : Has η (only gv tk 0 h) k b) : Has η h k b ∧ k ∈ gv ∧ k ∉ tk := by
  obtain ⟨st, sz, o, h1, h2, h3⟩ := hh
  rw [only_get, Option.map_eq_some_iff] at h2
  obtain ⟨o', h4, h5⟩ := h2
  rw [Nat.zero_add] at h5
  by_cases hc : (gv.contains k && !tk.contains k) = true
  · rw [if_pos hc] at h5
    subst h5
    rw [Bool.and_eq_true] at hc
    exact ⟨⟨st, sz, o', h1, h4, h3⟩, List.contains_iff_mem.1 hc.1, fun hm => by have := List.contains_iff_mem.2 hm; rw [this] at hc; cases hc.2⟩
  · rw [if_neg hc] at h5
    subst h5; cases h3
theorem only_rel {η : Et} {ro : Ro} {h : H} {w : World} (r : Rel η ro h w) (gv tk : List Nat) : Rel η ro (only gv tk 0 h) w := by
  refine ⟨r.cells, fun k p hk => ?_, fun k k' b h1 h2 => r.own k k' b (has_only h1).1 (has_only h2).1, fun k b h1 => r.roOwn k b (has_only h1).1, r.glob⟩
  obtain ⟨o, h1, h2⟩ := r.obj k p hk
  refine ⟨_, by rw [only_get, h1]; rfl, ?_⟩
  split
  · exact h2
  · trivial
theorem dead_no {η : Et} {h : H} (k b : Nat) : ¬ Has η (h.map fun _ => .dead) k b := by
  rintro ⟨st, sz, o, h1, h2, h3⟩
  rw [List.getElem?_map, Option.map_eq_some_iff] at h2
  obtain ⟨o', _, rfl⟩ := h2
  cases h3
theorem dead_ro {η : Et} {ro : Ro} {h : H} {w : World} : roAll η (h.map fun _ => .dead) w ro = ro := by
  funext b o
  exact roAll_ne fun ⟨k, hh⟩ => dead_no k b hh

section
variable {P : Program} {fn : Func} {Q : Exit → Act → World → Prop}
theorem an_own {a : Fann} {sh rs : List Sh} {zp zr : List Value} (hp : a.pol = .own sh rs zp zr) (pin : Bool) : ∀ p l, a.an pin p = some l → pin = true → isRaw l = true ∨ headPin l = true := by
  intro p l h1 h2
  subst h2
  simp only [Fann.an, hp, Option.bind_eq_some_iff] at h1
  obtain ⟨l', _, h3⟩ := h1
  simp only [if_true] at h3
  split at h3
  · rename_i hc
    cases h3
    rcases (Bool.or_eq_true_iff.1 hc) with hc | hc
    · exact .inl hc
    · exact .inr hc
  · cases h3
end

/-! ### a function that defers -/
theorem upd_eq (fr : Fr) (d : Nat) (v : V) : upd fr d v = put fr (some d) v := rfl
theorem hdl_ok {w0 : World0} {call : CallF} {L : LF} (hc : CallSim w0.P call) (hp : CallPol w0.po call) (hL : LoopSim w0.P L) {g : FuncId} {caps : List V} {cvs : Array Value} {x : Value} {u : FrameMode}
    (hu : (u = .returning ∧ x = .nilIface) ∨ (u = .panicking [{ v := x, recovered := false }] ∧ ∃ t y, x = .iface t y)) {k : H → R} {out : Out × H} {h : H} {η : Et} {ro : Ro} {w : World}
    (e : hdl w0.P w0.an w0.po call L g caps x h k = some out) (hcap : VRels η ro caps cvs.toList) (r : Rel η ro h w) {fn : Func} {tmps : Array Value} {R : Ending → World → Prop}
    (hk : ∀ {h' η' ro' w'}, k h' = some out → Rel η' ro' h' w' → Stp η ro h w η' ro' h' w' → ∃ v, (results fn tmps).run w0.P w' = .ok v w' ∧ R (.returned v) w') :
    Leaves w0.P fn tmps R [{ target := .fn (.func g) cvs, args := #[] }] u w := by
  unfold hdl at e
  split at e
  · cases e
  rename_i fg d cg hq
  split at e
  rotate_left
  · cases e
  rename_i hpol
  split at e
  rotate_left
  · cases e
  rename_i hcond
  obtain ⟨hle, hd, hres⟩ := hcond
  unfold hdlOf at hq
  rw [Option.bind_eq_some_iff] at hq
  obtain ⟨fg', hf, hq⟩ := hq
  split at hq
  rotate_left
  · cases hq
  rename_i id ops rest hb
  split at hq
  rotate_left
  · cases hq
  rename_i d' bargs bts ty pos after hops
  split at hq
  rotate_left
  · cases hq
  rename_i hb2
  cases hq
  obtain ⟨hba, hname⟩ := hb2
  have hops' : ops = #[⟨some d, .call ⟨.builtin .recover, bargs, bts⟩, ty, pos, after, none⟩] := by rw [← Array.toArray_toList (xs := ops), hops]
  subst hops'
  have hba' : bargs = #[] := Array.eq_empty_of_size_eq_zero hba
  subst hba'
  have hinv : (invoke (.fn (.func g) cvs) #[]).run w0.P w = .ok (.enter g cvs) w := by
    have h1 : (callFunc g (#[] ++ cvs)).run w0.P w = .ok (.enter g (#[] ++ cvs)) w := by
      simp [callFunc, hf, hb]
      intro hq; rw [hq] at hname; simp at hname
    simpa [invoke] using h1
  refine leaves_cons (f := g) (args := cvs) (by rcases hu with ⟨rfl, _⟩ | ⟨rfl, _⟩ <;> simp) hinv ?_
  refine callsD_of_wpS hf hb fun c₀ cs hm => ?_
  -- behind recover
  have main : ∀ (cs' : List Frame) (u' : FrameMode), cs' = { c₀ with mode := u' } :: cs → settle u' = .returning →
      cg.wpS w0.P (bodyPostS w0.P fg c₀ cs fun
        | .returned _, u', w' => Leaves w0.P fn tmps R [] (settle u') w'
        | .panicked chain, u', w' => Leaves w0.P fn tmps R [] (raised u' chain) w'
        | .outgrown, _, w' => R .outgrown w') (Act.put { tmps := cvs ++ Array.replicate (fg.ntmps - cvs.size) undef, defers := [] } (some d) x) cs' w := by
    intro cs' u' hcs hset
    refine wpS_of_wp ?_
    have hcut : CutOk fg.ntmps [] ((w0.an g).an false) (Stp η ro h w) := Stp.cutOk _ (fun p l hpl => by
      simp only [Fann.an, hpol, Option.bind_eq_some_iff] at hpl
      obtain ⟨l', _, h2⟩ := hpl
      split at h2
      · cases h2; assumption
      · cases h2) η ro h w
    have hx : VRel η ro (.f (.s x)) x := by rcases hu with ⟨_, rfl⟩ | ⟨_, t, y, rfl⟩ <;> exact ⟨rfl, rfl⟩
    have f0 := (entry_ok r.glob hcap hle).put (d := some d) (by simpa [okDst] using hd) (Et.le_refl _) (Ro.le_refl _) hx
    refine code_ok (ds := []) (cx := { P := w0.P, N := fg.ntmps, an := (w0.an g).an false, lit := (w0.an g).lit, call, L, po := w0.po }) hc hp hL (Stp.keeps η ro h w) hcut cg ?_ e f0 r (Stp.refl η ro h w)
    have fin : ∀ {h1 η1 ro1} {a : Act} {w1}, k h1 = some out → a.defers = [] → Rel η1 ro1 h1 w1 → Stp η ro h w η1 ro1 h1 w1 → a.defers = [] ∧ ∃ u', cs' = { c₀ with mode := u' } :: cs ∧ ∃ v, (results fg a.tmps).run w0.P w1 = .ok v w1 ∧ Leaves w0.P fn tmps R [] (settle u') w1 := by
      intro h1 η1 ro1 a w1 e1 hda r1 s1
      refine ⟨hda, u', hcs, .tuple #[], ?_, ?_⟩
      · have : fg.results = #[] := Array.eq_empty_of_size_eq_zero hres
        simp [results, this]
      · rw [hset]
        exact hk e1 r1 s1
    refine ⟨fun e f r s => fin e f.defers r s, fun e f r s => fin e f.defers r s, fun {_ _ _ _ _ _ _} e _ _ _ => (by cases e), fun {_ _ _ _ _ _ _ _} e _ _ _ _ => (by cases e)⟩
  apply wpS_seq
  apply wpS_region
  have hr : ∀ (a : Act), (execOp a.eval ⟨some d, .call ⟨.builtin .recover, #[], bts⟩, ty, pos, after, none⟩).run w0.P w = .ok .recover w := fun a => rfl
  simp only [List.size_toArray, List.length_cons, List.length_nil, Nat.zero_add, List.range_succ, List.range_zero, List.nil_append, wpOpsS, List.getElem?_toArray, List.getElem?_cons_zero, Region.wanted, if_true, hr]
  rcases hu with ⟨rfl, rfl⟩ | ⟨rfl, t, y, rfl⟩
  · have hrec : recoverD (c₀ :: cs) = none := by simp [recoverD, hm]
    rw [hrec]
    exact main (c₀ :: cs) .returning (by rw [← hm]) rfl
  · have hrec : recoverD (c₀ :: cs) = some (.iface t y, { c₀ with mode := .panicking [{ v := .iface t y, recovered := true }] } :: cs) := by simp [recoverD, hm]
    rw [hrec]
    exact main _ (.panicking [{ v := .iface t y, recovered := true }]) rfl rfl
theorem dfr_ok {w0 : World0} {call : CallF} {L : LF} (hc : CallSim w0.P call) (hp : CallPol w0.po call) (hL : LoopSim w0.P L) {f : FuncId} {fn : Func} {c r0 rest : Code} {g : FuncId} {caps : Array Operand} {d : Nat}
    (hf : w0.P.funcs[f]? = some fn) (hb : fn.body = some c) (hpol : (w0.an f).pol = .keep) (hq : dfrOf c = some (r0, g, caps, d, rest)) {args : List V} {cargs : Array Value} {h h' : H} {η : Et} {ro : Ro} {w : World} {o : Out}
    (hargs : VRels η ro args cargs.toList) (hle : args.length ≤ fn.ntmps) (r : Rel η ro h w)
    (e : keepF w0.P w0.an w0.po call L f fn c args h = some (o, h')) : Calls w0.P f cargs w (After η ro h w o h') := by
  unfold keepF at e
  rw [hq] at e
  dsimp only at e
  refine calls_of_wp_defers hf hb ?_
  have hcut : ∀ ds, CutOk fn.ntmps ds ((w0.an f).an false) (Stp η ro h w) := fun ds => Stp.cutOk _ (fun p l hpl => by
    simp only [Fann.an, hpol, Option.bind_eq_some_iff] at hpl
    obtain ⟨l', _, h2⟩ := hpl
    split at h2
    · cases h2; assumption
    · cases h2) η ro h w
  unfold dfrOf at hq
  split at hq
  rotate_left
  · cases hq
  rename_i r0' id ops rest'
  split at hq
  rotate_left
  · cases hq
  rename_i d1 g1 first caps1 ty1 pos1 af1 d2 dargs ats ty2 pos2 af2 hops
  split at hq
  rotate_left
  · cases hq
  rename_i hcond
  cases hq
  obtain ⟨hfirst, hda, hdd⟩ := hcond
  subst hdd
  have hfirst' : first = #[] := Array.eq_empty_of_size_eq_zero hfirst
  have hda' : dargs = #[] := Array.eq_empty_of_size_eq_zero hda
  subst hfirst' hda'
  have hops' : ops = #[⟨some d2, .makeFunc (.func g) #[] caps, ty1, pos1, af1, none⟩, ⟨none, .defer ⟨.value (.tmp d2), #[], ats⟩, ty2, pos2, af2, none⟩] := by rw [← Array.toArray_toList (xs := ops), hops]
  subst hops'
  refine wp_seq (code_ok (ds := []) (cx := { P := w0.P, N := fn.ntmps, an := (w0.an f).an false, lit := (w0.an f).lit, call, L, po := w0.po }) hc hp hL (Stp.keeps η ro h w) (hcut []) r0 ?_ e (entry_ok r.glob hargs hle) r (Stp.refl η ro h w))
  refine ⟨fun {fr1 h1 η1 ro1 a0 w1} e1 f1 r1 s1 => ?_, fun {_ _ _ _ _ _} e _ _ _ => (by cases e), fun {_ _ _ _ _ _ _} e _ _ _ => (by cases e), fun {_ _ _ _ _ _ _ _} e _ _ _ _ => (by cases e)⟩
  dsimp only at e1
  split at e1
  rotate_left
  · cases e1
  rename_i hd
  have hcap : VRels η1 ro1 (caps.toList.map (Cx.ev { P := w0.P, N := fn.ntmps, an := (w0.an f).an false, lit := (w0.an f).lit, call, L, po := w0.po } fr1)) (caps.map a0.eval).toList := by
    simp only [Array.toList_map]; exact f1.evs caps.toList
  have hm : (execOp a0.eval ⟨some d2, .makeFunc (.func g) #[] caps, ty1, pos1, af1, none⟩).run w0.P w1 = .ok (.value (.func (.func g) #[] (caps.map a0.eval))) w1 := by simp [execOp, Instr.makeFunc]
  let a1 : Act := a0.put (some d2) (.func (.func g) #[] (caps.map a0.eval))
  have hev : a1.eval (.tmp d2) = .func (.func g) #[] (caps.map a0.eval) := by
    simp [a1, Act.put, Act.eval, Array.getD, f1.size, hd]
  have hde : (execOp a1.eval ⟨none, .defer ⟨.value (.tmp d2), #[], ats⟩, ty2, pos2, af2, none⟩).run w0.P w1 = .ok (.defer { target := .fn (.func g) (caps.map a0.eval), args := #[] }) w1 := by
    simp [execOp, resolve, hev, Deferred.ofValue]
  have f2 : FrRel fn.ntmps [{ target := .fn (.func g) (caps.map a0.eval), args := #[] }] η1 ro1 (upd fr1 d2 (.fn g (caps.toList.map (Cx.ev { P := w0.P, N := fn.ntmps, an := (w0.an f).an false, lit := (w0.an f).lit, call, L, po := w0.po } fr1)))) { a1 with defers := [{ target := .fn (.func g) (caps.map a0.eval), args := #[] }] } := by
    have f3 := f1.put (d := some d2) (by simpa [okDst] using hd) (Et.le_refl _) (Ro.le_refl _) (show VRel η1 ro1 (.fn g (caps.toList.map (Cx.ev { P := w0.P, N := fn.ntmps, an := (w0.an f).an false, lit := (w0.an f).lit, call, L, po := w0.po } fr1))) (.func (.func g) #[] (caps.map a0.eval)) from ⟨_, rfl, hcap⟩)
    exact ⟨f3.size, f3.at_, rfl, f3.glob⟩
  have hcut1 : CutOk fn.ntmps [{ target := .fn (.func g) (caps.map a0.eval), args := #[] }] ((w0.an f).an false) (Stp η1 ro1 h1 w1) := Stp.cutOk _ (fun p l hpl => by
    simp only [Fann.an, hpol, Option.bind_eq_some_iff] at hpl
    obtain ⟨l', _, h2⟩ := hpl
    split at h2
    · cases h2; assumption
    · cases h2) η1 ro1 h1 w1
  have fin : ∀ {fr h2 η2 ro2 w2} {a : Act} {x : Value} {u : FrameMode}, ((u = .returning ∧ x = .nilIface) ∨ (u = .panicking [{ v := x, recovered := false }] ∧ ∃ t y, x = .iface t y)) →
      hdl w0.P w0.an w0.po call L g (caps.toList.map (Cx.ev { P := w0.P, N := fn.ntmps, an := (w0.an f).an false, lit := (w0.an f).lit, call, L, po := w0.po } fr1)) x h2 (fun h => finH w0.P fn .ret fr h) = some (o, h') →
      FrRel fn.ntmps [{ target := .fn (.func g) (caps.map a0.eval), args := #[] }] η2 ro2 fr a → Rel η2 ro2 h2 w2 → Stp η1 ro1 h1 w1 η2 ro2 h2 w2 → Leaves w0.P fn a.tmps (After η ro h w o h') a.defers u w2 := by
    intro fr h2 η2 ro2 w2 a x u hu e2 f2 r2 s2
    rw [f2.defers]
    refine hdl_ok hc hp hL hu e2 (VRels.mono (s2.le r1) s2.rol _ _ hcap) r2 ?_
    intro h3 η3 ro3 w3 e3 r3 s3
    simp only [finH] at e3
    obtain ⟨v, cv, q2, q3, q4⟩ := results_ok r3 (f2.mono (s3.le r2) s3.rol) e3
    cases q4
    exact ⟨cv, q2, η3, ro3, r3, (s1.trans s2).trans s3, cv, rfl, q3⟩
  have hrest : rest.wp w0.P (bodyPostD w0.P fn (After η ro h w o h')) { a1 with defers := [{ target := .fn (.func g) (caps.map a0.eval), args := #[] }] } w1 := by
    refine code_ok (ds := [{ target := .fn (.func g) (caps.map a0.eval), args := #[] }]) (cx := { P := w0.P, N := fn.ntmps, an := (w0.an f).an false, lit := (w0.an f).lit, call, L, po := w0.po }) hc hp hL (Stp.keeps η1 ro1 h1 w1) hcut1 rest ?_ e1 f2 r1 (Stp.refl _ _ _ _)
    refine ⟨fun e f r s => fin (.inl ⟨rfl, rfl⟩) e f r s, fun e f r s => fin (.inl ⟨rfl, rfl⟩) e f r s, fun {_ _ _ _ _ _ _} e _ _ _ => (by cases e), fun {v fr h2 η2 ro2 w2 a cv} e f r s hv => ?_⟩
    unfold dfrK at e
    split at e
    · rename_i q; cases q
    · rename_i q; cases q
    · rename_i t y q
      cases q
      have : cv = .iface t y := rel_s hv
      subst this
      exact fin (.inr ⟨rfl, t, y, rfl⟩) e f r s
    · cases e
  show (Code.seq (.region id #[⟨some d2, .makeFunc (.func g) #[] caps, ty1, pos1, af1, none⟩, ⟨none, .defer ⟨.value (.tmp d2), #[], ats⟩, ty2, pos2, af2, none⟩] false) rest).wp w0.P _ a0 w1
  refine wp_seq (wp_region ?_)
  simp only [List.size_toArray, List.length_cons, List.length_nil, Nat.zero_add, List.range_succ, List.range_zero, List.nil_append, List.cons_append, wpOps, List.getElem?_toArray, List.getElem?_cons_zero, List.getElem?_cons_succ, Region.wanted, if_true]
  left
  unfold Oper.wp
  rw [hm, Oper.upon_value]
  left
  show Oper.upon w0.P _ a1 _ _ ((execOp a1.eval _).run w0.P w1)
  rw [hde, Oper.upon_defer]
  have had : a1.defers = [] := f1.defers
  rw [had]
  exact hrest
theorem runF_ok {w0 : World0} (hx : ExtSim w0) {call : CallF} {L : LF} (hc : CallSim w0.P call) (hp : CallPol w0.po call) (hL : LoopSim w0.P L) : CallSim w0.P (runF w0.P w0.an w0.po w0.ext call L) := by
  intro f args cargs h η ro w o h' r hargs e
  unfold runF at e
  split at e
  · rename_i e' hext
    exact hx f e' hext args cargs h η ro w o h' r hargs e
  · split at e
    · cases e
    · rename_i fn hf
      split at e
      · cases e
      · rename_i c hb
        split at e
        · cases e
        · rename_i hname
          split at e
          rotate_left
          · cases e
          rename_i hle
          by_cases hdf : (w0.an f).pol = .keep ∧ (dfrOf c).isSome = true
          · obtain ⟨hpol, hq⟩ := hdf
            obtain ⟨⟨r0, g, caps, d, rest⟩, hq⟩ := Option.isSome_iff_exists.1 hq
            simp only [hpol] at e
            exact ⟨⟨fn, hf, by simpa using hname, by rw [hb]; rfl⟩, dfr_ok hc hp hL hf hb hpol hq hargs hle r e⟩
          refine ⟨⟨fn, hf, by simpa using hname, by rw [hb]; rfl⟩, calls_of_wp hf hb ?_⟩
          dsimp only at e
          split at e
          · rename_i hpol
            have hno : dfrOf c = none := by
              cases hq : dfrOf c with
              | none => rfl
              | some q => exact absurd ⟨hpol, by rw [hq]; rfl⟩ hdf
            unfold keepF at e
            rw [hno] at e
            dsimp only at e
            refine code_ok (cx := { P := w0.P, N := fn.ntmps, an := (w0.an f).an false, lit := (w0.an f).lit, call, L, po := w0.po }) hc hp hL (Stp.keeps η ro h w)
              (Stp.cutOk _ (fun p l hpl => ?_) η ro h w) c ?_ e (entry_ok r.glob hargs hle) r (Stp.refl η ro h w)
            · simp only [Fann.an, hpol, Option.bind_eq_some_iff] at hpl
              obtain ⟨l', _, h2⟩ := hpl
              split at h2
              · cases h2; assumption
              · cases h2
            · have fin : ∀ {fr h1 η1 ro1 a w1}, resV w0.P fr h1 (fun v => some (Out.ret v, h1)) fn.results.toList [] = some (o, h') → FrRel fn.ntmps [] η1 ro1 fr a → Rel η1 ro1 h1 w1 → Stp η ro h w η1 ro1 h1 w1 →
                  a.defers = [] ∧ ∃ v, (results fn a.tmps).run w0.P w1 = .ok v w1 ∧ After η ro h w o h' (.returned v) w1 := by
                intro fr h1 η1 ro1 a w1 e f r s
                obtain ⟨v, cv, h2, h3, h4⟩ := results_ok r f e
                cases h4
                exact ⟨f.defers, cv, h2, η1, ro1, r, s, cv, rfl, h3⟩
              refine ⟨fun e f r s => fin e f r s, fun e f r s => fin e f r s, fun e f r s => by simp [finH] at e, fun e d r s hv => ?_⟩
              simp only [finH] at e
              cases e
              exact ⟨d.defers, _, _, r, s, _, rfl, hv⟩
          · rename_i hpol
            rw [frzArgsK_eq, Option.bind_eq_some_iff] at e
            obtain ⟨args', hfz, e⟩ := e
            obtain ⟨x0, g0, e', rfl, eh, hsx⟩ : ∃ x g, code { P := w0.P, N := fn.ntmps, an := (w0.an f).an false, lit := (w0.an f).lit, call, L, po := w0.po } c 1 (finP w0.P fn) (entry args') [] = some (.ret x, g) ∧ o = .ret x ∧ h' = h ∧ (args.all ripe || scal x) = true := by
              unfold withH at e
              split at e
              · rename_i v g hq
                split at e
                · rename_i hs
                  cases e
                  exact ⟨v, g, hq, rfl, rfl, hs⟩
                · cases e
              · cases e
            subst h'
            replace e := e'
            clear e'
            -- inside: what is outside is read alone
            have none_rel : ∀ {R : Ro}, (∀ b o v, R b o = some v → w.cell? ⟨b, o, none⟩ = some v) → ro.le R → Rel (fun _ => none) R [] w := by
              intro R hR hle
              refine ⟨hR, fun k p hk => (by cases hk), ?_, ?_, r.glob.mono hle⟩
              · rintro k k' b ⟨_, _, _, h1, _⟩; cases h1
              · rintro k b ⟨_, _, _, h1, _⟩; cases h1
            have none_own : ∀ b, ¬ Owned (fun _ => none) [] b := by rintro b ⟨k, _, _, _, h1, _⟩; cases h1
            obtain ⟨R0, hro, r0, hargs', hwhen⟩ : ∃ R0 : Ro, ro.le R0 ∧ Rel (fun _ => none) R0 [] w ∧ VRels (fun _ => none) R0 args' cargs.toList ∧ (args.all ripe = true → R0 = ro) := by
              by_cases hfl : args.all ripe = true
              · exact ⟨ro, Ro.le_refl _, none_rel r.cells (Ro.le_refl _), frzArgs_flat hfl hfz hargs, fun _ => rfl⟩
              · exact ⟨roAll η h w ro, roAll_le r, none_rel (fun b o v hv => roAll_cells r hv) (roAll_le r), (frzArgs_ok r hfz hargs).1, fun hh => absurd hh hfl⟩
            have i0 : Fin (fun _ => none) R0 [] w false (fun _ => none) R0 [] w :=
              ⟨Nat.le_refl _, fun _ _ _ => rfl, fun b _ hb => absurd hb (none_own b), rfl, rfl, rfl, Ro.le_refl _, fun _ _ _ _ => rfl, fun hp => (by cases hp), fun b hl => absurd hl.owned (none_own b), fun b hl => absurd hl.owned (none_own b)⟩
            have hlen' : args'.length ≤ fn.ntmps := by
              have h1 := hargs.len; have h2 := hargs'.len; omega
            -- the way back
            have back : ∀ {η1 ro1 h1 w1 v x cv}, Fin (fun _ => none) R0 [] w false η1 ro1 h1 w1 → Rel η1 ro1 h1 w1 → VRel η1 ro1 v cv → frzRes h1 v = some x → (args.all ripe || scal x) = true → After η ro h w (.ret x) h (.returned cv) w1 := by
              intro η1 ro1 h1 w1 v x cv i r1 hv hx hs
              have keep : ∀ b, b < w.heap.size → w1.heap[b]? = w.heap[b]? := fun b hb => i.keep b hb (none_own b)
              have stp : ∀ {ro2 : Ro}, ro.le ro2 → (∀ b, b < w.heap.size → ∀ o, ro2 b o = ro b o) → Stp η ro h w η ro2 h w1 := fun hl hk =>
                ⟨i.size, fun b hb _ => keep b hb, fun _ _ h => h, i.os, i.tape, i.output, Nat.le_refl _, fun _ _ => rfl, hl, fun b hb _ => hk b hb, fun k cs hc => ⟨hc, fun b st sz e => have hb := r.block_lt ⟨k, st, sz, _, e, hc, rfl⟩; ⟨keep b hb, hk b hb⟩⟩⟩
              have rw1 : Rel η ro h w1 := r.world (fun b o v hv => keep b (r.ro_lt hv)) (fun b ho => keep b (r.block_lt ho))
              have hfx : VRel η (roAll η1 h1 w1 ro1) x cv := frzRes_ok r1 hx hv
              by_cases hsc : scal x = true
              · exact ⟨η, ro, rw1, stp (Ro.le_refl _) fun _ _ _ => rfl, cv, rfl, scal_ok hsc hfx⟩
              · -- nothing of the outside was frozen
                have hfl : args.all ripe = true := by
                  simp only [hsc, Bool.or_false] at hs; exact hs
                have hR := hwhen hfl
                have old : ∀ b, b < w.heap.size → ∀ o, roAll η1 h1 w1 ro1 b o = ro b o := fun b hb o => by
                  rw [roAll_ne (fun ho => none_own b (i.owns b hb ho)), i.rok b hb (none_own b) o, hR]
                have hle : ro.le (roAll η1 h1 w1 ro1) := hro.trans (i.rol.trans (roAll_le r1))
                refine ⟨η, roAll η1 h1 w1 ro1, rw1.grow hle (fun b o v hv => roAll_cells r1 hv) (fun k b hh o => ?_), stp hle fun b hb o => old b hb o, cv, rfl, hfx⟩
                rw [old b (r.block_lt ⟨k, hh⟩) o]; exact r.roOwn k b hh o
            have fin : ∀ {fr h1 η1 ro1 a w1}, (resV w0.P fr h1 (fun v => frzResK h1 v fun v => some (Out.ret v, [])) fn.results.toList [] = some (Out.ret x0, g0)) → FrRel fn.ntmps [] η1 ro1 fr a → Rel η1 ro1 h1 w1 → Fin (fun _ => none) R0 [] w false η1 ro1 h1 w1 →
                a.defers = [] ∧ ∃ v, (results fn a.tmps).run w0.P w1 = .ok v w1 ∧ After η ro h w (.ret x0) h (.returned v) w1 := by
              intro fr h1 η1 ro1 a w1 e f r1 i
              obtain ⟨v, cv, h2, h3, h4⟩ := results_ok r1 f e
              rw [frzResK_eq, Option.bind_eq_some_iff] at h4
              obtain ⟨x, h5, h6⟩ := h4
              cases h6
              exact ⟨f.defers, cv, h2, back i r1 h3 h5 hsx⟩
            refine code_ok (cx := { P := w0.P, N := fn.ntmps, an := (w0.an f).an false, lit := (w0.an f).lit, call, L, po := w0.po }) hc hp hL (Fin.keeps _ _ _ w false) (Fin.cutOk _ _ _ _ w fun _ _ _ hp => by cases hp) c ?_ e (entry_ok r0.glob hargs' hlen') r0 i0
            refine ⟨fun e f r s => fin e f r s, fun e f r s => fin e f r s, fun e f r s => by simp [finP] at e, fun e d r s hv => by simp [finP] at e⟩
          · rename_i hpol
            rw [frzArgsK_eq, Option.bind_eq_some_iff] at e
            obtain ⟨args', hfz, e⟩ := e
            obtain ⟨x0, g0, e', rfl, eh⟩ : ∃ x g, code { P := w0.P, N := fn.ntmps, an := (w0.an f).an false, lit := (w0.an f).lit, call, L, po := w0.po } c 1 (finP w0.P fn) (entry args') [] = some (.ret x, g) ∧ o = .ret x ∧ h' = (if args.all ripe = true then h else deadAll h) := by
              unfold withG at e
              split at e
              · rename_i v g hq
                split at e
                · rename_i hs
                  cases e
                  exact ⟨v, g, hq, rfl, by rw [if_pos hs]⟩
                · rename_i hs
                  cases e
                  exact ⟨v, g, hq, rfl, by rw [if_neg hs]⟩
              · cases e
            subst h'
            replace e := e'
            clear e'
            -- inside: what is outside is read alone
            have none_rel : ∀ {R : Ro}, (∀ b o v, R b o = some v → w.cell? ⟨b, o, none⟩ = some v) → ro.le R → Rel (fun _ => none) R [] w := by
              intro R hR hle
              refine ⟨hR, fun k p hk => (by cases hk), ?_, ?_, r.glob.mono hle⟩
              · rintro k k' b ⟨_, _, _, h1, _⟩; cases h1
              · rintro k b ⟨_, _, _, h1, _⟩; cases h1
            have none_own : ∀ b, ¬ Owned (fun _ => none) [] b := by rintro b ⟨k, _, _, _, h1, _⟩; cases h1
            obtain ⟨R0, hro, r0, hargs', hwhen, hwhen2⟩ : ∃ R0 : Ro, ro.le R0 ∧ Rel (fun _ => none) R0 [] w ∧ VRels (fun _ => none) R0 args' cargs.toList ∧ (args.all ripe = true → R0 = ro) ∧ ∀ b, ¬ Owned η (noLent h) b → ∀ o, R0 b o = ro b o := by
              by_cases hfl : args.all ripe = true
              · exact ⟨ro, Ro.le_refl _, none_rel r.cells (Ro.le_refl _), frzArgs_flat hfl hfz hargs, fun _ => rfl, fun _ _ _ => rfl⟩
              · rw [if_neg hfl] at hfz
                exact ⟨roAll η (noLent h) w ro, roAll_le r.noLent, none_rel (fun b o v hv => roAll_cells r.noLent hv) (roAll_le r.noLent), (frzArgs_ok r.noLent hfz hargs).1, fun hh => absurd hh hfl, fun b hb o => roAll_ne hb⟩
            have i0 : Fin (fun _ => none) R0 [] w false (fun _ => none) R0 [] w :=
              ⟨Nat.le_refl _, fun _ _ _ => rfl, fun b _ hb => absurd hb (none_own b), rfl, rfl, rfl, Ro.le_refl _, fun _ _ _ _ => rfl, fun hp => (by cases hp), fun b hl => absurd hl.owned (none_own b), fun b hl => absurd hl.owned (none_own b)⟩
            have hlen' : args'.length ≤ fn.ntmps := by
              have h1 := hargs.len; have h2 := hargs'.len; omega
            -- the way back
            have back : ∀ {η1 ro1 h1 w1 v x cv}, Fin (fun _ => none) R0 [] w false η1 ro1 h1 w1 → Rel η1 ro1 h1 w1 → VRel η1 ro1 v cv → frzRes h1 v = some x → After η ro h w (.ret x) (if args.all ripe = true then h else deadAll h) (.returned cv) w1 := by
              intro η1 ro1 h1 w1 v x cv i r1 hv hx
              have keep : ∀ b, b < w.heap.size → w1.heap[b]? = w.heap[b]? := fun b hb => i.keep b hb (none_own b)
              have rw1 : Rel η ro h w1 := r.world (fun b o v hv => keep b (r.ro_lt hv)) (fun b ho => keep b (r.block_lt ho))
              have hfx : VRel η (roAll η1 h1 w1 ro1) x cv := frzRes_ok r1 hx hv
              have old0 : ∀ b, b < w.heap.size → ∀ o, roAll η1 h1 w1 ro1 b o = R0 b o := fun b hb o => by
                rw [roAll_ne (fun ho => none_own b (i.owns b hb ho)), i.rok b hb (none_own b) o]
              have hle : ro.le (roAll η1 h1 w1 ro1) := hro.trans (i.rol.trans (roAll_le r1))
              by_cases hfl : args.all ripe = true
              · rw [if_pos hfl]
                have old : ∀ b, b < w.heap.size → ∀ o, roAll η1 h1 w1 ro1 b o = ro b o := fun b hb o => by rw [old0 b hb o, hwhen hfl]
                refine ⟨η, roAll η1 h1 w1 ro1, rw1.grow hle (fun b o v hv => roAll_cells r1 hv) (fun k b hh o => ?_), ⟨i.size, fun b hb _ => keep b hb, fun _ _ h => h, i.os, i.tape, i.output, Nat.le_refl _, fun _ _ => rfl, hle, fun b hb _ => old b hb, fun k cs hc => ⟨hc, fun b st sz e => have hb := r.block_lt ⟨k, st, sz, _, e, hc, rfl⟩; ⟨keep b hb, old b hb⟩⟩⟩, cv, rfl, hfx⟩
                rw [old b (r.block_lt ⟨k, hh⟩) o]; exact r.roOwn k b hh o
              · rw [if_neg hfl]
                have lentNo : ∀ k cs b, h[k]? = some (.lent cs) → Has η h k b → ¬ Owned η (noLent h) b := by
                  rintro k cs b hk hh ⟨k', hh'⟩
                  obtain ⟨q1, q2⟩ := has_noLent hh'
                  have := r.own k k' b hh q1
                  subst this
                  exact q2 cs hk
                refine ⟨η, roAll η1 h1 w1 ro1, rw1.deadAll.grow hle (fun b o v hv => roAll_cells r1 hv) (fun k b hh o => ?_), ⟨i.size, fun b hb _ => keep b hb, ?_, i.os, i.tape, i.output, by rw [deadAll_len]; exact Nat.le_refl _, fun _ _ => rfl, hle, fun b hb hn o => ?_, fun k cs hc => ⟨by rw [deadAll_get, hc]; rfl, fun b st sz e => ?_⟩⟩, cv, rfl, hfx⟩
                · obtain ⟨q1, cs, q2⟩ := has_deadAll hh
                  rw [old0 b (r.block_lt ⟨k, q1⟩) o, hwhen2 b (lentNo k cs b q2 q1) o]; exact r.roOwn k b q1 o
                · rintro b hb ⟨k, hh⟩
                  exact ⟨k, (has_deadAll hh).1⟩
                · rw [old0 b hb o]
                  exact hwhen2 b (fun ⟨k, hk⟩ => hn ⟨k, (has_noLent hk).1⟩) o
                · have hh : Has η h k b := ⟨st, sz, _, e, hc, rfl⟩
                  have hb := r.block_lt ⟨k, hh⟩
                  exact ⟨keep b hb, fun o => by rw [old0 b hb o]; exact hwhen2 b (lentNo k cs b hc hh) o⟩
            have fin : ∀ {fr h1 η1 ro1 a w1}, (resV w0.P fr h1 (fun v => frzResK h1 v fun v => some (Out.ret v, [])) fn.results.toList [] = some (Out.ret x0, g0)) → FrRel fn.ntmps [] η1 ro1 fr a → Rel η1 ro1 h1 w1 → Fin (fun _ => none) R0 [] w false η1 ro1 h1 w1 →
                a.defers = [] ∧ ∃ v, (results fn a.tmps).run w0.P w1 = .ok v w1 ∧ After η ro h w (.ret x0) (if args.all ripe = true then h else deadAll h) (.returned v) w1 := by
              intro fr h1 η1 ro1 a w1 e f r1 i
              obtain ⟨v, cv, h2, h3, h4⟩ := results_ok r1 f e
              rw [frzResK_eq, Option.bind_eq_some_iff] at h4
              obtain ⟨x, h5, h6⟩ := h4
              cases h6
              exact ⟨f.defers, cv, h2, back i r1 h3 h5⟩
            refine code_ok (cx := { P := w0.P, N := fn.ntmps, an := (w0.an f).an false, lit := (w0.an f).lit, call, L, po := w0.po }) hc hp hL (Fin.keeps _ _ _ w false) (Fin.cutOk _ _ _ _ w fun _ _ _ hp => by cases hp) c ?_ e (entry_ok r0.glob hargs' hlen') r0 i0
            refine ⟨fun e f r s => fin e f r s, fun e f r s => fin e f r s, fun e f r s => by simp [finP] at e, fun e d r s hv => by simp [finP] at e⟩
          · rename_i sh rs zp zr hpol
            rw [canonsK_eq, Option.bind_eq_some_iff] at e
            obtain ⟨⟨args', nh, us⟩, hcan, e⟩ := e
            dsimp only at e
            generalize hsh : (if (pinOf sh args).isSome = true then sh else List.map unpin sh) = sh' at hcan e
            generalize htk : takesL h sh' args = tk at hcan e
            generalize hgv : givs sh' args = gv at hcan e
            have wh : Whence η ro h (only gv tk 0 (noLent h)) w tk (fun _ => False) := ⟨r, only_rel r.noLent gv tk, fun k b hh => let q := has_only hh; ⟨(has_noLent q.1).1, q.2.2⟩, fun _ hb => hb.elim⟩
            obtain ⟨η1, j1, on1, _, hargs', hpin1⟩ := canons_ok wh sh' hcan (J.start r _) hargs
            generalize hro1 : roAll η (only gv tk 0 (noLent h)) w ro = ro1 at hargs'
            have hle1 : ro.le ro1 := by rw [← hro1]; exact roAll_le (only_rel r.noLent gv tk)
            have r1 : Rel η1 ro1 nh w := by have := j1.rel; rwa [hro1] at this
            have ro1ne : ∀ b, (∀ k, k ∈ tk ++ gv → ¬ Has η h k b) → ∀ o, ro1 b o = ro b o := fun b hb o => by
              rw [← hro1, roAll_ne]
              rintro ⟨k, hh⟩
              have q := has_only hh
              exact hb k (List.mem_append_right _ q.2.1) (has_noLent q.1).1
            have old1 : ∀ b, Owned η1 nh b → ∃ k, (k ∈ tk ∨ Lent η1 nh b) ∧ Has η h k b := fun b hb => by
              rcases j1.own b hb with hf | ⟨k, h1, _, h2, h3⟩
              · exact hf.elim
              · exact ⟨k, h3, h2⟩
            -- the pin
            have hpin : ∀ l k, pinOf sh args = some (l, k) → ∃ b st sz, η k = some (.at_ b st sz) ∧ η1 0 = some (.at_ b st sz) ∧ k ∈ tk ∧ k < h.length ∧ ∃ cs, h[k]? = some (.cells cs) := by
              intro l k hp
              have hsome : (pinOf sh args).isSome = true := by rw [hp]; rfl
              rw [hsome, if_pos rfl] at hsh
              subst hsh
              unfold pinOf at hp
              split at hp
              · rename_i l' rest k' off as
                cases hp
                obtain ⟨p, h0, h0'⟩ := hpin1 _ rest _ as _ k rfl rfl rfl
                cases hcl : cargs.toList with
                | nil => rw [hcl] at hargs; exact hargs.elim
                | cons c0 cs0 =>
                  rw [hcl] at hargs
                  obtain ⟨b, st, sz, h1, h2⟩ := hargs.1
                  rw [h1] at h0; cases h0
                  have hoff : k ∈ tk ∧ ∃ cs, h[k]? = some (.cells cs) := by
                    unfold canons canon at hcan
                    rw [Option.bind_eq_some_iff] at hcan
                    obtain ⟨q, hq, _⟩ := hcan
                    split at hq
                    · rename_i heq _
                      cases heq
                      split at hq
                      · rename_i hcc
                        split at hq
                        · rename_i cs hcs; exact ⟨by simpa using hcc.1, cs, hcs⟩
                        · cases hq
                      · cases hq
                    · cases hq
                  exact ⟨b, st, sz, h1, h0', hoff.1, r.lt h1, hoff.2⟩
              · rename_i l' rest k' off as
                cases hp
                obtain ⟨p, h0, h0'⟩ := hpin1 _ rest _ as _ k rfl rfl rfl
                cases hcl : cargs.toList with
                | nil => rw [hcl] at hargs; exact hargs.elim
                | cons c0 cs0 =>
                  rw [hcl] at hargs
                  obtain ⟨cvs, hcs0, hgv, hxs⟩ := hargs.1
                  obtain ⟨cvs⟩ := cvs
                  obtain ⟨z, rfl⟩ : ∃ z, cvs = [z] := by
                    have := hgv.len
                    match cvs, this with
                    | [z], _ => exact ⟨z, rfl⟩
                  obtain ⟨b, st, sz, h1, h2⟩ := hgv.1
                  rw [h1] at h0; cases h0
                  have hoff : k ∈ tk ∧ ∃ cs, h[k]? = some (.cells cs) := by
                    unfold canons canon at hcan
                    rw [Option.bind_eq_some_iff] at hcan
                    obtain ⟨q, hq, _⟩ := hcan
                    split at hq
                    · rename_i heq _
                      cases heq
                      split at hq
                      · rename_i hcc
                        split at hq
                        · rename_i cs hcs; exact ⟨by simpa using hcc.1, cs, hcs⟩
                        · cases hq
                      · cases hq
                    · cases hq
                  exact ⟨b, st, sz, h1, h0', hoff.1, r.lt h1, hoff.2⟩
              · cases hp
            have hlen' : args'.length ≤ fn.ntmps := by
              have h1 := hargs.len; have h2 := hargs'.len; omega
            have i0 : Fin η1 ro1 nh w ((pinOf sh args).map (·.1)).isSome η1 ro1 nh w := by
              refine ⟨Nat.le_refl _, fun _ _ _ => rfl, fun _ _ hb => hb, rfl, rfl, rfl, Ro.le_refl _, fun _ _ _ _ => rfl, fun hp => ?_, fun b hl => r1.block_lt hl.owned, fun b hl => ⟨⟨rfl, fun _ => rfl⟩, fun _ => hl⟩⟩
              cases hq : pinOf sh args with
              | none => rw [hq] at hp; cases hp
              | some x =>
                obtain ⟨b, st, sz, _, h2, _⟩ := hpin x.1 x.2 hq
                exact ⟨_, h2, h2⟩
            -- the way back
            cases hcore : core w0.P w0.an w0.po call L f fn c rs ((pinOf sh args).map (·.1)) args' nh with
            | none => rw [hcore] at e; cases e
            | some out =>
            obtain ⟨ou, g⟩ := out
            rw [hcore] at e
            have ret : ∀ {η2 ro2 h2 w2 v cv}, Fin η1 ro1 nh w ((pinOf sh args).map (·.1)).isSome η2 ro2 h2 w2 → Rel η2 ro2 h2 w2 → VRel η2 ro2 v cv → back h2 rs ((pinOf sh args).map (·.1)) v = some (ou, g) → After η ro h w o h' (.returned cv) w2 := by
              intro η2 ro2 h2 w2 v cv i r2 hv hb
              unfold back at hb
              rw [Option.bind_eq_some_iff] at hb
              obtain ⟨vs, hvs, hb⟩ := hb
              obtain ⟨cvs, hcvs, honeS⟩ : ∃ cvs, VRels η2 ro2 vs cvs ∧ ∀ {η3 : Et} {ro3 : Ro} {us : List V}, VRels η3 ro3 us cvs → VRel η3 ro3 (ones rs.length us) cv := by
                unfold unones at hvs
                split at hvs
                · rename_i h1
                  cases hvs
                  refine ⟨[cv], ⟨hv, trivial⟩, fun {η3 ro3 us} hu => ?_⟩
                  match us, hu with
                  | [u], hu => unfold ones; rw [if_pos h1]; exact hu.1
                · rename_i h1
                  split at hvs
                  · cases hvs
                    obtain ⟨cs, rfl, h3⟩ := hv
                    exact ⟨cs.toList, h3, fun {η3 ro3 us} hu => by unfold ones; rw [if_neg h1]; exact ⟨cs, rfl, hu⟩⟩
                  · cases hvs
              replace hcvs := nrmBy_ok rs hcvs
              dsimp only at hb
              generalize nrmBy rs vs = vs at hb hcvs
              -- out of the small heap
              have lent1 : ∀ b, Owned η1 nh b → Lent η h b → Lent η1 nh b := fun b ho hl => j1.lent b hl ho
              obtain ⟨tk2, us2, ηg, rv, jg, rfl, hvg, hgl, hpg⟩ : ∃ tk2 us2 ηg rv, J η2 ro2 h2 (Go.Abs.kill tk2 0 (noLent h2)) w2 tk2 (fun _ => False) ηg g us2 [] ∧ ou = .ret rv ∧ VRel ηg (roAll η2 (Go.Abs.kill tk2 0 (noLent h2)) w2 ro2) rv cv ∧ g.any Ob.isLent = false ∧ (∀ l k, pinOf sh args = some (l, k) → ηg 0 = η2 0) := by
                cases hq : pinOf sh args with
                | none =>
                  rw [hq] at hb
                  simp only [Option.map_none, canonsK_eq] at hb
                  rw [Option.bind_eq_some_iff] at hb
                  obtain ⟨⟨us', g', us2⟩, hcn, hb⟩ := hb
                  dsimp only at hb
                  split at hb
                  · cases hb
                  rename_i hgl
                  cases hb
                  replace hgl : g.any Ob.isLent = false := by simpa using hgl
                  obtain ⟨ηg, b1, b2, b3, b4, _⟩ := canons_ok (whence_kill r2 (takesL h2 rs vs) (fun _ => False) fun _ hh => hh.elim) rs hcn (J.start r2 _) hcvs
                  exact ⟨_, us2, ηg, _, b1, rfl, honeS b4, hgl, fun _ _ hh => by cases hh⟩
                | some x =>
                  obtain ⟨l, k⟩ := x
                  rw [hq] at hb
                  simp only [Option.map_some, canonsK_eq] at hb
                  rw [Option.bind_eq_some_iff] at hb
                  obtain ⟨⟨us', g', us2⟩, hcn, hb⟩ := hb
                  dsimp only at hb
                  split at hb
                  · cases hb
                  rename_i hgl
                  cases hb
                  replace hgl : g.any Ob.isLent = false := by simpa using hgl
                  obtain ⟨b, st, sz, _, p2, _⟩ := hpin l k hq
                  obtain ⟨p, p3, p4⟩ := i.pinned (by rw [hq]; rfl)
                  rw [p2] at p3; cases p3
                  obtain ⟨ηg, b1, b2, b3, b4, b5⟩ := canons_ok (cs := .ptr 0 0 :: vs) (xs := .pointer (some ⟨b, st + 0, none⟩) :: cvs) (whence_kill r2 (takes h2 (.pin l) (.ptr 0 0) ++ takesL h2 rs vs) (fun _ => False) fun _ hh => hh.elim) (.pin l :: rs) hcn (J.start r2 _) ⟨⟨b, st, sz, p4, rfl⟩, hcvs⟩
                  match us', b4 with
                  | u0 :: us', b4 => exact ⟨_, us2, ηg, _, b1, rfl, honeS b4.2, hgl, fun _ _ _ => by obtain ⟨q, q1, q2⟩ := b5 _ rs _ vs l 0 rfl rfl rfl; exact q2.trans q1.symm⟩
              generalize hro3 : roAll η2 (Go.Abs.kill tk2 0 (noLent h2)) w2 ro2 = ro3 at hvg
              have hle3 : ro2.le ro3 := by rw [← hro3]; exact roAll_le r2
              -- what the callee may not have written
              have free : ∀ b, ((∀ k, k ∈ tk ++ gv → ¬ Has η h k b) ∨ Lent η h b) → Owned η1 nh b → Lent η1 nh b := fun b hb ho => by
                rcases hb with hb | hb
                · obtain ⟨k, h1, h2⟩ := old1 b ho
                  exact h1.resolve_left fun h1 => hb k (List.mem_append_left _ h1) h2
                · exact lent1 b ho hb
              have ro1al : ∀ b, ((∀ k, k ∈ tk ++ gv → ¬ Has η h k b) ∨ Lent η h b) → ∀ o, ro1 b o = ro b o := fun b hb o => by
                rcases hb with hb | ⟨k, s1, s2, cs, h1, h2⟩
                · exact ro1ne b hb o
                · rw [← hro1, roAll_ne]
                  rintro ⟨k', hh⟩
                  obtain ⟨h3, h4⟩ := has_noLent (has_only hh).1
                  have := r.own k k' b ⟨s1, s2, _, h1, h2, rfl⟩ h3
                  subst this
                  exact h4 cs h2
              have oldro : ∀ b, b < w.heap.size → ((∀ k, k ∈ tk ++ gv → ¬ Has η h k b) ∨ Lent η h b) → ∀ o, ro3 b o = ro b o := fun b hb hn o => by
                rw [← hro3, roAll_ne]
                · by_cases ho : Owned η1 nh b
                  · rw [(i.lent b (free b hn ho)).1.2 o, ro1al b hn]
                  · rw [i.rok b hb ho, ro1al b hn]
                rintro ⟨k, hh⟩
                obtain ⟨g1, _, g3⟩ := has_killN hh
                have ho := i.owns b hb ⟨k, g1⟩
                obtain ⟨k2, s1, s2, cs, q1, q2⟩ := (i.lent b (free b hn ho)).2 ⟨k, g1⟩
                have := r2.own k k2 b g1 ⟨s1, s2, _, q1, q2, rfl⟩
                subst this
                exact g3 cs q2
              have keep : ∀ b, b < w.heap.size → ((∀ k, k ∈ tk ++ gv → ¬ Has η h k b) ∨ Lent η h b) → w2.heap[b]? = w.heap[b]? := fun b hb hn => by
                by_cases ho : Owned η1 nh b
                · exact (i.lent b (free b hn ho)).1.1
                · exact i.keep b hb ho
              have alive : ∀ k b, Has η (Go.Abs.kill (tk ++ gv) 0 h) k b → Has η h k b ∧ ((∀ k', k' ∈ tk ++ gv → ¬ Has η h k' b) ∨ Lent η h b) := fun k b hh => by
                obtain ⟨h1, h2⟩ := has_kill hh
                refine ⟨h1, ?_⟩
                rcases h2 with h2 | ⟨cs, h2⟩
                · refine .inl fun k' hk' hh' => ?_
                  have := r.own k k' b h1 hh'
                  subst this
                  have h3 := List.contains_iff_mem.2 hk'
                  rw [h3] at h2; cases h2
                · obtain ⟨s1, s2, o, q1, _, _⟩ := h1
                  exact .inr ⟨k, s1, s2, cs, q1, h2⟩
              have rO : Rel η ro3 (Go.Abs.kill (tk ++ gv) 0 h) w2 := by
                refine ⟨fun b o v hv => ?_, fun k p hk => ?_, fun k k' b h1 h2 => r.own k k' b (alive k b h1).1 (alive k' b h2).1, fun k b hh o => ?_, r.glob.mono (hle1.trans (i.rol.trans hle3))⟩
                · rw [← hro3] at hv; exact roAll_cells r2 hv
                · obtain ⟨o, h1, h2⟩ := r.obj k p hk
                  refine ⟨if (tk ++ gv).contains k && !o.isLent then .dead else o, by rw [kill_get, h1]; simp, ?_⟩
                  by_cases hc : ((tk ++ gv).contains k && !o.isLent) = true
                  · rw [if_pos hc]; trivial
                  · rw [if_neg hc]
                    refine (h2.keep fun b st sz e hl => ?_).mono (Et.le_refl _) (hle1.trans (i.rol.trans hle3))
                    have hh : Has η (Go.Abs.kill (tk ++ gv) 0 h) k b := ⟨st, sz, o, e ▸ hk, by rw [kill_get, h1, Nat.zero_add]; show some (if _ then _ else _) = some o; rw [if_neg hc], hl⟩
                    exact keep b (r.block_lt ⟨k, (alive k b hh).1⟩) (alive k b hh).2
                · obtain ⟨h1, h2⟩ := alive k b hh
                  rw [oldro b (r.block_lt ⟨k, h1⟩) h2 o]; exact r.roOwn k b h1 o
              have rI : Rel ηg ro3 g w2 := by have := jg.rel; rwa [hro3] at this
              have gown : ∀ b, Owned ηg g b → Owned η2 h2 b ∧ ¬ Lent η2 h2 b := fun b hb => by
                have h1 : Owned η2 h2 b := by
                  rcases jg.own b hb with hf | ⟨k, _, _, h3, _⟩
                  · exact hf.elim
                  · exact ⟨k, h3⟩
                refine ⟨h1, fun hl => ?_⟩
                obtain ⟨k, s1, s2, cs, _, h2⟩ := jg.lent b hl hb
                have := List.any_eq_false.1 hgl _ (List.mem_of_getElem? h2)
                exact this rfl
              have old3 : ∀ b, b < w.heap.size → Owned ηg g b → (∃ k, k ∈ tk ∧ Has η h k b) ∧ ¬ Lent η h b := fun b hb ho => by
                obtain ⟨h1, h2⟩ := gown b ho
                have h3 := i.owns b hb h1
                have h4 : ¬ Lent η1 nh b := fun hl => h2 ((i.lent b hl).2 h1)
                obtain ⟨k, h5, h6⟩ := old1 b h3
                exact ⟨⟨k, h5.resolve_right h4, h6⟩, fun hl => h4 (lent1 b h3 hl)⟩
              have hd : ∀ b, Owned ηg g b → ¬ Owned η (Go.Abs.kill (tk ++ gv) 0 h) b := by
                rintro b hb ⟨k, hh⟩
                obtain ⟨h1, h2⟩ := alive k b hh
                obtain ⟨⟨k', h3, h4⟩, h5⟩ := old3 b (r.block_lt ⟨k, h1⟩) hb
                rcases h2 with h2 | h2
                · exact h2 k' (List.mem_append_left _ h3) h4
                · exact h5 h2
              have hlenk : (Go.Abs.kill (tk ++ gv) 0 h).length = h.length := by
                have h1 := kill_get (tk ++ gv) 0 h h.length
                have h2 := kill_get (tk ++ gv) 0 h (Go.Abs.kill (tk ++ gv) 0 h).length
                rcases Nat.lt_trichotomy (Go.Abs.kill (tk ++ gv) 0 h).length h.length with hl | hl | hl
                · rw [List.getElem?_eq_getElem hl] at h2; simp at h2
                · exact hl
                · rw [List.getElem?_eq_getElem hl] at h1; simp at h1
              obtain ⟨η3, rv', rfl, c1, c2, c3, c4, c5, c6⟩ := graft_ok rO rI hd (pin := (pinOf sh args).map (·.2)) (fun k hk => by
                rw [Option.map_eq_some_iff] at hk
                obtain ⟨⟨l, k'⟩, hq, rfl⟩ := hk
                obtain ⟨b, st, sz, p1, p2, _, p3, _⟩ := hpin l k' hq
                obtain ⟨p, p4, p5⟩ := i.pinned (by rw [hq]; rfl)
                rw [p2] at p4; cases p4
                have h0 : ηg 0 = some (.at_ b st sz) := (hpg l k' hq).trans p5
                refine ⟨by rw [hlenk]; exact p3, h0.trans p1.symm, fun hg => ?_, by rw [h0]; rfl⟩
                have := rI.lt h0
                rw [hg] at this; exact absurd this (Nat.not_lt_zero _)) hvg e
              refine ⟨η3, ro3, c2, ⟨i.size, fun b hb hn => keep b hb (.inl fun k _ hh => hn ⟨k, hh⟩), fun b hb ho => ?_, i.os, i.tape, i.output, by rw [← hlenk]; exact c4, fun k hk => c5 k (by rw [hlenk]; exact hk), hle1.trans (i.rol.trans hle3), fun b hb hn o => oldro b hb (.inl fun k _ hh => hn ⟨k, hh⟩) o, fun k cs hk => ⟨?_, fun b st sz hp => ?_⟩⟩, cv, rfl, c1⟩
              · rcases c3 b ho with ⟨k, hh⟩ | hh
                · exact ⟨k, (alive k b hh).1⟩
                · obtain ⟨⟨k, _, h2⟩, _⟩ := old3 b hb hh; exact ⟨k, h2⟩
              · have hlt := (List.getElem?_eq_some_iff.1 hk).1
                rw [c6 k (by rw [hlenk]; exact hlt) (fun hq => ?_), kill_get, hk, Nat.zero_add]
                · simp [Ob.isLent]
                · rw [Option.map_eq_some_iff] at hq
                  obtain ⟨⟨l, k'⟩, hq, rfl⟩ := hq
                  obtain ⟨b, st, sz, _, _, _, _, cs', p4⟩ := hpin l k' hq
                  rw [hk] at p4; cases p4
              · have hl : Lent η h b := ⟨k, st, sz, cs, hp, hk⟩
                have hb := r.block_lt hl.owned
                exact ⟨keep b hb (.inr hl), oldro b hb (.inr hl)⟩
            have fin : ∀ {fr h1 η1' ro1' a w1}, (resV w0.P fr h1 (fun v => back h1 rs ((pinOf sh args).map (·.1)) v) fn.results.toList [] = some (ou, g)) → FrRel fn.ntmps [] η1' ro1' fr a → Rel η1' ro1' h1 w1 → Fin η1 ro1 nh w ((pinOf sh args).map (·.1)).isSome η1' ro1' h1 w1 →
                a.defers = [] ∧ ∃ v, (results fn a.tmps).run w0.P w1 = .ok v w1 ∧ After η ro h w o h' (.returned v) w1 := by
              intro fr h1 η1' ro1' a w1 e f r1 i
              obtain ⟨v, cv, h2, h3, h4⟩ := results_ok r1 f e
              exact ⟨f.defers, cv, h2, ret i r1 h3 h4⟩
            unfold core at hcore
            refine code_ok (cx := { P := w0.P, N := fn.ntmps, an := (w0.an f).an ((pinOf sh args).map (·.1)).isSome, lit := (w0.an f).lit, call, L, po := w0.po }) hc hp hL (Fin.keeps _ _ _ w _) (Fin.cutOk _ _ _ _ w (an_own hpol _)) c ?_ hcore (entry_ok r1.glob hargs' hlen') r1 i0
            refine ⟨fun e f r s => fin e f r s, fun e f r s => fin e f r s, fun e f r s => by simp [finO] at e, fun e d r s hv => by simp [finO] at e⟩
theorem frz_any (h h' : H) : ∀ d : Nat, (∀ {v : V}, ripe v = true → frz h d v = frz h' d v) ∧ ∀ {l : List V}, ripes l = true → frzs h d l = frzs h' d l
  | 0 => ⟨fun _ => by simp [frz], fun _ => by simp [frzs]⟩
  | d + 1 => by
    obtain ⟨i1, i2⟩ := frz_any h h' d
    refine ⟨fun {v} hr => ?_, fun {l} hr => ?_⟩
    · cases v with
      | f x => simp [frz]
      | any => simp [frz]
      | agg cs => simp [frz]
      | lit n cs => simp only [frz]; rw [i2 (by simpa [ripe] using hr)]
      | _ => simp [ripe] at hr
    · cases l with
      | nil => simp [frzs]
      | cons v r =>
        rw [ripes, Bool.and_eq_true] at hr
        simp only [frzs]
        rw [i1 hr.1, i2 hr.2]
theorem frzArg_any {v : V} (hv : ripe v = true) (h h' : H) : frzArg h v = frzArg h' v := by
  unfold frzArg
  split
  · rename_i cs
    rw [(frz_any h h' deep).2 (by simpa [ripe] using hv)]
  · rw [(frz_any h h' deep).1 hv]
theorem frzArgs_any : ∀ {l : List V}, l.all ripe = true → ∀ h h' : H, frzArgs h l = frzArgs h' l
  | [], _, _, _ => rfl
  | v :: l, hl, h, h' => by
    rw [List.all_cons, Bool.and_eq_true] at hl
    unfold frzArgs
    rw [frzArg_any hl.1 h h', frzArgs_any hl.2 h h']
theorem runF_pol {w0 : World0} {call : CallF} {L : LF} : CallPol w0.po (runF w0.P w0.an w0.po w0.ext call L) := by
  intro f args h v g e
  cases hxt : w0.ext f with
  | some _ =>
    have hpo : w0.po f = .keep := by simp [World0.po, hxt]
    rw [hpo]; trivial
  | none =>
  have hpo : w0.po f = (w0.an f).pol := by simp [World0.po, hxt]
  rw [hpo]
  unfold runF at e
  rw [hxt] at e
  simp only [] at e
  split at e
  · cases e
  · split at e
    · cases e
    · split at e
      · cases e
      · split at e
        rotate_left
        · cases e
        split at e
        · rename_i hpol; rw [hpol]; trivial
        · rename_i hpol; rw [hpol]
          rw [frzArgsK_eq, Option.bind_eq_some_iff] at e
          obtain ⟨args', h1, e⟩ := e
          refine ⟨?_, fun hfl h' => ?_⟩
          · unfold withH at e
            split at e
            · split at e <;> cases e
              rfl
            · cases e
          · unfold runF
            rw [hxt]
            dsimp only
            have e2 : frzArgs h' args = some args' := by rw [frzArgs_any hfl h' h]; exact h1
            have key : ∀ r : R, withH true h r = some (.ret v, g) → withH true h' r = some (.ret v, h') := by
              intro r hr
              unfold withH at hr ⊢
              split at hr
              · simp only [Bool.true_or, if_true] at hr ⊢
                cases hr
                rfl
              · cases hr
            simp only [*, if_true, frzArgsK_eq, Option.bind_some]
            rw [hfl] at e
            exact key _ e
        · rename_i hpol; rw [hpol]
          rw [frzArgsK_eq, Option.bind_eq_some_iff] at e
          obtain ⟨args', h1, e⟩ := e
          refine ⟨?_, fun hfl h' => ?_⟩
          · unfold withG at e
            split at e
            · split at e
              · rename_i hs
                cases e
                rw [if_pos hs]
              · rename_i hs
                cases e
                rw [if_neg hs]
            · cases e
          · unfold runF
            rw [hxt]
            dsimp only
            rw [if_pos hfl] at h1
            have e2 : frzArgs h' args = some args' := by rw [frzArgs_any hfl h' h]; exact h1
            have key : ∀ r : R, withG true h r = some (.ret v, g) → withG true h' r = some (.ret v, h') := by
              intro r hr
              unfold withG at hr ⊢
              split at hr
              · simp only [if_true] at hr ⊢
                cases hr
                rfl
              · cases hr
            simp only [*, if_true, frzArgsK_eq, Option.bind_some]
            rw [hfl] at e
            exact key _ e
        · rename_i sh rs zp zr hpol; rw [hpol]
          rw [canonsK_eq, Option.bind_eq_some_iff] at e
          obtain ⟨⟨args', nh, us⟩, hcan, e⟩ := e
          dsimp only at e ⊢
          unfold graft at e
          rw [Option.bind_eq_some_iff] at e
          obtain ⟨⟨o, g0⟩, hx0, e⟩ := e
          clear hx0
          cases hq : pinOf sh args with
          | none =>
            rw [hq] at e
            simp only [Option.isSome_none, Bool.false_eq_true, if_false, Option.map_none] at e
            cases o with
            | pan v => cases e
            | ret v => simp at e; exact ⟨_, e.2.symm⟩
          | some y =>
            obtain ⟨l, p⟩ := y
            rw [hq] at e
            simp only [Option.isSome_some, if_true, Option.map_some] at e
            cases o with
            | pan v => cases e
            | ret v =>
              cases g0 with
              | nil => cases e
              | cons o g0 => simp at e; exact ⟨_, _, e.2.symm⟩
theorem lvl_ok {w0 : World0} (hx : ExtSim w0) : ∀ n, (CallSim w0.P (lvl w0 n).1 ∧ CallPol w0.po (lvl w0 n).1) ∧ LoopSim w0.P (lvl w0 n).2
  | 0 => by
    refine ⟨⟨fun f args cargs h η ro w o h' r hargs e => ?_, fun f args h v g e => ?_⟩, ?_⟩
    · cases e
    · cases e
    · intro N ds an lit j p K0 fr h out Q Inv η ro a w hI hcut hk e f r i
      cases e
  | n + 1 => ⟨⟨runF_ok hx (lvl_ok hx n).1.1 (lvl_ok hx n).1.2 (lvl_ok hx n).2, runF_pol⟩, runL_ok (lvl_ok hx n).1.1 (lvl_ok hx n).1.2 (lvl_ok hx n).2⟩
theorem run_ok {w0 : World0} (hx : ExtSim w0) : CallSim w0.P (run w0) := fun f args cargs h η ro w o h' r hargs e =>
  let ⟨n, hn⟩ := run_some e
  (lvl_ok hx n).1.1 f args cargs h η ro w o h' r hargs hn
theorem no_ext {w0 : World0} (h : ∀ f, w0.ext f = none) : ExtSim w0 := fun f e he => by rw [h f] at he; cases he

/-- all that is there is read alone -/
noncomputable def roOf (w : World) : Ro := fun b o => w.cell? ⟨b, o, none⟩
theorem top_rel (w : World) (hg : GOk (roOf w)) : Rel (fun _ => none) (roOf w) [] w := by
  refine ⟨fun b o v hv => hv, fun k p hk => (by cases hk), ?_, ?_, hg⟩
  · rintro k k' b ⟨_, _, _, h1, _⟩; cases h1
  · rintro k b ⟨_, _, _, h1, _⟩; cases h1
/-- A call from outside, of what is read alone: an answer, and what was there stays. -/
theorem top_ok {w0 : World0} (hx : ExtSim w0) {f : FuncId} {args : List V} {cargs : Array Value} {w : World} (hg : GOk (roOf w)) {v : V} {h' : H} (e : run w0 f args [] = some (.ret v, h')) (hargs : VRels (fun _ => none) (roOf w) args cargs.toList) :
    Calls w0.P f cargs w fun e w' => ∃ η' ro' cv, e = .returned cv ∧ VRel η' ro' v cv ∧ Rel η' ro' h' w' ∧ w.heap.size ≤ w'.heap.size ∧ (∀ b, b < w.heap.size → w'.heap[b]? = w.heap[b]?) ∧ w'.os = w.os ∧ w'.tape = w.tape ∧ w'.output = w.output := by
  obtain ⟨_, hC⟩ := run_ok hx f args cargs [] _ _ w _ h' (top_rel w hg) hargs e
  refine hC.mono ?_
  rintro e w' ⟨η', ro', r, s, cv, rfl, hv⟩
  refine ⟨η', ro', cv, rfl, hv, r, s.size, fun b hb => s.keep b hb ?_, s.os, s.tape, s.output⟩
  rintro ⟨k, _, _, _, h1, _⟩; cases h1
end Go.Abs
