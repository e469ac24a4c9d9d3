/-
  One operation of a region: the abstract machine's step, held against Go's.
-/
import Derived.Test.YtjhojfedimbpiaaAbsHeap3
import Derived.KernelRfl
set_option autoImplicit false
set_option linter.unusedVariables false
set_option linter.unusedSimpArgs false
namespace Go.Abs
open Go

/-- A function's temporaries. -/
structure FrRel (N : Nat) (η : Et) (ro : Ro) (fr : Fr) (a : Act) : Prop where
  size : a.tmps.size = N
  at_ : ∀ i, VRel η ro (fr i) (a.tmps.getD i undef)
  defers : a.defers = []

section
variable {P : Program} {η η' : Et} {ro ro' : Ro} {h h' : H} {w w' : World} {N : Nat} {fr : Fr} {a : Act}

theorem FrRel.mono (f : FrRel N η ro fr a) (he : η.le η') (hr : ro.le ro') : FrRel N η' ro' fr a := ⟨f.size, fun i => (f.at_ i).mono he hr, f.defers⟩
theorem FrRel.ev {cx : Cx} (f : FrRel N η ro fr a) (x : Operand) : VRel η ro (cx.ev fr x) (a.eval x) := by
  unfold Cx.ev
  split
  · exact f.at_ _
  · rename_i cs
    split
    · rename_i hc
      have h1 := List.all_eq_true.1 hc
      exact ⟨cs, rfl, rels_s _ h1, h1⟩
    · trivial
  · trivial
  · rename_i v hn1 hn2
    refine rel_s' ?_
    unfold Value.oneCell'
    split
    · rename_i cs; exact absurd rfl (hn1 cs)
    · rename_i cs; exact absurd rfl (hn2 cs)
    · rfl
  · trivial
  · exact ⟨#[], rfl, trivial⟩
theorem FrRel.evs {cx : Cx} (f : FrRel N η ro fr a) : ∀ (l : List Operand), VRels η ro (l.map (cx.ev fr)) (l.map a.eval)
  | [] => trivial
  | x :: l => ⟨f.ev x, FrRel.evs f l⟩
theorem FrRel.partsOk {cx : Cx} (f : FrRel N η ro fr a) : ∀ (l : List (Nat × Operand)), Parts η ro (l.map fun x => (x.1, cx.ev fr x.2)) (l.map fun x => (x.1, a.eval x.2))
  | [] => trivial
  | x :: l => ⟨⟨rfl, f.ev (cx := cx) x.2⟩, FrRel.partsOk f l⟩
theorem FrRel.put (f : FrRel N η ro fr a) {d : Option Nat} (hd : okDst N d = true) (he : η.le η') (hr : ro.le ro') {v : V} {cv : Value} (hv : VRel η' ro' v cv) : FrRel N η' ro' (put fr d v) (a.put d cv) := by
  cases d with
  | none => exact f.mono he hr
  | some d =>
    simp only [okDst, decide_eq_true_eq] at hd
    refine ⟨by simp [Act.put, f.size], fun i => ?_, f.defers⟩
    simp only [Go.Abs.put, Go.Abs.upd, Act.put]
    by_cases hi : i = d
    · subst hi
      rw [if_pos rfl]
      have : (a.tmps.setIfInBounds i cv).getD i undef = cv := by simp [Array.getD, f.size, hd]
      rw [this]; exact hv
    · rw [if_neg hi]
      have : (a.tmps.setIfInBounds d cv).getD i undef = a.tmps.getD i undef := by
        simp only [Array.getD_eq_getD_getElem?, Array.getElem?_setIfInBounds]
        rw [if_neg (fun e => hi e.symm)]
      rw [this]; exact (f.at_ i).mono he hr

/-- How a call ends. -/
def After (η : Et) (ro : Ro) (h : H) (w : World) (o : Out) (h' : H) (e : Ending) (w' : World) : Prop :=
  ∃ η' ro', Rel η' ro' h' w' ∧ Stp η ro h w η' ro' h' w' ∧
    match o with
    | .ret v => ∃ cv, e = .returned cv ∧ VRel η' ro' v cv
    | .pan v => ∃ cv, e = .panicked [{ v := cv, recovered := false }] ∧ VRel η' ro' v cv
def CallSim (P : Program) (call : CallF) : Prop :=
  ∀ (f : FuncId) (args : List V) (cargs : Array Value) (h : H) (η : Et) (ro : Ro) (w : World) (o : Out) (h' : H), Rel η ro h w → VRels η ro args cargs.toList →
    call f args h = some (o, h') → (∃ fn, P.funcs[f]? = some fn ∧ fn.name ≠ "runtime.NumGoroutine" ∧ fn.body.isSome = true) ∧ Calls P f cargs w (After η ro h w o h')

theorem wp_val {o : Oper} {s : Sem Value} {cv : Value} {next : Act → World → Prop} {Q : Exit → Act → World → Prop} (e : execOp a.eval o = (do pure (.value (← s)))) (hs : s.run P w = .ok cv w') (hn : next (a.put o.dst cv) w') : o.wp P a w next Q := by
  unfold Oper.wp
  rw [e, Sem.run_bind, hs]
  exact hn
theorem wp_unit {o : Oper} {s : Sem Unit} {next : Act → World → Prop} {Q : Exit → Act → World → Prop} (e : execOp a.eval o = (do s; pure .skip)) (hs : s.run P w = .ok () w') (hn : next (a.put o.dst undef) w') : o.wp P a w next Q := by
  unfold Oper.wp
  rw [e, Sem.run_bind, hs]
  exact hn

theorem guard_ok {op : BinOp} {t : TypeId} {x y : Operand} {ca cb : Value} (h1 : ∀ xs, ca ≠ .agg xs) (h2 : ca ≠ .nilIface) : (eqGuard op t x y ca cb).run P w = .ok () w := by
  unfold eqGuard
  cases op <;> simp <;> cases ca <;> simp_all
theorem equal_bool {t : TypeId} {m n : Bool} (hu : P.underlying t = some .bool) : (Op.equal t (.bool m) (.bool n)).run P w = .ok (m == n) w := by
  unfold Op.equal Op.maxDepth
  rw [Op.equalIn, Sem.run_bind, run_ul hu]
  rfl
theorem eql_bool (t : TypeId) (m n : Bool) : Go.binOp .eql t (.bool m) (.bool n) = (do pure (.bool (← Op.equal t (.bool m) (.bool n)))) := rfl
theorem neq_bool (t : TypeId) (m n : Bool) : Go.binOp .neq t (.bool m) (.bool n) = (do pure (.bool (!(← Op.equal t (.bool m) (.bool n))))) := rfl
theorem sim_binOp {op : BinOp} {t : TypeId} {x y v : V} {ca cb : Value} {e : H} (he : Go.Abs.binOp P op t x y idV = some (.ret v, e)) (hx : VRel η ro x ca) (hy : VRel η ro y cb) :
    (∀ xs, ca ≠ .agg xs) ∧ ca ≠ .nilIface ∧ ∃ cv, (Go.binOp op t ca cb).run P w = .ok cv w ∧ VRel η ro v cv := by
  unfold Go.Abs.binOp at he
  split at he
  · rename_i k m k' n
    cases rel_s hx; cases rel_s hy
    refine ⟨by simp, by simp, ?_⟩
    split at he
    · exact sim_shiftBin (.inl rfl) he t
    · exact sim_shiftBin (.inr rfl) he t
    · rename_i hn1 hn2
      split at he
      · rename_i hk; subst hk
        exact sim_intBin ⟨fun e => hn1 e, fun e => hn2 e⟩ he t
      · cases he
  · cases rel_s hx; cases rel_s hy
    exact ⟨by simp, by simp, sim_strBin he t⟩
  · cases rel_s hx; cases rel_s hy
    refine ⟨by simp, by simp, ?_⟩
    split at he
    · rename_i hu
      simp [idV] at he; obtain ⟨rfl, _⟩ := he
      refine ⟨_, ?_, rel_s' rfl⟩
      rw [eql_bool, Sem.run_bind, equal_bool hu]; rfl
    · rename_i hu
      simp [idV] at he; obtain ⟨rfl, _⟩ := he
      refine ⟨_, ?_, rel_s' rfl⟩
      rw [neq_bool, Sem.run_bind, equal_bool hu]; rfl
    · cases he
  · cases he

theorem NatK.ret_of {f : (V → H → R) → R} (hf : NatK f) {u : Out} (e : f idK = some (u, h')) : ∃ v, u = .ret v := by
  cases u with
  | ret v => exact ⟨v, rfl⟩
  | pan v =>
    have h7 := hf.out idK fun v h => Option.none
    rw [e] at h7; cases h7
theorem NatH.ret_of {f : (H → R) → R} (hf : NatH f) {u : V} {o : Out} (e : f (fun h => idK u h) = some (o, h')) : o = .ret u ∧ ∃ x, f idH = some (x, h') := by
  rw [hf.out] at e
  cases hq : f idH with
  | none => rw [hq] at e; cases e
  | some r =>
    obtain ⟨o', x⟩ := r
    rw [hq] at e
    cases o' with
    | pan v => cases e
    | ret v => simp [onH, idK] at e; exact ⟨e.1.symm, _, by rw [e.2]⟩

theorem VRels.one {v : V} {l : List Value} (r : VRels η ro [v] l) : ∃ c, l = [c] ∧ VRel η ro v c := by
  match l, r with
  | [c], r => exact ⟨c, rfl, r.1⟩
theorem VRels.two {v u : V} {l : List Value} (r : VRels η ro [v, u] l) : ∃ c d, l = [c, d] ∧ VRel η ro v c ∧ VRel η ro u d := by
  match l, r with
  | [c, d], r => exact ⟨c, d, rfl, r.1, r.2.1⟩
theorem sim_builtin {b : Builtin} {at_ : Array TypeId} {ty : TypeId} {consts : Array Bool} {xs : List V} {cs : Array Value} {u : Out} (r : Rel η ro h w) (he : Go.Abs.builtin P b at_ xs h idK = some (u, h')) (hx : VRels η ro xs cs.toList) :
    ∃ η' ro' w' v cv s, u = .ret v ∧ Go.builtin b at_ ty consts cs = (do pure (.value (← s))) ∧ s.run P w = .ok cv w' ∧ Rel η' ro' h' w' ∧ Stp η ro h w η' ro' h' w' ∧ VRel η' ro' v cv := by
  unfold Go.Abs.builtin at he
  split at he
  · rename_i t x hat
    obtain ⟨c, h1, h2⟩ := hx.one
    obtain ⟨v, rfl, rfl, x', h3⟩ := (len_nat P t x h).got he
    have e1 : cs = #[c] := Array.ext' h1
    have e2 : at_ = #[t] := Array.ext' hat
    subst e1; subst e2
    obtain ⟨cv, h4, h5⟩ := sim_len (ty := ty) r h3 h2
    exact ⟨η, ro, w, v, cv, _, rfl, rfl, h4, r, Stp.refl _ _ _ _, h5⟩
  · rename_i st xt s x hat
    obtain ⟨c, d, h1, h2, h3⟩ := hx.two
    have e1 : cs = #[c, d] := Array.ext' h1
    have e2 : at_ = #[st, xt] := Array.ext' hat
    subst e1; subst e2
    obtain ⟨v, rfl⟩ := (append_nat P st xt s x h).ret_of he
    obtain ⟨η', w', cv, h4, h5, h6, h7⟩ := sim_append (ty := ty) r he h2 h3
    exact ⟨η', ro, w', v, cv, _, rfl, rfl, h4, h5, h6, h7⟩
  · obtain ⟨c, d, h1, h2, h3⟩ := hx.two
    have e1 : cs = #[c, d] := Array.ext' h1
    subst e1
    cases rel_s h2; cases rel_s h3
    simp [idK] at he; obtain ⟨rfl, rfl⟩ := he
    refine ⟨η, ro, w, _, _, _, rfl, rfl, ?_, r, Stp.refl _ _ _ _, rel_s' (x := .int _ _) rfl⟩
    simp [Builtin.max_, Builtin.max2]
  · obtain ⟨c, d, h1, h2, h3⟩ := hx.two
    have e1 : cs = #[c, d] := Array.ext' h1
    subst e1
    cases rel_s h2; cases rel_s h3
    simp [idK] at he; obtain ⟨rfl, rfl⟩ := he
    refine ⟨η, ro, w, _, _, _, rfl, rfl, ?_, r, Stp.refl _ _ _ _, rel_s' (x := .int _ _) rfl⟩
    simp [Builtin.min_, Builtin.min2]
  · cases he

/-- An operation. -/
theorem exec_ok {cx : Cx} (hc : CallSim cx.P cx.call) {o : Oper} {u : Out} (r : Rel η ro h w) (f : FrRel cx.N η ro fr a) (he : cx.exec o fr h idK idP = some (u, h'))
    {next : Act → World → Prop} {Q : Exit → Act → World → Prop}
    (hn : ∀ η' ro' w' v cv, u = .ret v → Rel η' ro' h' w' → Stp η ro h w η' ro' h' w' → VRel η' ro' v cv → next (a.put o.dst cv) w')
    (hp : ∀ η' ro' w' v cv, u = .pan v → Rel η' ro' h' w' → Stp η ro h w η' ro' h' w' → VRel η' ro' v cv → Q (.panic [{ v := cv, recovered := false }]) a w') :
    o.wp cx.P a w next Q := by
  -- an answer in the same world
  have same : ∀ {s : Sem Value} {v : V} {cv : Value}, u = .ret v → h' = h → execOp a.eval o = (do pure (.value (← s))) → s.run cx.P w = .ok cv w → VRel η ro v cv → o.wp cx.P a w next Q := by
    rintro s v cv rfl rfl h1 h2 h3
    exact wp_val h1 h2 (hn η ro w v cv rfl r (Stp.refl _ _ _ _) h3)
  have moved : ∀ {s : Sem Value} {v : V} {cv : Value} {η' : Et} {ro' : Ro} {w' : World}, u = .ret v → execOp a.eval o = (do pure (.value (← s))) → s.run cx.P w = .ok cv w' → Rel η' ro' h' w' → Stp η ro h w η' ro' h' w' → VRel η' ro' v cv → o.wp cx.P a w next Q := by
    rintro s v cv η' ro' w' rfl h1 h2 h3 h4 h5
    exact wp_val h1 h2 (hn η' ro' w' v cv rfl h3 h4 h5)
  have pureV : ∀ {v : V} {cv : Value}, u = .ret v → h' = h → execOp a.eval o = pure (.value cv) → VRel η ro v cv → o.wp cx.P a w next Q := by
    rintro v cv rfl rfl h1 h3
    unfold Oper.wp
    rw [h1]
    exact hn η ro w v cv rfl r (Stp.refl _ _ _ _) h3
  unfold Cx.exec at he
  split at he
  · rename_i x hop
    simp [idK] at he; obtain ⟨rfl, rfl⟩ := he
    exact pureV rfl rfl (by simp [execOp, hop]) (f.ev x)
  · rename_i x hop
    simp [idK] at he; obtain ⟨rfl, rfl⟩ := he
    exact pureV rfl rfl (by simp [execOp, hop]) (f.ev x)
  · rename_i c x y hop
    rw [Option.bind_eq_some_iff] at he; obtain ⟨q, hq, he⟩ := he
    rw [V.bool?_eq] at hq
    have hcv := f.ev (cx := cx) c
    rw [hq] at hcv
    have hcb : a.eval c = .bool q := rel_s hcv
    cases q
    · simp [idK] at he; obtain ⟨rfl, rfl⟩ := he
      unfold Oper.wp
      simp [execOp, hop, hcb, asBool, Oper.upon]
      exact hn η ro w _ _ rfl r (Stp.refl _ _ _ _) (f.ev y)
    · simp [idK] at he; obtain ⟨rfl, rfl⟩ := he
      unfold Oper.wp
      simp [execOp, hop, hcb, asBool, Oper.upon]
      exact hn η ro w _ _ rfl r (Stp.refl _ _ _ _) (f.ev x)
  · rename_i t hop
    rw [Option.bind_eq_some_iff] at he; obtain ⟨cs, hcs, he⟩ := he
    simp [idK] at he; obtain ⟨rfl, rfl⟩ := he
    obtain ⟨η', w', cv, h1, h2, h3, h4⟩ := sim_alloc r hcs
    exact moved rfl (by unfold execOp; rw [hop]) h1 h2 h3 h4
  · rename_i t x hop
    rw [Option.bind_eq_some_iff] at he; obtain ⟨cs, hcs, he⟩ := he
    simp [idK] at he; obtain ⟨rfl, rfl⟩ := he
    obtain ⟨η', w', cv, h1, h2, h3, h4⟩ := sim_box r hcs (f.ev x)
    exact moved rfl (by unfold execOp; rw [hop]) h1 h2 h3 h4
  · rename_i t ps hop
    obtain ⟨v, rfl, rfl, x', h3⟩ := (build_nat ..).got he
    obtain ⟨cv, h4, h5⟩ := sim_build (w := w) (cparts := ps.map fun x => (x.1, a.eval x.2)) h3 (by simpa [Cx.parts] using f.partsOk ps.toList)
    exact same rfl rfl (by unfold execOp; rw [hop]) h4 h5
  · rename_i t n ps hop
    obtain ⟨v, rfl⟩ := (buildSlice_nat ..).ret_of he
    obtain ⟨η', ro', w', cv, h4, h5, h6, h7⟩ := sim_buildSlice (cparts := ps.map fun x => (x.1, a.eval x.2)) r he (by simpa [Cx.parts] using f.partsOk ps.toList)
    exact moved rfl (by unfold execOp; rw [hop]) h4 h5 h6 h7
  · rename_i t x hop
    obtain ⟨v, rfl, rfl, x', h3⟩ := (load_nat ..).got he
    obtain ⟨cv, h4, h5⟩ := sim_load r h3 (f.ev x)
    exact same rfl rfl (by unfold execOp; rw [hop]) h4 h5
  · rename_i t x y hop
    obtain ⟨rfl, x', h3⟩ := (store_nat ..).ret_of he
    obtain ⟨w', h4, h5, h6⟩ := sim_store r h3 (f.ev x) (f.ev y)
    exact wp_unit (by unfold execOp; rw [hop]) h4 (hn η ro w' _ undef rfl h5 h6 rfl)
  · rename_i x hop
    split at he
    · rename_i i off hx
      simp [idK] at he; obtain ⟨rfl, rfl⟩ := he
      have hv := f.ev (cx := cx) x
      rw [hx] at hv
      have hv0 := hv
      obtain ⟨b, st, sz, h1, h2⟩ := hv
      exact pureV rfl rfl (cv := a.eval x) (by unfold execOp; rw [hop]; dsimp only; rw [h2]) hv0
    · rename_i cs hx
      simp [idK] at he; obtain ⟨rfl, rfl⟩ := he
      have hv := f.ev (cx := cx) x
      rw [hx] at hv
      have hv0 := hv
      obtain ⟨b, st, h1, h2⟩ := hv
      exact pureV rfl rfl (cv := a.eval x) (by unfold execOp; rw [hop]; dsimp only; rw [h1]) hv0
    · cases he
  · rename_i op t x y z hop
    obtain ⟨v, rfl, rfl, x', h3⟩ := (binOp_nat ..).got he
    obtain ⟨g1, g2, cv, h4, h5⟩ := sim_binOp (w := w) h3 (f.ev x) (f.ev y)
    refine same (cv := cv) (s := do eqGuard op t x y (a.eval x) (a.eval y); Go.binOp op t (a.eval x) (a.eval y)) rfl rfl (by unfold execOp; rw [hop]) ?_ h5
    rw [Sem.run_bind, guard_ok g1 g2]; exact h4
  · rename_i op t x hop
    obtain ⟨v, rfl, rfl, x', h3⟩ := (unOp_nat ..).got he
    obtain ⟨cv, h4, h5⟩ := sim_unOp (w := w) h3 (f.ev x)
    exact same rfl rfl (by unfold execOp; rw [hop]) h4 h5
  · rename_i s d x hop
    obtain ⟨v, rfl, rfl, x', h3⟩ := (convert_nat ..).got he
    obtain ⟨cv, h4, h5⟩ := sim_convert r h3 (f.ev x)
    exact same rfl rfl (by unfold execOp; rw [hop]) h4 h5
  · rename_i t l c hop
    obtain ⟨v, rfl⟩ := (makeSlice_nat ..).ret_of he
    obtain ⟨η', w', cv, h4, h5, h6, h7⟩ := sim_makeSlice r he (f.ev l) (f.ev c)
    exact moved rfl (by unfold execOp; rw [hop]) h4 h5 h6 h7
  · rename_i t hop
    obtain ⟨v, rfl⟩ := (makeMap_nat ..).ret_of he
    obtain ⟨η', w', cv, h4, h5, h6, h7⟩ := sim_makeMap r he
    exact moved rfl (by simp only [execOp, hop, Option.map_none]) h4 h5 h6 h7
  · rename_i t x lo hi mx hop
    obtain ⟨v, rfl, rfl, x', h3⟩ := (slice_nat ..).got he
    cases mx with
    | some m => simp [Go.Abs.slice] at h3
    | none =>
      obtain ⟨cv, h4, h5⟩ := sim_slice (chi := hi.map a.eval) (clo := lo.map a.eval) r h3 (f.ev x)
        (by intro v' hv; cases hi with
            | none => cases hv
            | some z => cases hv; exact ⟨_, rfl, f.ev z⟩) (by intro hv; cases hi with
            | none => rfl
            | some z => cases hv)
        (by intro v' hv; cases lo with
            | none => cases hv
            | some z => cases hv; exact ⟨_, rfl, f.ev z⟩) (by intro hv; cases lo with
            | none => rfl
            | some z => cases hv)
      exact same rfl rfl (by simp only [execOp, hop, Option.map_none]) h4 h5
  · rename_i t x i hop
    rw [Option.bind_eq_some_iff] at he; obtain ⟨fd, hfd, he⟩ := he
    rw [Option.bind_eq_some_iff] at he; obtain ⟨n, hsz, he⟩ := he
    split at he
    · cases he
    · rename_i h0
      rw [Option.bind_eq_some_iff] at he; obtain ⟨v, hv, he⟩ := he
      simp [idK] at he; obtain ⟨rfl, rfl⟩ := he
      obtain ⟨cv, h4, h5⟩ := sim_fieldAddr (w := w) hfd hsz h0 hv (f.ev x)
      exact same rfl rfl (by unfold execOp; rw [hop]) h4 h5
  · rename_i t x i hop
    obtain ⟨v, rfl, rfl, x', h3⟩ := (field_nat ..).got he
    obtain ⟨cv, h4, h5⟩ := sim_field (w := w) h3 (f.ev x)
    exact same rfl rfl (by unfold execOp; rw [hop]) h4 h5
  · rename_i t x i hop
    rw [Option.bind_eq_some_iff] at he; obtain ⟨n, hi, he⟩ := he
    obtain ⟨k, hk⟩ := asIx_eq.1 hi
    have hiv := f.ev (cx := cx) i
    rw [hk] at hiv
    have hie : a.eval i = .int k n := rel_s hiv
    obtain ⟨v, rfl, rfl, x', h3⟩ := (idx_nat ..).got he
    obtain ⟨cv, h4, h5⟩ := sim_idx (w := w) (k := k) h3 (f.ev x)
    exact same rfl rfl (by simp only [execOp, hop, hie]) h4 h5
  · rename_i t x i hop
    rw [Option.bind_eq_some_iff] at he; obtain ⟨n, hi, he⟩ := he
    obtain ⟨k, hk⟩ := asIx_eq.1 hi
    have hiv := f.ev (cx := cx) i
    rw [hk] at hiv
    have hie : a.eval i = .int k n := rel_s hiv
    obtain ⟨v, rfl, rfl, x', h3⟩ := (index_nat ..).got he
    obtain ⟨cv, h4, h5⟩ := sim_index (w := w) (k := k) h3 (f.ev x)
    exact same rfl rfl (by simp only [execOp, hop, hie]) h4 h5
  · rename_i t m i ok hop
    obtain ⟨v, rfl, rfl, x', h3⟩ := (lookup_nat ..).got he
    obtain ⟨cv, h4, h5⟩ := sim_lookup r h3 (f.ev m) (f.ev i)
    exact same rfl rfl (by unfold execOp; rw [hop]) h4 h5
  · rename_i t m i x hop
    obtain ⟨rfl, x', h3⟩ := (mapUpdate_nat ..).ret_of he
    obtain ⟨w', h4, h5, h6⟩ := sim_mapUpdate r h3 (f.ev m) (f.ev i) (f.ev x)
    exact wp_unit (by unfold execOp; rw [hop]) h4 (hn η ro w' _ undef rfl h5 h6 rfl)
  · rename_i t i hop
    split at he
    · rename_i l hl
      rw [Option.bind_eq_some_iff] at he; obtain ⟨v, hv, he⟩ := he
      obtain ⟨v', rfl, rfl, x', h3⟩ := (coe_nat ..).got he
      cases coe_ok h3
      have hiv := f.ev (cx := cx) t
      rw [hl] at hiv
      obtain ⟨cvs, h4, h5⟩ := hiv
      obtain ⟨c, h6, h7⟩ := h5.get hv
      exact same rfl rfl (by unfold execOp; rw [hop]) (by rw [h4]; simp only [Instr.extract]; simp at h6; rw [h6]; rfl) h7
    · cases he
  · rename_i c hop
    split at he
    · rename_i g hcal
      split at he
      · rename_i g' cap hg
        have hiv := f.ev (cx := cx) g
        rw [hg] at hiv
        obtain ⟨cvs, h4, h5⟩ := hiv
        cases hcall : cx.call g' (List.map (cx.ev fr) c.args.toList ++ cap) h with
        | none => rw [hcall] at he; cases he
        | some q =>
          obtain ⟨u', h1⟩ := q
          rw [hcall] at he
          have hargs : VRels η ro (List.map (cx.ev fr) c.args.toList ++ cap) (c.args.map a.eval ++ cvs).toList := by
            simp only [Array.toList_append, Array.toList_map]; exact (f.evs c.args.toList).append h5
          obtain ⟨⟨fn, hf1, hf2, hf3⟩, hC⟩ := hc g' _ _ h η ro w u' h1 r hargs hcall
          have hex : execOp a.eval o = callFunc g' (c.args.map a.eval ++ cvs) := by
            simp only [execOp, hop, resolve, hcal, h4, Deferred.ofValue]
            simp [invoke]
          unfold Oper.wp
          have hrun : (callFunc g' (c.args.map a.eval ++ cvs)).run cx.P w = .ok (.enter g' (c.args.map a.eval ++ cvs)) w := by
            have hb : fn.body.isNone = false := by cases hq : fn.body <;> simp_all
            simp [callFunc, hf1, hf2]
            intro hq; rw [hq] at hb; cases hb
          rw [hex, hrun, Oper.upon_enter]
          refine hC.mono ?_
          rintro e w' ⟨η', ro', b1, b2, b3⟩
          cases u' with
          | ret v =>
            obtain ⟨cv, rfl, b4⟩ := b3
            obtain ⟨v', rfl, rfl, x', h3⟩ := (coe_nat ..).got he
            cases coe_ok h3
            exact hn η' ro' w' _ cv rfl b1 b2 b4
          | pan v =>
            obtain ⟨cv, rfl, b4⟩ := b3
            simp [onCall, idP] at he; obtain ⟨rfl, rfl⟩ := he
            exact hp η' ro' w' _ cv rfl b1 b2 b4
      · cases he
    · rename_i b hcal
      have hargs : VRels η ro (List.map (cx.ev fr) c.args.toList) (c.args.map a.eval).toList := by
        simp only [Array.toList_map]; exact f.evs c.args.toList
      obtain ⟨η', ro', w', v, cv, s, rfl, h4, h5, h6, h7, h8⟩ := sim_builtin (ty := o.type) (consts := c.args.map fun | .const _ => true | _ => false) r he hargs
      refine moved rfl ?_ h5 h6 h7 h8
      simp only [execOp, hop, resolve, hcal]
      simp only [pure_bind, invoke]
      exact h4
    · cases he
  · cases he
end
end Go.Abs
