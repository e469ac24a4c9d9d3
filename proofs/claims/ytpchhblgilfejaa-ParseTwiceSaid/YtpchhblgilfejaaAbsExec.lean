/-
  One operation of a region: the abstract machine's step, held against Go's.
-/
import Derived.Test.YtpchhblgilfejaaAbsHeap3
import Derived.KernelRfl
import Derived.Laws.StructEq
import Derived.Laws.Pointers
set_option autoImplicit false
set_option linter.unusedVariables false
set_option linter.unusedSimpArgs false
namespace Go.Abs
open Go

/-- A function's temporaries. -/
structure FrRel (N : Nat) (ds : List Deferred) (η : Et) (ro : Ro) (fr : Fr) (a : Act) : Prop where
  size : a.tmps.size = N
  at_ : ∀ i, VRel η ro (fr i) (a.tmps.getD i undef)
  defers : a.defers = ds
  glob : GOk ro

section
variable {P : Program} {η η' : Et} {ro ro' : Ro} {h h' : H} {w w' : World} {N : Nat} {ds : List Deferred} {fr : Fr} {a : Act}

theorem FrRel.mono (f : FrRel N ds η ro fr a) (he : η.le η') (hr : ro.le ro') : FrRel N ds η' ro' fr a := ⟨f.size, fun i => (f.at_ i).mono he hr, f.defers, f.glob.mono hr⟩
theorem FrRel.no (f : FrRel N ds η ro fr a) (hr : ro.le ro') : FrRel N ds η' ro' noFr a := ⟨f.size, fun _ => trivial, f.defers, f.glob.mono hr⟩
theorem FrRel.ev {cx : Cx} (f : FrRel N ds η ro fr a) (x : Operand) : VRel η ro (cx.ev fr x) (a.eval x) := by
  unfold Cx.ev
  split
  · exact f.at_ _
  · rename_i cs
    split
    · rename_i hc
      have h1 := List.all_eq_true.1 hc
      exact ⟨cs, rfl, rels_s _ h1, h1⟩
    · trivial
  · trivial
  · rename_i v hn1 hn2
    refine rel_s' ?_
    unfold Value.oneCell'
    split
    · rename_i cs; exact absurd rfl (hn1 cs)
    · rename_i cs; exact absurd rfl (hn2 cs)
    · rfl
  · rename_i g
    split
    · rename_i cs hg; exact ⟨g, 0, rfl, f.glob g cs hg⟩
    · trivial
  · exact ⟨#[], rfl, trivial⟩
theorem FrRel.evs {cx : Cx} (f : FrRel N ds η ro fr a) : ∀ (l : List Operand), VRels η ro (l.map (cx.ev fr)) (l.map a.eval)
  | [] => trivial
  | x :: l => ⟨f.ev x, FrRel.evs f l⟩
theorem FrRel.partsOk {cx : Cx} (f : FrRel N ds η ro fr a) : ∀ (l : List (Nat × Operand)), Parts η ro (l.map fun x => (x.1, cx.ev fr x.2)) (l.map fun x => (x.1, a.eval x.2))
  | [] => trivial
  | x :: l => ⟨⟨rfl, f.ev (cx := cx) x.2⟩, FrRel.partsOk f l⟩
theorem FrRel.put (f : FrRel N ds η ro fr a) {d : Option Nat} (hd : okDst N d = true) (he : η.le η') (hr : ro.le ro') {v : V} {cv : Value} (hv : VRel η' ro' v cv) : FrRel N ds η' ro' (put fr d v) (a.put d cv) := by
  cases d with
  | none => exact f.mono he hr
  | some d =>
    simp only [okDst, decide_eq_true_eq] at hd
    refine ⟨by simp [Act.put, f.size], fun i => ?_, f.defers, f.glob.mono hr⟩
    simp only [Go.Abs.put, Go.Abs.upd, Act.put]
    by_cases hi : i = d
    · subst hi
      rw [if_pos rfl]
      have : (a.tmps.setIfInBounds i cv).getD i undef = cv := by simp [Array.getD, f.size, hd]
      rw [this]; exact hv
    · rw [if_neg hi]
      have : (a.tmps.setIfInBounds d cv).getD i undef = a.tmps.getD i undef := by
        simp only [Array.getD_eq_getD_getElem?, Array.getElem?_setIfInBounds]
        rw [if_neg (fun e => hi e.symm)]
      rw [this]; exact (f.at_ i).mono he hr

/-- How a call ends. -/
def After (η : Et) (ro : Ro) (h : H) (w : World) (o : Out) (h' : H) (e : Ending) (w' : World) : Prop :=
  ∃ η' ro', Rel η' ro' h' w' ∧ Stp η ro h w η' ro' h' w' ∧
    match o with
    | .ret v => ∃ cv, e = .returned cv ∧ VRel η' ro' v cv
    | .pan v => ∃ cv, e = .panicked [{ v := cv, recovered := false }] ∧ VRel η' ro' v cv
def CallSim (P : Program) (call : CallF) : Prop :=
  ∀ (f : FuncId) (args : List V) (cargs : Array Value) (h : H) (η : Et) (ro : Ro) (w : World) (o : Out) (h' : H), Rel η ro h w → VRels η ro args cargs.toList →
    call f args h = some (o, h') → (∃ fn, P.funcs[f]? = some fn ∧ fn.name ≠ "runtime.NumGoroutine" ∧ fn.body.isSome = true) ∧ Calls P f cargs w (After η ro h w o h')

theorem wp_val {o : Oper} {s : Sem Value} {cv : Value} {next : Act → World → Prop} {Q : Exit → Act → World → Prop} (e : execOp a.eval o = (do pure (.value (← s)))) (hs : s.run P w = .ok cv w') (hn : next (a.put o.dst cv) w') : o.wp P a w next Q := by
  unfold Oper.wp
  rw [e, Sem.run_bind, hs]
  exact hn
theorem wp_unit {o : Oper} {s : Sem Unit} {next : Act → World → Prop} {Q : Exit → Act → World → Prop} (e : execOp a.eval o = (do s; pure .skip)) (hs : s.run P w = .ok () w') (hn : next (a.put o.dst undef) w') : o.wp P a w next Q := by
  unfold Oper.wp
  rw [e, Sem.run_bind, hs]
  exact hn

theorem guard_ok {op : BinOp} {t : TypeId} {x y : Operand} {ca cb : Value} (h1 : ∀ xs, ca ≠ .agg xs) (h2 : ca ≠ .nilIface) : (eqGuard op t x y ca cb).run P w = .ok () w := by
  unfold eqGuard
  cases op <;> simp <;> cases ca <;> simp_all
theorem equal_bool {t : TypeId} {m n : Bool} (hu : P.underlying t = some .bool) : (Op.equal t (.bool m) (.bool n)).run P w = .ok (m == n) w := by
  unfold Op.equal Op.maxDepth
  rw [Op.equalIn, Sem.run_bind, run_ul hu]
  rfl
theorem eql_bool (t : TypeId) (m n : Bool) : Go.binOp .eql t (.bool m) (.bool n) = (do pure (.bool (← Op.equal t (.bool m) (.bool n)))) := rfl
theorem neq_bool (t : TypeId) (m n : Bool) : Go.binOp .neq t (.bool m) (.bool n) = (do pure (.bool (!(← Op.equal t (.bool m) (.bool n))))) := rfl
theorem eq1_ok {t : TypeId} {x y : V} {a b : Value} {d : Nat} {k : Bool → R} {r : Out × H} (he : eq1 P t x y k = some r) (hx : VRel η ro x a) (hy : VRel η ro y b) :
    ∃ c, (Op.equalIn (d + 1) t a b).run P w = .ok c w ∧ k c = some r := by
  unfold eq1 at he
  split at he
  · rename_i ik hu
    rw [Option.bind_eq_some_iff] at he; obtain ⟨m, h1, he⟩ := he
    rw [Option.bind_eq_some_iff] at he; obtain ⟨n, h2, he⟩ := he
    rw [V.int?_eq] at h1 h2; subst h1; subst h2
    cases rel_s hx; cases rel_s hy
    exact ⟨_, run_equalIn_int w d t ik ik m n hu, he⟩
  · rename_i hu
    rw [Option.bind_eq_some_iff] at he; obtain ⟨m, h1, he⟩ := he
    rw [Option.bind_eq_some_iff] at he; obtain ⟨n, h2, he⟩ := he
    rw [V.bool?_eq] at h1 h2; subst h1; subst h2
    cases rel_s hx; cases rel_s hy
    exact ⟨_, run_equalIn_bool w d t m n hu, he⟩
  · rename_i hu
    rw [Option.bind_eq_some_iff] at he; obtain ⟨m, h1, he⟩ := he
    rw [Option.bind_eq_some_iff] at he; obtain ⟨n, h2, he⟩ := he
    rw [V.str?_eq] at h1 h2; subst h1; subst h2
    cases rel_s hx; cases rel_s hy
    exact ⟨_, run_equalIn_string w d t m n hu, he⟩
  · cases he
theorem part1 {t : TypeId} {xs : Array Value} {off : Nat} {x : Value} (hu : agg? P t = some false) (hx : xs[off]? = some x) : (Go.part t xs off).run P w = .ok x w := by
  simp [Go.part, run_ag hu, hx]
theorem eq1_ag {t : TypeId} {x y : V} {k : Bool → R} {r : Out × H} (he : eq1 P t x y k = some r) : agg? P t = some false := by
  unfold eq1 at he
  split at he <;> rename_i hu <;> first | (simp [agg?, hu]; done) | cases he
theorem eqFs_ok {d : Nat} {cxs cys : Array Value} {xs ys : List V} (hx : VRels η ro xs cxs.toList) (hy : VRels η ro ys cys.toList) : ∀ (fs : List Field) {k : Bool → R} {r : Out × H}, eqFs P fs xs ys k = some r →
    ∃ c, (Op.eqFields (d + 1) cxs cys fs).run P w = .ok c w ∧ k c = some r
  | [], k, r, he => ⟨true, rfl, he⟩
  | f :: fs, k, r, he => by
    unfold eqFs at he
    split at he
    · cases he
    rename_i hn
    rw [Option.bind_eq_some_iff] at he; obtain ⟨x, h1, he⟩ := he
    rw [Option.bind_eq_some_iff] at he; obtain ⟨y, h2, he⟩ := he
    have hag := eq1_ag he
    obtain ⟨a, a1, a2⟩ := hx.get h1
    obtain ⟨b, b1, b2⟩ := hy.get h2
    obtain ⟨c, c1, c2⟩ := eq1_ok (w := w) (d := d) he a2 b2
    obtain ⟨c', d1, d2⟩ := eqFs_ok (d := d) hx hy fs c2
    have p1 : (Go.part f.type cxs f.offset).run P w = .ok a w := part1 hag (by simpa using a1)
    have p2 : (Go.part f.type cys f.offset).run P w = .ok b w := part1 hag (by simpa using b1)
    refine ⟨c && c', ?_, d2⟩
    unfold Op.eqFields
    rw [if_pos hn]
    simp only [Sem.run_bind, p1, p2, c1, Result.andThen_ok]
    cases c
    · simp
    · simpa using d1
theorem eqS_ok {t : TypeId} {xs ys : List V} {ca cb : Value} {k : Bool → R} {r : Out × H} (he : eqS P t xs ys k = some r) (hx : VRel η ro (.agg xs) ca) (hy : VRel η ro (.agg ys) cb) :
    ∃ cxs cys c, ca = .agg cxs ∧ cb = .agg cys ∧ P.eqGuardType P.depth t = false ∧ (Op.equalIn 10000 t ca cb).run P w = .ok c w ∧ k c = some r := by
  obtain ⟨cxs, rfl, hx, _⟩ := hx
  obtain ⟨cys, rfl, hy, _⟩ := hy
  unfold eqS at he
  split at he
  · rename_i fs hu
    split at he
    · rename_i hc
      obtain ⟨c, c1, c2⟩ := eqFs_ok (w := w) (d := 9998) hx hy fs.toList he
      have hfs : P.fieldsOf t = fs := by unfold Program.fieldsOf; rw [hu]
      refine ⟨cxs, cys, c, rfl, rfl, hc.2, ?_, c2⟩
      rw [show (10000 : Nat) = 9999 + 1 from rfl, run_equalIn_struct w 9999 t cxs cys (by rw [hfs]; exact hu) hc.1, hfs]
      exact c1
    · cases he
  · cases he
theorem ptrNil_ok {x : V} {a : Bool} {ca : Value} (h : ptrNil x = some a) (hx : VRel η ro x ca) : ∃ p, ca = .pointer p ∧ p.isNone = a := by
  unfold ptrNil at h
  split at h <;> cases h
  · obtain ⟨b, st, sz, _, rfl⟩ := hx; exact ⟨_, rfl, rfl⟩
  · obtain ⟨b, o, rfl, _⟩ := hx; exact ⟨_, rfl, rfl⟩
  · cases rel_s hx; exact ⟨none, rfl, rfl⟩
theorem eqP_ok {t : TypeId} {x y : V} {ca cb : Value} {k : Bool → R} {r : Out × H} (he : eqP P t x y k = some r) (hx : VRel η ro x ca) (hy : VRel η ro y cb) :
    ∃ p, ca = .pointer p ∧ cb = .pointer none ∧ P.underlying t = some (.pointer (P.pointee t)) ∧ k p.isNone = some r := by
  unfold eqP at he
  split at he
  · rename_i e hu
    rw [Option.bind_eq_some_iff] at he; obtain ⟨a, h1, he⟩ := he
    rw [Option.bind_eq_some_iff] at he; obtain ⟨b, h2, he⟩ := he
    split at he
    · rename_i hb
      subst hb
      obtain ⟨p, rfl, rfl⟩ := ptrNil_ok h1 hx
      obtain ⟨q, rfl, hq⟩ := ptrNil_ok h2 hy
      have : q = none := by cases q <;> simp_all
      subst this
      refine ⟨p, rfl, rfl, ?_, he⟩
      unfold Program.pointee; rw [hu]
    · cases he
  · cases he
theorem equal_slice {t el : TypeId} {A : Option Addr} {n c : Nat} (hu : P.underlying t = some (.slice el)) : (Op.equal t (.slice A n c) (.slice none 0 0)).run P w = .ok A.isNone w := by
  unfold Op.equal Op.maxDepth
  rw [Op.equalIn, Sem.run_bind, run_ul hu]
  cases A <;> rfl
theorem mapNil_ok {x : V} {a : Bool} {ca : Value} (h : mapNil x = some a) (hx : VRel η ro x ca) : ∃ p, ca = .map p ∧ p.isNone = a := by
  unfold mapNil at h
  split at h <;> cases h
  · obtain ⟨b, _, rfl⟩ := hx; exact ⟨_, rfl, rfl⟩
  · cases rel_s hx; exact ⟨none, rfl, rfl⟩
theorem eqM_ok {neg : Bool} {x y v : V} {ca cb : Value} {e : H} (he : eqM neg x y idV = some (.ret v, e)) (hx : VRel η ro x ca) (hy : VRel η ro y cb) :
    ∃ p, ca = .map p ∧ cb = .map none ∧ VRel η ro v (.bool (neg ^^ p.isNone)) := by
  unfold eqM at he
  rw [Option.bind_eq_some_iff] at he; obtain ⟨a, h1, he⟩ := he
  rw [Option.bind_eq_some_iff] at he; obtain ⟨b, h2, he⟩ := he
  split at he
  · rename_i hb
    subst hb
    simp only [idV, Option.some.injEq, Prod.mk.injEq, Out.ret.injEq] at he
    obtain ⟨rfl, _⟩ := he
    obtain ⟨p, rfl, rfl⟩ := mapNil_ok h1 hx
    obtain ⟨q, rfl, hq⟩ := mapNil_ok h2 hy
    have : q = none := by cases q <;> simp_all
    subst this
    exact ⟨p, rfl, rfl, rel_s' rfl⟩
  · cases he
theorem equal_map {t kt et : TypeId} {p : Option Nat} (hu : P.underlying t = some (.map kt et)) : (Op.equal t (.map p) (.map none)).run P w = .ok p.isNone w := by
  unfold Op.equal Op.maxDepth
  rw [Op.equalIn, Sem.run_bind, run_ul hu]
  cases p <;> rfl
theorem eqL_ok {neg : Bool} {x y v : V} {ca cb : Value} {e : H} (he : eqL neg x y idV = some (.ret v, e)) (hx : VRel η ro x ca) (hy : VRel η ro y cb) :
    ∃ A n c, ca = .slice A n c ∧ cb = .slice none 0 0 ∧ VRel η ro v (.bool (neg ^^ A.isNone)) := by
  unfold eqL at he
  split at he
  · cases rel_s hy
    split at he
    · cases rel_s hx
      simp [idV] at he; obtain ⟨rfl, _⟩ := he
      exact ⟨_, _, _, rfl, rfl, (by cases neg <;> exact rel_s' rfl)⟩
    · obtain ⟨A, c, rfl, hc, hd⟩ := hx
      refine ⟨_, _, _, rfl, rfl, ?_⟩
      split at he
      · simp [idV] at he; obtain ⟨rfl, _⟩ := he; exact ⟨_, rfl⟩
      · rename_i hn
        simp [idV] at he; obtain ⟨rfl, _⟩ := he
        rcases hd with ⟨h0, _⟩ | ⟨b, o, rfl, _⟩
        · exact absurd h0 hn
        · exact (by cases neg <;> exact rel_s' rfl)
    · obtain ⟨A, c, rfl, hc, hd⟩ := hx
      refine ⟨_, _, _, rfl, rfl, ?_⟩
      split at he
      · simp [idV] at he; obtain ⟨rfl, _⟩ := he; exact ⟨_, rfl⟩
      · rename_i hn
        simp [idV] at he; obtain ⟨rfl, _⟩ := he
        rcases hd with ⟨h0, _⟩ | ⟨b, o, rfl, _⟩
        · exact absurd h0 hn
        · exact (by cases neg <;> exact rel_s' rfl)
    · rcases hx with ⟨b, st, sz, c, o, _, rfl, _⟩ | ⟨_, h0, _, rfl⟩
      · refine ⟨_, _, _, rfl, rfl, ?_⟩
        split at he
        · simp [idV] at he; obtain ⟨rfl, _⟩ := he; exact ⟨_, rfl⟩
        · simp [idV] at he; obtain ⟨rfl, _⟩ := he; exact (by cases neg <;> exact rel_s' rfl)
      · rw [if_pos h0] at he
        simp [idV] at he; obtain ⟨rfl, _⟩ := he
        exact ⟨_, _, _, rfl, rfl, _, rfl⟩
    · cases he
  · cases he
theorem eql_slice (t : TypeId) (A : Option Addr) (n c : Nat) : Go.binOp .eql t (.slice A n c) (.slice none 0 0) = (do pure (.bool (← Op.equal t (.slice A n c) (.slice none 0 0)))) := rfl
theorem neq_slice (t : TypeId) (A : Option Addr) (n c : Nat) : Go.binOp .neq t (.slice A n c) (.slice none 0 0) = (do pure (.bool (!(← Op.equal t (.slice A n c) (.slice none 0 0))))) := rfl
theorem eql_map (t : TypeId) (p : Option Nat) : Go.binOp .eql t (.map p) (.map none) = (do pure (.bool (← Op.equal t (.map p) (.map none)))) := rfl
theorem neq_map (t : TypeId) (p : Option Nat) : Go.binOp .neq t (.map p) (.map none) = (do pure (.bool (!(← Op.equal t (.map p) (.map none))))) := rfl
theorem equal_iface {t : TypeId} {ms : Array (String × TypeId)} {ca : Value} (hu : P.underlying t = some (.interface ms)) {q : Bool} (hc : (ca = .nilIface ∧ q = true) ∨ ∃ a b, ca = .iface a b ∧ q = false) : (Op.equal t ca .nilIface).run P w = .ok q w := by
  unfold Op.equal Op.maxDepth
  rw [Op.equalIn, Sem.run_bind, run_ul hu]
  rcases hc with ⟨rfl, rfl⟩ | ⟨a, b, rfl, rfl⟩ <;> rfl
theorem eqIf_ok {neg : Bool} {x y v : V} {ca cb : Value} {e : H} (he : eqIf neg x y idV = some (.ret v, e)) (hx : VRel η ro x ca) (hy : VRel η ro y cb) :
    ∃ q, ((ca = .nilIface ∧ q = true) ∨ ∃ a b, ca = .iface a b ∧ q = false) ∧ cb = .nilIface ∧ VRel η ro v (.bool (neg ^^ q)) := by
  unfold eqIf at he
  split at he
  · cases rel_s hx; cases rel_s hy
    simp only [idV, Option.some.injEq, Prod.mk.injEq, Out.ret.injEq] at he; obtain ⟨rfl, _⟩ := he
    exact ⟨true, .inl ⟨rfl, rfl⟩, rfl, rel_s' rfl⟩
  · cases rel_s hx; cases rel_s hy
    simp only [idV, Option.some.injEq, Prod.mk.injEq, Out.ret.injEq] at he; obtain ⟨rfl, _⟩ := he
    exact ⟨false, .inr ⟨_, _, rfl, rfl⟩, rfl, rel_s' rfl⟩
  · cases he
theorem guard_iface {op : BinOp} {t : TypeId} {ms : Array (String × TypeId)} (hu : P.underlying t = some (.interface ms)) (hm : ms.isEmpty = true) {x y : Operand} {ca : Value} (hc : ca = .nilIface ∨ ∃ a b, ca = .iface a b) : (eqGuard op t x y ca .nilIface).run P w = .ok () w := by
  rcases hc with rfl | ⟨a, b, rfl⟩
  · have h0 : (Op.eqGuardIn Op.maxDepth t .nilIface .nilIface).run P w = .ok false w := by
      unfold Op.maxDepth
      rw [Op.eqGuardIn, Sem.run_bind, run_ul hu]
      simp [hm]
    have key : ∀ b : Bool, ((if b = true then pure () else (do
        let q ← Op.eqGuardIn Op.maxDepth t .nilIface .nilIface
        if q = true then unsupported (.noEntry "binop/eql: two nil values of an interface type with methods, neither of them the literal nil") else pure ()) : Sem Unit)).run P w = .ok () w := by
      intro b
      cases b
      · rw [if_neg (by simp), Sem.run_bind, h0]; rfl
      · rfl
    unfold eqGuard
    cases op <;> first
      | rfl
      | (simp only [Bool.not_true, Bool.false_eq_true, if_false]
         exact key _)
  · exact guard_ok (by simp) (by simp)
theorem eql_iface (t : TypeId) (ca : Value) (hc : ca = .nilIface ∨ ∃ a b, ca = .iface a b) : Go.binOp .eql t ca .nilIface = (do pure (.bool (← Op.equal t ca .nilIface))) := by rcases hc with rfl | ⟨a, b, rfl⟩ <;> rfl
theorem neq_iface (t : TypeId) (ca : Value) (hc : ca = .nilIface ∨ ∃ a b, ca = .iface a b) : Go.binOp .neq t ca .nilIface = (do pure (.bool (!(← Op.equal t ca .nilIface)))) := by rcases hc with rfl | ⟨a, b, rfl⟩ <;> rfl
theorem sim_binOp {op : BinOp} {t : TypeId} {x y v : V} {ca cb : Value} {e : H} (he : Go.Abs.binOp P op t x y idV = some (.ret v, e)) (hx : VRel η ro x ca) (hy : VRel η ro y cb) :
    (∀ ox oy : Operand, (eqGuard op t ox oy ca cb).run P w = .ok () w) ∧ ∃ cv, (Go.binOp op t ca cb).run P w = .ok cv w ∧ VRel η ro v cv := by
  unfold Go.Abs.binOp at he
  split at he
  · rename_i k m k' n
    cases rel_s hx; cases rel_s hy
    refine ⟨fun _ _ => guard_ok (by simp) (by simp), ?_⟩
    split at he
    · exact sim_shiftBin (.inl rfl) he t
    · exact sim_shiftBin (.inr rfl) he t
    · rename_i hn1 hn2
      split at he
      · rename_i hk; subst hk
        exact sim_intBin ⟨fun e => hn1 e, fun e => hn2 e⟩ he t
      · cases he
  · cases rel_s hx; cases rel_s hy
    exact ⟨fun _ _ => guard_ok (by simp) (by simp), sim_strBin he t⟩
  · cases rel_s hx; cases rel_s hy
    refine ⟨fun _ _ => guard_ok (by simp) (by simp), ?_⟩
    split at he
    · rename_i hu
      simp [idV] at he; obtain ⟨rfl, _⟩ := he
      refine ⟨_, ?_, rel_s' rfl⟩
      rw [eql_bool, Sem.run_bind, equal_bool hu]; rfl
    · rename_i hu
      simp [idV] at he; obtain ⟨rfl, _⟩ := he
      refine ⟨_, ?_, rel_s' rfl⟩
      rw [neq_bool, Sem.run_bind, equal_bool hu]; rfl
    · cases he
  · split at he
    · obtain ⟨cxs, cys, c, rfl, rfl, g, c1, c2⟩ := eqS_ok (w := w) he hx hy
      simp [idV] at c2; obtain ⟨rfl, _⟩ := c2
      exact ⟨fun ox oy => run_eqGuard_agg w _ t ox oy cxs cys g, _, by rw [run_eql_struct, c1]; rfl, rel_s' rfl⟩
    · obtain ⟨cxs, cys, c, rfl, rfl, g, c1, c2⟩ := eqS_ok (w := w) he hx hy
      simp [idV] at c2; obtain ⟨rfl, _⟩ := c2
      exact ⟨fun ox oy => run_eqGuard_agg w _ t ox oy cxs cys g, _, by rw [run_neq_struct, c1]; rfl, rel_s' rfl⟩
    · cases he
  · split at he
    · unfold eqN at he
      split at he
      · rename_i el hu
        obtain ⟨A, n, c, rfl, rfl, hv⟩ := eqL_ok he hx hy
        refine ⟨fun _ _ => guard_ok (by simp) (by simp), _, ?_, hv⟩
        rw [eql_slice t, Sem.run_bind, equal_slice hu]; simp
      · rename_i kt et hu
        obtain ⟨p, rfl, rfl, hv⟩ := eqM_ok he hx hy
        refine ⟨fun _ _ => guard_ok (by simp) (by simp), _, ?_, hv⟩
        rw [eql_map t, Sem.run_bind, equal_map hu]; simp
      · rename_i ms hu
        split at he
        · rename_i hm
          obtain ⟨q, hq, rfl, hv⟩ := eqIf_ok he hx hy
          have hq' : ca = .nilIface ∨ ∃ a b, ca = .iface a b := by rcases hq with ⟨q, _⟩ | ⟨a, b, q, _⟩; exact .inl q; exact .inr ⟨a, b, q⟩
          refine ⟨fun _ _ => guard_iface hu hm hq', _, ?_, hv⟩
          rw [eql_iface t ca hq', Sem.run_bind, equal_iface hu hq]; simp
        · cases he
      · obtain ⟨p, rfl, rfl, hu, c2⟩ := eqP_ok he hx hy
        simp [idV] at c2; obtain ⟨rfl, _⟩ := c2
        exact ⟨fun _ _ => guard_ok (by simp) (by simp), _, run_eql_pointer_nil w t p hu, rel_s' rfl⟩
    · unfold eqN at he
      split at he
      · rename_i el hu
        obtain ⟨A, n, c, rfl, rfl, hv⟩ := eqL_ok he hx hy
        refine ⟨fun _ _ => guard_ok (by simp) (by simp), _, ?_, hv⟩
        rw [neq_slice t, Sem.run_bind, equal_slice hu]; simp
      · rename_i kt et hu
        obtain ⟨p, rfl, rfl, hv⟩ := eqM_ok he hx hy
        refine ⟨fun _ _ => guard_ok (by simp) (by simp), _, ?_, hv⟩
        rw [neq_map t, Sem.run_bind, equal_map hu]; simp
      · rename_i ms hu
        split at he
        · rename_i hm
          obtain ⟨q, hq, rfl, hv⟩ := eqIf_ok he hx hy
          have hq' : ca = .nilIface ∨ ∃ a b, ca = .iface a b := by rcases hq with ⟨q, _⟩ | ⟨a, b, q, _⟩; exact .inl q; exact .inr ⟨a, b, q⟩
          refine ⟨fun _ _ => guard_iface hu hm hq', _, ?_, hv⟩
          rw [neq_iface t ca hq', Sem.run_bind, equal_iface hu hq]; simp
        · cases he
      · obtain ⟨p, rfl, rfl, hu, c2⟩ := eqP_ok he hx hy
        simp only [idV, Option.some.injEq, Prod.mk.injEq, Out.ret.injEq, Bool.true_bne] at c2; obtain ⟨rfl, _⟩ := c2
        exact ⟨fun _ _ => guard_ok (by simp) (by simp), _, run_neq_pointer_nil w t p hu, rel_s' rfl⟩
    · cases he

theorem NatK.ret_of {f : (V → H → R) → R} (hf : NatK f) {u : Out} (e : f idK = some (u, h')) : ∃ v, u = .ret v := by
  cases u with
  | ret v => exact ⟨v, rfl⟩
  | pan v =>
    have h7 := hf.out idK fun v h => Option.none
    rw [e] at h7; cases h7
theorem NatH.ret_of {f : (H → R) → R} (hf : NatH f) {u : V} {o : Out} (e : f (fun h => idK u h) = some (o, h')) : o = .ret u ∧ ∃ x, f idH = some (x, h') := by
  rw [hf.out] at e
  cases hq : f idH with
  | none => rw [hq] at e; cases e
  | some r =>
    obtain ⟨o', x⟩ := r
    rw [hq] at e
    cases o' with
    | pan v => cases e
    | ret v => simp [onH, idK] at e; exact ⟨e.1.symm, _, by rw [e.2]⟩

theorem VRels.one {v : V} {l : List Value} (r : VRels η ro [v] l) : ∃ c, l = [c] ∧ VRel η ro v c := by
  match l, r with
  | [c], r => exact ⟨c, rfl, r.1⟩
theorem VRels.two {v u : V} {l : List Value} (r : VRels η ro [v, u] l) : ∃ c d, l = [c, d] ∧ VRel η ro v c ∧ VRel η ro u d := by
  match l, r with
  | [c, d], r => exact ⟨c, d, rfl, r.1, r.2.1⟩
theorem sim_builtin {b : Builtin} {at_ : Array TypeId} {ty : TypeId} {consts : Array Bool} {xs : List V} {cs : Array Value} {u : Out} (r : Rel η ro h w) (he : Go.Abs.builtin P b at_ xs h idK = some (u, h')) (hx : VRels η ro xs cs.toList) :
    ∃ η' ro' w' v cv s, u = .ret v ∧ Go.builtin b at_ ty consts cs = (do pure (.value (← s))) ∧ s.run P w = .ok cv w' ∧ Rel η' ro' h' w' ∧ Stp η ro h w η' ro' h' w' ∧ VRel η' ro' v cv := by
  unfold Go.Abs.builtin at he
  split at he
  · rename_i t x hat
    obtain ⟨c, h1, h2⟩ := hx.one
    obtain ⟨v, rfl⟩ := (clearS_nat P t x h).ret_of he
    have e1 : cs = #[c] := Array.ext' h1
    have e2 : at_ = #[t] := Array.ext' hat
    subst e1; subst e2
    obtain ⟨w', cv, h4, h5, h6, h7⟩ := sim_clear (ty := ty) r he h2
    exact ⟨η, ro, w', v, cv, _, rfl, rfl, h4, h5, h6, h7⟩
  · rename_i t x hat
    obtain ⟨c, h1, h2⟩ := hx.one
    obtain ⟨v, rfl, rfl, x', h3⟩ := (len_nat P t x h).got he
    have e1 : cs = #[c] := Array.ext' h1
    have e2 : at_ = #[t] := Array.ext' hat
    subst e1; subst e2
    obtain ⟨cv, h4, h5⟩ := sim_len (ty := ty) r h3 h2
    exact ⟨η, ro, w, v, cv, _, rfl, rfl, h4, r, Stp.refl _ _ _ _, h5⟩
  · rename_i st xt s x hat
    obtain ⟨c, d, h1, h2, h3⟩ := hx.two
    have e1 : cs = #[c, d] := Array.ext' h1
    have e2 : at_ = #[st, xt] := Array.ext' hat
    subst e1; subst e2
    obtain ⟨v, rfl⟩ := (append_nat P st xt s x h).ret_of he
    obtain ⟨η', w', cv, h4, h5, h6, h7⟩ := sim_append (ty := ty) r he h2 h3
    exact ⟨η', ro, w', v, cv, _, rfl, rfl, h4, h5, h6, h7⟩
  · obtain ⟨c, d, h1, h2, h3⟩ := hx.two
    have e1 : cs = #[c, d] := Array.ext' h1
    subst e1
    cases rel_s h2; cases rel_s h3
    simp [idK] at he; obtain ⟨rfl, rfl⟩ := he
    refine ⟨η, ro, w, _, _, _, rfl, rfl, ?_, r, Stp.refl _ _ _ _, rel_s' (x := .int _ _) rfl⟩
    simp [Builtin.max_, Builtin.max2]
  · obtain ⟨c, d, h1, h2, h3⟩ := hx.two
    have e1 : cs = #[c, d] := Array.ext' h1
    subst e1
    cases rel_s h2; cases rel_s h3
    simp [idK] at he; obtain ⟨rfl, rfl⟩ := he
    refine ⟨η, ro, w, _, _, _, rfl, rfl, ?_, r, Stp.refl _ _ _ _, rel_s' (x := .int _ _) rfl⟩
    simp [Builtin.min_, Builtin.min2]
  · cases he

/-- what a call does to the heap, by the callee's policy -/
def CallPol (po : FuncId → Pol) (call : CallF) : Prop :=
  ∀ (f : FuncId) (args : List V) (h : H) (v : V) (g : H), call f args h = some (.ret v, g) →
    match po f with
    | .keep => True
    | .pure => g = h ∧ (args.all ripe = true → ∀ h', call f args h' = some (.ret v, h'))
    | .give => g = (if args.all ripe = true then h else deadAll h) ∧ (args.all ripe = true → ∀ h', call f args h' = some (.ret v, h'))
    | .own sh _ _ _ => match pinOf sh args with
      | none => ∃ rest, g = kill (takesL h (sh.map unpin) args ++ givs (sh.map unpin) args) 0 h ++ rest
      | some (_, p) => ∃ o rest, g = (kill (takesL h sh args ++ givs sh args) 0 h).set p o ++ rest
theorem coe1_ok {z : Value} {v : V} {u : Out} {g : H} (e : coe1 z v idV = some (u, g)) : u = .ret v := by
  unfold coe1 at e
  split at e <;> rw [Option.bind_eq_some_iff] at e <;> obtain ⟨x, h1, e⟩ := e <;> simp [idV] at e <;> obtain ⟨rfl, _⟩ := e
  · rw [V.int?_eq] at h1; rw [h1]
  · rw [V.bool?_eq] at h1; rw [h1]
  · rw [V.str?_eq] at h1; rw [h1]
  · unfold V.lst? at h1
    cases v <;> simp [V.f?] at h1
    rename_i y
    cases y <;> simp [F.lst?] at h1
    rw [← h1]
  · cases v <;> simp [V.f?] at h1; rw [h1]
theorem coeN_ok : ∀ (zs : List Value) (i : Nat) (cs : List V) {u : Out} {g : H}, coeN zs i cs (fun l => idV (.tup l)) = some (u, g) → u = .ret (.tup (cs.drop i))
  | [], i, cs, u, g, e => by
    unfold coeN at e
    split at e
    · rename_i h; simp [idV] at e; obtain ⟨rfl, _⟩ := e; rw [List.drop_of_length_le (by omega)]
    · cases e
  | z :: zs, i, cs, u, g, e => by
    unfold coeN at e
    rw [Option.bind_eq_some_iff] at e; obtain ⟨v, hv, e⟩ := e
    rw [(coe1_nat z v).out] at e
    cases hq : coe1 z v idV with
    | none => rw [hq] at e; cases e
    | some q =>
      obtain ⟨o, _⟩ := q
      rw [hq] at e
      cases coe1_ok hq
      simp only [onV] at e
      rw [(coeN_nat zs (i + 1) cs).out] at e
      cases hq2 : coeN zs (i + 1) cs (fun l => idV (.tup l)) with
      | none => rw [hq2] at e; cases e
      | some q =>
        obtain ⟨o, _⟩ := q
        rw [hq2] at e
        cases coeN_ok zs (i + 1) cs hq2
        simp [onV, idV] at e; obtain ⟨rfl, _⟩ := e
        obtain ⟨hlt, hx⟩ := List.getElem?_eq_some_iff.1 hv
        rw [List.drop_eq_getElem_cons hlt, hx]
theorem coeZ_ok {z : Value} {v : V} {u : Out} {g : H} (e : coeZ z v idV = some (u, g)) : u = .ret v := by
  unfold coeZ at e
  split at e
  · rename_i zs
    rw [Option.bind_eq_some_iff] at e; obtain ⟨cs, hc, e⟩ := e
    rw [(coeN_nat zs.toList 0 cs).out (fun l => idV (.agg l))] at e
    cases hq : coeN zs.toList 0 cs (fun l => idV (.tup l)) with
    | none => rw [hq] at e; cases e
    | some q =>
      obtain ⟨o, _⟩ := q
      rw [hq] at e
      cases coeN_ok _ _ _ hq
      simp [onV, idV] at e; obtain ⟨rfl, _⟩ := e
      cases v <;> simp [V.agg?] at hc; rw [hc]
  · exact coe1_ok e
theorem coeM_ok : ∀ (zs : List Value) (i : Nat) (cs : List V) {u : Out} {g : H}, coeM zs i cs (fun l => idV (.tup l)) = some (u, g) → u = .ret (.tup (cs.drop i))
  | [], i, cs, u, g, e => by
    unfold coeM at e
    split at e
    · rename_i h; simp [idV] at e; obtain ⟨rfl, _⟩ := e; rw [List.drop_of_length_le (by omega)]
    · cases e
  | z :: zs, i, cs, u, g, e => by
    unfold coeM at e
    rw [Option.bind_eq_some_iff] at e; obtain ⟨v, hv, e⟩ := e
    rw [(coeZ_nat z v).out] at e
    cases hq : coeZ z v idV with
    | none => rw [hq] at e; cases e
    | some q =>
      obtain ⟨o, _⟩ := q
      rw [hq] at e
      cases coeZ_ok hq
      simp only [onV] at e
      rw [(coeM_nat zs (i + 1) cs).out] at e
      cases hq2 : coeM zs (i + 1) cs (fun l => idV (.tup l)) with
      | none => rw [hq2] at e; cases e
      | some q =>
        obtain ⟨o, _⟩ := q
        rw [hq2] at e
        cases coeM_ok zs (i + 1) cs hq2
        simp [onV, idV] at e; obtain ⟨rfl, _⟩ := e
        obtain ⟨hlt, hx⟩ := List.getElem?_eq_some_iff.1 hv
        rw [List.drop_eq_getElem_cons hlt, hx]
theorem coeT_ok {z : Value} {v : V} {u : Out} {g : H} (e : coeT z v idV = some (u, g)) : ∃ v', u = .ret v' ∧ ∀ {η : Et} {ro : Ro} {cv : Value}, VRel η ro v cv → VRel η ro v' cv := by
  unfold coeT at e
  split at e
  · rename_i zs
    rw [Option.bind_eq_some_iff] at e; obtain ⟨cs, hc, e⟩ := e
    rw [(coeM_nat zs.toList 0 cs).out (fun l => idV (.tup l))] at e
    cases hq : coeM zs.toList 0 cs (fun l => idV (.tup l)) with
    | none => rw [hq] at e; cases e
    | some q =>
      obtain ⟨o, _⟩ := q
      rw [hq] at e
      cases coeM_ok _ _ _ hq
      simp [onV, idV] at e; obtain ⟨rfl, _⟩ := e
      cases v <;> simp [V.tup?] at hc
      rw [hc]; exact ⟨_, rfl, fun h => h⟩
  · rw [Option.bind_eq_some_iff] at e; obtain ⟨x, hx, e⟩ := e
    rw [Option.bind_eq_some_iff] at e; obtain ⟨q, hq, e⟩ := e
    simp [idV] at e; obtain ⟨rfl, _⟩ := e
    cases v <;> simp [V.f?] at hx
    subst hx
    exact ⟨_, rfl, fun h => sl_rel hq h⟩
  · cases coeZ_ok e; exact ⟨_, rfl, fun h => h⟩
/-- the objects that were told are those that are there -/
structure Told (n : Nat) (g acc acc' : H) : Prop where
  le : acc.length ≤ acc'.length
  old : ∀ j, j < acc.length → acc'[j]? = acc[j]?
  new : ∀ j, acc.length ≤ j → j < acc'.length → acc'[j]? = g[n + j]?
theorem Told.refl (n : Nat) (g acc : H) : Told n g acc acc := ⟨Nat.le_refl _, fun _ _ => rfl, fun j h1 h2 => absurd h2 (by omega)⟩
theorem Told.trans {n : Nat} {g a b c : H} (h : Told n g a b) (k : Told n g b c) : Told n g a c :=
  ⟨Nat.le_trans h.le k.le, fun j hj => (k.old j (Nat.lt_of_lt_of_le hj h.le)).trans (h.old j hj), fun j h1 h2 => by
    by_cases hb : j < b.length
    · rw [k.old j hb]; exact h.new j h1 hb
    · exact k.new j (by omega) h2⟩
theorem Told.one {n : Nat} {g acc : H} {o : Ob} (h : g[n + acc.length]? = some o) : Told n g acc (acc ++ [o]) :=
  ⟨by simp, fun j hj => by rw [List.getElem?_append_left hj], fun j h1 h2 => by
    simp at h2
    have : j = acc.length := by omega
    subst this; simp [h]⟩
theorem asFz_eq {g : H} {i : Nat} {c : List F} (h : asFz g i = some c) : g[i]? = some (.fz c) := by
  unfold asFz at h; split at h <;> simp_all
theorem asCells_eq {g : H} {i : Nat} {c : List V} (h : asCells g i = some c) : g[i]? = some (.cells c) := by
  unfold asCells at h; split at h <;> simp_all
theorem asMap_eq {g : H} {i : Nat} {c : KK × List (Value × F)} (h : asMap g i = some c) : g[i]? = some (.map c.1 c.2) := by
  unfold asMap at h; split at h
  · cases h; assumption
  · cases h
theorem asRef_eq {i es m : Nat} {v : V} (h : asRef i es v = some m) : v = .ref i 0 m es := by
  unfold asRef at h; split at h
  · split at h <;> simp_all
  · cases h
theorem asPtr_eq {i : Nat} {v : V} {x : Unit} (h : asPtr i v = some x) : v = .ptr i 0 := by
  unfold asPtr at h; split at h
  · split at h <;> simp_all
  · cases h
theorem asMp_eq {i : Nat} {v : V} {x : Unit} (h : asMp i v = some x) : v = .mp i := by
  unfold asMp at h; split at h
  · split at h <;> simp_all
  · cases h
mutual
theorem reS_ok (n : Nat) (g : H) : ∀ (s : Sh) (z : Value) (v : V) (acc : H) {u : Out} {acc' : H}, reS n g s z v acc idK = some (u, acc') → u = .ret v ∧ Told n g acc acc'
  | .val, z, v, acc, u, acc', e => by
    rw [reS] at e
    rw [(coeZ_nat z v).out (fun v => idK v acc)] at e
    cases hq : coeZ z v idV with
    | none => rw [hq] at e; cases e
    | some q =>
      obtain ⟨o, _⟩ := q
      rw [hq] at e
      cases coeZ_ok hq
      simp [onV, idK] at e; obtain ⟨rfl, rfl⟩ := e
      exact ⟨rfl, Told.refl _ _ _⟩
  | .own es, z, v, acc, u, acc', e => by
    rw [reS] at e
    rw [Option.bind_eq_some_iff] at e; obtain ⟨m, h1, e⟩ := e
    rw [Option.bind_eq_some_iff] at e; obtain ⟨c, h2, e⟩ := e
    simp [idK] at e; obtain ⟨rfl, rfl⟩ := e
    exact ⟨by rw [asRef_eq h1], Told.one (asFz_eq h2)⟩
  | .vec, z, v, acc, u, acc', e => by
    rw [reS] at e
    rw [Option.bind_eq_some_iff] at e; obtain ⟨m, h1, e⟩ := e
    rw [Option.bind_eq_some_iff] at e; obtain ⟨c, h2, e⟩ := e
    simp [idK] at e; obtain ⟨rfl, rfl⟩ := e
    exact ⟨by rw [asPtr_eq h1], Told.one (asFz_eq h2)⟩
  | .mp, z, v, acc, u, acc', e => by
    rw [reS] at e
    rw [Option.bind_eq_some_iff] at e; obtain ⟨m, h1, e⟩ := e
    rw [Option.bind_eq_some_iff] at e; obtain ⟨c, h2, e⟩ := e
    simp [idK] at e; obtain ⟨rfl, rfl⟩ := e
    exact ⟨by rw [asMp_eq h1], Told.one (asMap_eq h2)⟩
  | .box l, z, v, acc, u, acc', e => by
    rw [reS] at e
    rw [Option.bind_eq_some_iff] at e; obtain ⟨m, h1, e⟩ := e
    rw [Option.bind_eq_some_iff] at e; obtain ⟨cs, h2, e⟩ := e
    rw [(reM_nat n g l (zsOf z) 0 cs (acc ++ [Ob.dead])).out (fun cs' acc' => idK (.ptr (n + acc.length) 0) (acc'.set acc.length (.cells cs'))) idP] at e
    cases hq : reM n g l (zsOf z) 0 cs (acc ++ [Ob.dead]) (fun l h => idK (.tup l) h) with
    | none => rw [hq] at e; cases e
    | some q =>
      obtain ⟨o, acc2⟩ := q
      rw [hq] at e
      obtain ⟨rfl, t⟩ := reM_ok n g l (zsOf z) 0 cs (acc ++ [Ob.dead]) hq
      simp [onCall, idK] at e; obtain ⟨rfl, rfl⟩ := e
      refine ⟨by rw [asPtr_eq h1], ?_, ?_, ?_⟩
      · have := t.le; simp at this ⊢; omega
      · intro j hj
        rw [List.getElem?_set_ne (by omega), t.old j (by simp; omega), List.getElem?_append_left hj]
      · intro j h3 h4
        simp at h4
        by_cases hj : j = acc.length
        · subst hj
          rw [List.getElem?_set_self (by omega)]
          exact (asCells_eq h2).symm
        · rw [List.getElem?_set_ne (by omega)]; exact t.new j (by simp; omega) h4
  | .st l, z, v, acc, u, acc', e => by
    rw [reS] at e
    rw [Option.bind_eq_some_iff] at e; obtain ⟨cs, h2, e⟩ := e
    rw [(reM_nat n g l (zsOf z) 0 cs acc).out (fun cs' acc' => idK (.agg cs') acc') idP] at e
    cases hq : reM n g l (zsOf z) 0 cs acc (fun l h => idK (.tup l) h) with
    | none => rw [hq] at e; cases e
    | some q =>
      obtain ⟨o, acc2⟩ := q
      rw [hq] at e
      obtain ⟨rfl, t⟩ := reM_ok n g l (zsOf z) 0 cs acc hq
      simp [onCall, idK] at e; obtain ⟨rfl, rfl⟩ := e
      cases v <;> simp [V.agg?] at h2
      subst h2
      exact ⟨rfl, t⟩
  | .pin l, z, v, acc, u, acc', e => by rw [reS] at e; cases e; all_goals (intros; simp_all)
  | .apin l, z, v, acc, u, acc', e => by rw [reS] at e; cases e; all_goals (intros; simp_all)
  | .pbox l, z, v, acc, u, acc', e => by rw [reS] at e; cases e; all_goals (intros; simp_all)
  | .raw, z, v, acc, u, acc', e => by rw [reS] at e; cases e; all_goals (intros; simp_all)
theorem reM_ok (n : Nat) (g : H) : ∀ (l : List Sh) (zs : List Value) (i : Nat) (cs : List V) (acc : H) {u : Out} {acc' : H}, reM n g l zs i cs acc (fun l h => idK (.tup l) h) = some (u, acc') → u = .ret (.tup (cs.drop i)) ∧ Told n g acc acc'
  | [], [], i, cs, acc, u, acc', e => by
    rw [reM] at e
    split at e
    · simp [idK] at e; obtain ⟨rfl, rfl⟩ := e; exact ⟨by rw [List.drop_of_length_le (by omega)], Told.refl _ _ _⟩
    · cases e
  | s :: l, z :: zs, i, cs, acc, u, acc', e => by
    rw [reM] at e
    rw [Option.bind_eq_some_iff] at e; obtain ⟨v, hv, e⟩ := e
    rw [(reS_nat n g s z v acc).out _ idP] at e
    cases hq : reS n g s z v acc idK with
    | none => rw [hq] at e; cases e
    | some q =>
      obtain ⟨o, acc1⟩ := q
      rw [hq] at e
      obtain ⟨rfl, t1⟩ := reS_ok n g s z v acc hq
      simp only [onCall] at e
      rw [(reM_nat n g l zs (i + 1) cs acc1).out _ idP] at e
      cases hq2 : reM n g l zs (i + 1) cs acc1 (fun l h => idK (.tup l) h) with
      | none => rw [hq2] at e; cases e
      | some q =>
        obtain ⟨o, acc2⟩ := q
        rw [hq2] at e
        obtain ⟨rfl, t2⟩ := reM_ok n g l zs (i + 1) cs acc1 hq2
        simp [onCall, idK] at e; obtain ⟨rfl, rfl⟩ := e
        obtain ⟨hlt, hx⟩ := List.getElem?_eq_some_iff.1 hv
        refine ⟨by rw [List.drop_eq_getElem_cons hlt, hx], t1.trans t2⟩
  | [], _ :: _, i, cs, acc, u, acc', e => by rw [reM] at e; cases e; all_goals (intros; simp_all)
  | _ :: _, [], i, cs, acc, u, acc', e => by rw [reM] at e; cases e; all_goals (intros; simp_all)
end
theorem reR_ok {n : Nat} {g : H} {rs : List Sh} {zs : List Value} {v : V} {acc : H} {u : Out} {acc' : H} (e : reR n g rs zs v acc idK = some (u, acc')) : u = .ret v ∧ Told n g acc acc' := by
  unfold reR at e
  split at e
  · exact reS_ok _ _ _ _ _ _ e
  · simp [idK] at e; obtain ⟨rfl, rfl⟩ := e; exact ⟨rfl, Told.refl _ _ _⟩
  · rw [Option.bind_eq_some_iff] at e; obtain ⟨cs, hc, e⟩ := e
    have hq := reM_ok n g rs zs 0 cs acc e
    cases v <;> simp [V.tup?] at hc
    subst hc; simpa using hq
theorem kill_len (tk : List Nat) : ∀ (i : Nat) (h : H), (kill tk i h).length = h.length
  | _, [] => rfl
  | i, o :: h => by simp [kill, kill_len tk (i + 1) h]
theorem told_eq {n : Nat} {g acc rest pre : H} (t : Told n g [] acc) (hg : g = pre ++ rest) (hp : pre.length = n) (hl : g.length = n + acc.length) : acc = rest := by
  have hr : rest.length = acc.length := by rw [hg, List.length_append] at hl; omega
  apply List.ext_getElem?
  intro j
  by_cases hj : j < acc.length
  · rw [t.new j (by simp) hj, hg, ← hp, List.getElem?_append_right (by omega)]
    congr 1; omega
  · rw [List.getElem?_eq_none (by omega), List.getElem?_eq_none (by omega)]
theorem coeU_rel {η : Et} {ro : Ro} {z : Value} {v v' : V} {cv : Value} {h : H} (e : coeU z v idV = some (.ret v', h)) (hv : VRel η ro v cv) : VRel η ro v' cv := by
  unfold coeU at e
  split at e
  · split at e
    · simp [idV] at e; obtain ⟨rfl, _⟩ := e; exact hv
    · exact coe_rel e hv
  · exact coe_rel e hv
theorem tidy_ok {po : FuncId → Pol} {call : CallF} (hp : CallPol po call) {f : FuncId} {args : List V} {z : Value} {v : V} {u : Out} {g : H} (hc : call f args h = some (.ret v, g)) (e : tidy (po f) z args h v g idK = some (u, h')) :
    (∃ v', u = .ret v' ∧ ∀ {η : Et} {ro : Ro} {cv : Value}, VRel η ro v cv → VRel η ro v' cv) ∧ h' = g := by
  have hp := hp f args h v g hc
  unfold tidy at e
  split at e
  · rename_i hpo
    rw [(coeU_nat z v).out (fun v => idK v g)] at e
    cases hq : coeU z v idV with
    | none => rw [hq] at e; cases e
    | some q =>
      obtain ⟨o, _⟩ := q
      rw [hq] at e
      cases o with
      | pan v => cases e
      | ret v' =>
        simp [onV, idK] at e
        obtain ⟨rfl, rfl⟩ := e
        exact ⟨⟨_, rfl, fun h => coeU_rel hq h⟩, rfl⟩
  · rename_i hpo
    rw [hpo] at hp
    rw [(coeT_nat z v).out (fun v => idK v h)] at e
    cases hq : coeT z v idV with
    | none => rw [hq] at e; cases e
    | some q =>
      obtain ⟨o, _⟩ := q
      rw [hq] at e
      obtain ⟨v', rfl, hv⟩ := coeT_ok hq
      simp [onV, idK] at e
      obtain ⟨rfl, rfl⟩ := e
      exact ⟨⟨_, rfl, hv⟩, hp.1.symm⟩
  · rename_i hpo
    rw [hpo] at hp
    rw [(coeT_nat z v).out (fun v => idK v _)] at e
    cases hq : coeT z v idV with
    | none => rw [hq] at e; cases e
    | some q =>
      obtain ⟨o, _⟩ := q
      rw [hq] at e
      obtain ⟨v', rfl, hv⟩ := coeT_ok hq
      simp only [onV, idK, Option.some.injEq, Prod.mk.injEq] at e
      obtain ⟨rfl, rfl⟩ := e
      exact ⟨⟨_, rfl, hv⟩, hp.1.symm⟩
  · rename_i sh rs zp zr hpo
    rw [hpo] at hp
    dsimp only at hp
    suffices hs : u = .ret v ∧ h' = g from ⟨⟨v, hs.1, fun h => h⟩, hs.2⟩
    split at e
    · rename_i hpin
      rw [hpin] at hp
      obtain ⟨rest, hg⟩ := hp
      rw [(reR_nat h.length g rs zr v []).out _ idP] at e
      cases hq : reR h.length g rs zr v [] idK with
      | none => rw [hq] at e; cases e
      | some q =>
        obtain ⟨o, acc⟩ := q
        rw [hq] at e
        obtain ⟨rfl, t⟩ := reR_ok hq
        simp only [onCall] at e
        split at e
        · rename_i hl
          simp [idK] at e; obtain ⟨rfl, rfl⟩ := e
          exact ⟨rfl, by rw [told_eq t hg (kill_len _ _ _) hl, ← hg]⟩
        · cases e
    · rename_i l p hpin
      rw [hpin] at hp
      obtain ⟨o, rest, hg⟩ := hp
      rw [Option.bind_eq_some_iff] at e; obtain ⟨cs, hcs, e⟩ := e
      rw [(reM_nat h.length g l zp 0 cs []).out _ idP] at e
      cases hq : reM h.length g l zp 0 cs [] (fun l h => idK (.tup l) h) with
      | none => rw [hq] at e; cases e
      | some q =>
        obtain ⟨ou, acc1⟩ := q
        rw [hq] at e
        obtain ⟨rfl, t1⟩ := reM_ok _ _ _ _ _ _ _ hq
        simp only [onCall] at e
        rw [(reR_nat h.length g rs zr v acc1).out _ idP] at e
        cases hq2 : reR h.length g rs zr v acc1 idK with
        | none => rw [hq2] at e; cases e
        | some q =>
          obtain ⟨ou, acc⟩ := q
          rw [hq2] at e
          obtain ⟨rfl, t2⟩ := reR_ok hq2
          simp only [onCall] at e
          split at e
          · rename_i hl
            simp [idK] at e; obtain ⟨rfl, rfl⟩ := e
            refine ⟨rfl, ?_⟩
            have ha := told_eq (t1.trans t2) hg (by simp [kill_len]) hl
            rw [ha, hg]
            congr 1
            by_cases hpl : p < (kill (takesL h sh args ++ givs sh args) 0 h).length
            · have := asCells_eq hcs
              rw [hg, List.getElem?_append_left (by simpa using hpl), List.getElem?_set_self hpl] at this
              cases this; rfl
            · rw [List.set_eq_of_length_le (by omega), List.set_eq_of_length_le (by omega)]
          · cases e

/-- An operation. -/
theorem exec_ok {cx : Cx} (hc : CallSim cx.P cx.call) (hpo : CallPol cx.po cx.call) {o : Oper} {u : Out} (r : Rel η ro h w) (f : FrRel cx.N ds η ro fr a) (he : cx.exec o fr h idK idP = some (u, h'))
    {next : Act → World → Prop} {Q : Exit → Act → World → Prop}
    (hn : ∀ η' ro' w' v cv, u = .ret v → Rel η' ro' h' w' → Stp η ro h w η' ro' h' w' → VRel η' ro' v cv → next (a.put o.dst cv) w')
    (hp : ∀ η' ro' w' v cv, u = .pan v → Rel η' ro' h' w' → Stp η ro h w η' ro' h' w' → VRel η' ro' v cv → Q (.panic [{ v := cv, recovered := false }]) a w') :
    o.wp cx.P a w next Q := by
  -- an answer in the same world
  have same : ∀ {s : Sem Value} {v : V} {cv : Value}, u = .ret v → h' = h → execOp a.eval o = (do pure (.value (← s))) → s.run cx.P w = .ok cv w → VRel η ro v cv → o.wp cx.P a w next Q := by
    rintro s v cv rfl rfl h1 h2 h3
    exact wp_val h1 h2 (hn η ro w v cv rfl r (Stp.refl _ _ _ _) h3)
  have moved : ∀ {s : Sem Value} {v : V} {cv : Value} {η' : Et} {ro' : Ro} {w' : World}, u = .ret v → execOp a.eval o = (do pure (.value (← s))) → s.run cx.P w = .ok cv w' → Rel η' ro' h' w' → Stp η ro h w η' ro' h' w' → VRel η' ro' v cv → o.wp cx.P a w next Q := by
    rintro s v cv η' ro' w' rfl h1 h2 h3 h4 h5
    exact wp_val h1 h2 (hn η' ro' w' v cv rfl h3 h4 h5)
  have pureV : ∀ {v : V} {cv : Value}, u = .ret v → h' = h → execOp a.eval o = pure (.value cv) → VRel η ro v cv → o.wp cx.P a w next Q := by
    rintro v cv rfl rfl h1 h3
    unfold Oper.wp
    rw [h1]
    exact hn η ro w v cv rfl r (Stp.refl _ _ _ _) h3
  unfold Cx.exec at he
  split at he
  · rename_i x hop
    simp [idK] at he; obtain ⟨rfl, rfl⟩ := he
    exact pureV rfl rfl (by simp [execOp, hop]) (f.ev x)
  · rename_i x hop
    simp [idK] at he; obtain ⟨rfl, rfl⟩ := he
    exact pureV rfl rfl (by simp [execOp, hop]) (f.ev x)
  · rename_i c x y hop
    rw [Option.bind_eq_some_iff] at he; obtain ⟨q, hq, he⟩ := he
    rw [V.bool?_eq] at hq
    have hcv := f.ev (cx := cx) c
    rw [hq] at hcv
    have hcb : a.eval c = .bool q := rel_s hcv
    cases q
    · simp [idK] at he; obtain ⟨rfl, rfl⟩ := he
      unfold Oper.wp
      simp [execOp, hop, hcb, asBool, Oper.upon]
      exact hn η ro w _ _ rfl r (Stp.refl _ _ _ _) (f.ev y)
    · simp [idK] at he; obtain ⟨rfl, rfl⟩ := he
      unfold Oper.wp
      simp [execOp, hop, hcb, asBool, Oper.upon]
      exact hn η ro w _ _ rfl r (Stp.refl _ _ _ _) (f.ev x)
  · rename_i t hop
    rw [Option.bind_eq_some_iff] at he; obtain ⟨cs, hcs, he⟩ := he
    simp [idK] at he; obtain ⟨rfl, rfl⟩ := he
    obtain ⟨η', w', cv, h1, h2, h3, h4⟩ := sim_alloc r hcs
    exact moved rfl (by unfold execOp; rw [hop]) h1 h2 h3 h4
  · rename_i t x hop
    rw [Option.bind_eq_some_iff] at he; obtain ⟨cs, hcs, he⟩ := he
    simp [idK] at he; obtain ⟨rfl, rfl⟩ := he
    obtain ⟨η', w', cv, h1, h2, h3, h4⟩ := sim_box r hcs (f.ev x)
    exact moved rfl (by unfold execOp; rw [hop]) h1 h2 h3 h4
  · rename_i t ps hop
    obtain ⟨v, rfl, rfl, x', h3⟩ := (build_nat ..).got he
    obtain ⟨cv, h4, h5⟩ := sim_build (w := w) (cparts := ps.map fun x => (x.1, a.eval x.2)) h3 (by simpa [Cx.parts] using f.partsOk ps.toList)
    exact same rfl rfl (by unfold execOp; rw [hop]) h4 h5
  · rename_i t n ps hop
    obtain ⟨v, rfl⟩ := (buildSlice_nat ..).ret_of he
    obtain ⟨η', ro', w', cv, h4, h5, h6, h7⟩ := sim_buildSlice (cparts := ps.map fun x => (x.1, a.eval x.2)) r he (by simpa [Cx.parts] using f.partsOk ps.toList)
    exact moved rfl (by unfold execOp; rw [hop]) h4 h5 h6 h7
  · rename_i t x hop
    obtain ⟨v, rfl, rfl, x', h3⟩ := (loadN_nat ..).got he
    obtain ⟨cv, h4, h5⟩ := sim_loadN r h3 (f.ev x)
    exact same rfl rfl (by unfold execOp; rw [hop]) h4 h5
  · rename_i t x y hop
    obtain ⟨rfl, x', h3⟩ := (store_nat ..).ret_of he
    obtain ⟨w', h4, h5, h6⟩ := sim_store r h3 (f.ev x) (f.ev y)
    exact wp_unit (by unfold execOp; rw [hop]) h4 (hn η ro w' _ undef rfl h5 h6 rfl)
  · rename_i x hop
    split at he
    · rename_i i off hx
      simp [idK] at he; obtain ⟨rfl, rfl⟩ := he
      have hv := f.ev (cx := cx) x
      rw [hx] at hv
      have hv0 := hv
      obtain ⟨b, st, sz, h1, h2⟩ := hv
      exact pureV rfl rfl (cv := a.eval x) (by unfold execOp; rw [hop]; dsimp only; rw [h2]) hv0
    · rename_i cs hx
      simp [idK] at he; obtain ⟨rfl, rfl⟩ := he
      have hv := f.ev (cx := cx) x
      rw [hx] at hv
      have hv0 := hv
      obtain ⟨b, st, h1, h2⟩ := hv
      exact pureV rfl rfl (cv := a.eval x) (by unfold execOp; rw [hop]; dsimp only; rw [h1]) hv0
    · cases he
  · rename_i op t x y z hop
    obtain ⟨v, rfl, rfl, x', h3⟩ := (binOp_nat ..).got he
    obtain ⟨g1, cv, h4, h5⟩ := sim_binOp (w := w) h3 (f.ev x) (f.ev y)
    refine same (cv := cv) (s := do eqGuard op t x y (a.eval x) (a.eval y); Go.binOp op t (a.eval x) (a.eval y)) rfl rfl (by unfold execOp; rw [hop]) ?_ h5
    rw [Sem.run_bind, g1]; exact h4
  · rename_i op t x hop
    obtain ⟨v, rfl, rfl, x', h3⟩ := (unOp_nat ..).got he
    obtain ⟨cv, h4, h5⟩ := sim_unOp (w := w) h3 (f.ev x)
    exact same rfl rfl (by unfold execOp; rw [hop]) h4 h5
  · rename_i s d x hop
    split at he
    · obtain ⟨v, rfl⟩ := (bytesNew_nat ..).ret_of he
      obtain ⟨η', w', cv, h4, h5, h6, h7⟩ := sim_bytesNew r he (f.ev x)
      exact moved rfl (by unfold execOp; rw [hop]) h4 h5 h6 h7
    · obtain ⟨v, rfl, rfl, x', h3⟩ := (convert_nat ..).got he
      obtain ⟨cv, h4, h5⟩ := sim_convert r h3 (f.ev x)
      exact same rfl rfl (by unfold execOp; rw [hop]) h4 h5
  · rename_i t l c hop
    obtain ⟨v, rfl⟩ := (makeSlice_nat ..).ret_of he
    obtain ⟨η', w', cv, h4, h5, h6, h7⟩ := sim_makeSlice r he (f.ev l) (f.ev c)
    exact moved rfl (by unfold execOp; rw [hop]) h4 h5 h6 h7
  · rename_i t hop
    obtain ⟨v, rfl⟩ := (makeMap_nat ..).ret_of he
    obtain ⟨η', w', cv, h4, h5, h6, h7⟩ := sim_makeMap r he
    exact moved rfl (by simp only [execOp, hop, Option.map_none]) h4 h5 h6 h7
  · rename_i t x lo hi mx hop
    obtain ⟨v, rfl, rfl, x', h3⟩ := (slice_nat ..).got he
    cases mx with
    | some m =>
      cases hi with
      | none => simp [Go.Abs.slice] at h3
      | some hi =>
        obtain ⟨cv, h4, h5⟩ := sim_slice3 (clo := lo.map a.eval) r h3 (f.ev x) (f.ev hi) (f.ev m)
          (by intro v' hv; cases lo with
            | none => cases hv
            | some z => cases hv; exact ⟨_, rfl, f.ev z⟩) (by intro hv; cases lo with
            | none => rfl
            | some z => cases hv)
        exact same rfl rfl (by simp only [execOp, hop, Option.map_some]) h4 h5
    | none =>
      obtain ⟨cv, h4, h5⟩ := sim_slice (chi := hi.map a.eval) (clo := lo.map a.eval) r h3 (f.ev x)
        (by intro v' hv; cases hi with
            | none => cases hv
            | some z => cases hv; exact ⟨_, rfl, f.ev z⟩) (by intro hv; cases hi with
            | none => rfl
            | some z => cases hv)
        (by intro v' hv; cases lo with
            | none => cases hv
            | some z => cases hv; exact ⟨_, rfl, f.ev z⟩) (by intro hv; cases lo with
            | none => rfl
            | some z => cases hv)
      exact same rfl rfl (by simp only [execOp, hop, Option.map_none]) h4 h5
  · rename_i t x i hop
    rw [Option.bind_eq_some_iff] at he; obtain ⟨fd, hfd, he⟩ := he
    rw [Option.bind_eq_some_iff] at he; obtain ⟨n, hsz, he⟩ := he
    split at he
    · cases he
    · rename_i h0
      rw [Option.bind_eq_some_iff] at he; obtain ⟨v, hv, he⟩ := he
      simp [idK] at he; obtain ⟨rfl, rfl⟩ := he
      obtain ⟨cv, h4, h5⟩ := sim_fieldAddr (w := w) hfd hsz h0 hv (f.ev x)
      exact same rfl rfl (by unfold execOp; rw [hop]) h4 h5
  · rename_i t x i hop
    obtain ⟨v, rfl, rfl, x', h3⟩ := (field_nat ..).got he
    obtain ⟨cv, h4, h5⟩ := sim_field (w := w) h3 (f.ev x)
    exact same rfl rfl (by unfold execOp; rw [hop]) h4 h5
  · rename_i t x i hop
    rw [Option.bind_eq_some_iff] at he; obtain ⟨n, hi, he⟩ := he
    obtain ⟨k, hk⟩ := asIx_eq.1 hi
    have hiv := f.ev (cx := cx) i
    rw [hk] at hiv
    have hie : a.eval i = .int k n := rel_s hiv
    obtain ⟨v, rfl, rfl, x', h3⟩ := (idx_nat ..).got he
    obtain ⟨cv, h4, h5⟩ := sim_idx (w := w) (k := k) h3 (f.ev x)
    exact same rfl rfl (by simp only [execOp, hop, hie]) h4 h5
  · rename_i t x i hop
    rw [Option.bind_eq_some_iff] at he; obtain ⟨n, hi, he⟩ := he
    obtain ⟨k, hk⟩ := asIx_eq.1 hi
    have hiv := f.ev (cx := cx) i
    rw [hk] at hiv
    have hie : a.eval i = .int k n := rel_s hiv
    obtain ⟨v, rfl, rfl, x', h3⟩ := (index_nat ..).got he
    obtain ⟨cv, h4, h5⟩ := sim_index (w := w) (k := k) h3 (f.ev x)
    exact same rfl rfl (by simp only [execOp, hop, hie]) h4 h5
  · rename_i t m i ok hop
    obtain ⟨v, rfl, rfl, x', h3⟩ := (lookup_nat ..).got he
    obtain ⟨cv, h4, h5⟩ := sim_lookup r h3 (f.ev m) (f.ev i)
    exact same rfl rfl (by unfold execOp; rw [hop]) h4 h5
  · rename_i t m i x hop
    obtain ⟨rfl, x', h3⟩ := (mapUpdate_nat ..).ret_of he
    obtain ⟨w', h4, h5, h6⟩ := sim_mapUpdate r h3 (f.ev m) (f.ev i) (f.ev x)
    exact wp_unit (by unfold execOp; rw [hop]) h4 (hn η ro w' _ undef rfl h5 h6 rfl)
  · rename_i t m i hop
    obtain ⟨v, rfl⟩ := (mapEntry_nat ..).ret_of he
    obtain ⟨w', cv, h4, h5, h6, h7⟩ := sim_mapEntry r he (f.ev m) (f.ev i)
    exact moved rfl (by unfold execOp; rw [hop]) h4 h5 h6 h7
  · rename_i t m st x hop
    obtain ⟨rfl, x', h3⟩ := (entryStore_nat ..).ret_of he
    obtain ⟨w', h4, h5, h6⟩ := sim_entryStore (t := t) r h3 (f.ev m) (f.ev st) (f.ev x)
    exact wp_unit (by unfold execOp; rw [hop]) h4 (hn η ro w' _ undef rfl h5 h6 rfl)
  · rename_i t i hop
    split at he
    · rename_i l hl
      rw [Option.bind_eq_some_iff] at he; obtain ⟨v, hv, he⟩ := he
      obtain ⟨v', rfl, rfl, x', h3⟩ := (coe_nat ..).got he
      have hiv := f.ev (cx := cx) t
      rw [hl] at hiv
      obtain ⟨cvs, h4, h5⟩ := hiv
      obtain ⟨c, h6, h7⟩ := h5.get hv
      exact same rfl rfl (by unfold execOp; rw [hop]) (by rw [h4]; simp only [Instr.extract]; simp at h6; rw [h6]; rfl) (coe_rel h3 h7)
    · cases he
  · rename_i c hop
    split at he
    · rename_i g hcal
      split at he
      · rename_i g' cap hg
        have hiv := f.ev (cx := cx) g
        rw [hg] at hiv
        obtain ⟨cvs, h4, h5⟩ := hiv
        cases hcall : cx.call g' (List.map (cx.ev fr) c.args.toList ++ cap) h with
        | none => rw [hcall] at he; cases he
        | some q =>
          obtain ⟨u', h1⟩ := q
          rw [hcall] at he
          have hargs : VRels η ro (List.map (cx.ev fr) c.args.toList ++ cap) (c.args.map a.eval ++ cvs).toList := by
            simp only [Array.toList_append, Array.toList_map]; exact (f.evs c.args.toList).append h5
          obtain ⟨⟨fn, hf1, hf2, hf3⟩, hC⟩ := hc g' _ _ h η ro w u' h1 r hargs hcall
          have hex : execOp a.eval o = callFunc g' (c.args.map a.eval ++ cvs) := by
            simp only [execOp, hop, resolve, hcal, h4, Deferred.ofValue]
            simp [invoke]
          unfold Oper.wp
          have hrun : (callFunc g' (c.args.map a.eval ++ cvs)).run cx.P w = .ok (.enter g' (c.args.map a.eval ++ cvs)) w := by
            have hb : fn.body.isNone = false := by cases hq : fn.body <;> simp_all
            simp [callFunc, hf1, hf2]
            intro hq; rw [hq] at hb; cases hb
          rw [hex, hrun, Oper.upon_enter]
          refine hC.mono ?_
          rintro e w' ⟨η', ro', b1, b2, b3⟩
          cases u' with
          | ret v =>
            obtain ⟨cv, rfl, b4⟩ := b3
            obtain ⟨⟨v', rfl, hvv⟩, rfl⟩ := tidy_ok hpo hcall he
            exact hn η' ro' w' _ cv rfl b1 b2 (hvv b4)
          | pan v =>
            obtain ⟨cv, rfl, b4⟩ := b3
            simp [onCall, idP] at he; obtain ⟨rfl, rfl⟩ := he
            exact hp η' ro' w' _ cv rfl b1 b2 b4
      · cases he
    · rename_i b hcal
      have hargs : VRels η ro (List.map (cx.ev fr) c.args.toList) (c.args.map a.eval).toList := by
        simp only [Array.toList_map]; exact f.evs c.args.toList
      obtain ⟨η', ro', w', v, cv, s, rfl, h4, h5, h6, h7, h8⟩ := sim_builtin (ty := o.type) (consts := c.args.map fun | .const _ => true | _ => false) r he hargs
      refine moved rfl ?_ h5 h6 h7 h8
      simp only [execOp, hop, resolve, hcal]
      simp only [pure_bind, invoke]
      exact h4
    · cases he
  · rename_i g first caps hop
    split at he
    · rename_i h0
      simp [idK] at he; obtain ⟨rfl, rfl⟩ := he
      have hf0 : first.map a.eval = #[] := by simp [Array.eq_empty_of_size_eq_zero h0]
      refine pureV (cv := .func (.func g) #[] (caps.map a.eval)) rfl rfl (by simp [execOp, hop, Instr.makeFunc, hf0]) ⟨caps.map a.eval, rfl, ?_⟩
      simp only [Array.toList_map]
      exact f.evs caps.toList
    · cases he
  · rename_i t x hop
    have hxv := f.ev (cx := cx) x
    unfold mkIface at he
    split at he
    · rename_i ik ik' n hu hx
      rw [hx] at hxv
      have hc : a.eval x = .int ik' n := rel_s hxv
      simp [idK] at he; obtain ⟨rfl, rfl⟩ := he
      exact same (s := Instr.makeInterface t (a.eval x)) (cv := .iface t (.int ik' n)) rfl rfl (by unfold execOp; rw [hop]) (by rw [hc]; simp [Instr.makeInterface, run_ul hu]) ⟨rfl, rfl⟩
    · rename_i s hu hx
      rw [hx] at hxv
      have hc : a.eval x = .string s := rel_s hxv
      simp [idK] at he; obtain ⟨rfl, rfl⟩ := he
      exact same (s := Instr.makeInterface t (a.eval x)) (cv := .iface t (.string s)) rfl rfl (by unfold execOp; rw [hop]) (by rw [hc]; simp [Instr.makeInterface, run_ul hu]) ⟨rfl, rfl⟩
    · cases he
  · rename_i x hop
    have hxv := f.ev (cx := cx) x
    unfold goPan at he
    split at he
    · rename_i t y hx
      rw [hx] at hxv
      have hc : a.eval x = .iface t y := rel_s hxv
      simp [idP] at he; obtain ⟨rfl, rfl⟩ := he
      unfold Oper.wp
      have : (execOp a.eval o).run cx.P w = .halt (.panic (.iface t y)) w := by
        unfold execOp; rw [hop]; simp only [hc]; rfl
      rw [this]
      exact hp η ro w _ _ rfl r (Stp.refl _ _ _ _) (hc ▸ hxv)
    · cases he
  · rename_i x xt t ok hop
    have hxv := f.ev (cx := cx) x
    unfold assertI at he
    split at he
    · rename_i ik t' ik' n hu hx
      rw [hx] at hxv
      have hc : a.eval x = .iface t' (.int ik' n) := rel_s hxv
      split at he
      · rename_i hcond
        obtain ⟨rfl, rfl⟩ := hcond
        simp [idK] at he; obtain ⟨rfl, rfl⟩ := he
        exact same (s := Instr.typeAssert (a.eval x) xt t' true) (cv := .tuple #[.int ik' n, .bool true]) rfl rfl (by unfold execOp; rw [hop]) (by rw [hc]; simp [Instr.typeAssert, run_ul hu]) ⟨#[.int ik' n, .bool true], rfl, ⟨rfl, rfl⟩, ⟨rfl, rfl⟩, trivial⟩
      · cases he
    · cases he
  · cases he
end
end Go.Abs
