/-
  Regions of open order: each order comes to what the canonical one comes to.
-/
import Derived.Test.YtpchhblgilfejaaAbsExec
set_option autoImplicit false
set_option linter.unusedVariables false
set_option linter.unusedSimpArgs false
namespace Go.Abs
open Go

/-- what holds from a function's start on -/
structure Keeps (Inv : Et → Ro → H → World → Prop) : Prop where
  step : ∀ {η ro h w η' ro' h' w'}, Inv η ro h w → Rel η ro h w → Stp η ro h w η' ro' h' w' → Inv η' ro' h' w'

section
variable {cx : Cx} {fr fr' : Fr} {h h' : H}

/-! ### an operation hangs on what it looks at -/
theorem exec_congr (o : Oper) (e : ∀ x ∈ o.op.operands, cx.ev fr x = cx.ev fr' x) (k kp : V → H → R) : cx.exec o fr h k kp = cx.exec o fr' h k kp := by
  obtain ⟨dst, op, type, pos, after, guard⟩ := o
  have pairs : ∀ ps : Array (Nat × Operand), (∀ x ∈ (ps.toList.map (·.2)).toArray, cx.ev fr x = cx.ev fr' x) → cx.parts fr ps = cx.parts fr' ps := fun ps hp =>
    List.map_congr_left fun p hm => by
      obtain ⟨i, x⟩ := p
      simp only [hp x (by simp; exact ⟨i, by simpa using hm⟩)]
  cases op <;> simp only [Op.operands] at e <;> simp only [Cx.exec]
  case build t ps => rw [pairs ps e]
  case buildSlice t n ps => rw [pairs ps e]
  case slice t x lo hi mx => cases lo <;> cases hi <;> cases mx <;> simp_all
  case makeMap t r => cases r <;> rfl
  case makeFunc f first caps =>
    have ha : caps.toList.map (cx.ev fr) = caps.toList.map (cx.ev fr') := List.map_congr_left fun x hx => e x (by simp; right; simpa using hx)
    cases f <;> simp only [ha]
  case call c =>
    have ha : c.args.toList.map (cx.ev fr) = c.args.toList.map (cx.ev fr') := List.map_congr_left fun x hx => e x (by simp [Call.operands]; right; simpa using hx)
    rw [ha]
    cases hc : c.callee with
    | value f => have hf : cx.ev fr f = cx.ev fr' f := e f (by simp [Call.operands, hc]); simp only [hf]
    | invoke r m => rfl
    | builtin b => rfl
  all_goals (first | rfl | (simp_all; done))
theorem foot_congr (o : Oper) (e : ∀ x ∈ o.op.operands, cx.ev fr x = cx.ev fr' x) : cx.foot o fr h = cx.foot o fr' h := by
  obtain ⟨dst, op, type, pos, after, guard⟩ := o
  cases op <;> simp only [Op.operands] at e <;> simp only [Cx.foot]
  case slice t x lo hi mx => rw [e x (by simp)]
  case call c =>
    have ha : c.args.toList.map (cx.ev fr) = c.args.toList.map (cx.ev fr') := List.map_congr_left fun x hx => e x (by simp [Call.operands]; right; simpa using hx)
    have hx : ∀ x ∈ c.args.toList, cx.ev fr x = cx.ev fr' x := fun x hx => e x (by simp [Call.operands]; right; simpa using hx)
    rw [ha]
    cases hc : c.callee with
    | value f => have hf : cx.ev fr f = cx.ev fr' f := e f (by simp [Call.operands, hc]); simp only [hf]
    | invoke r m => rfl
    | builtin b =>
      cases b <;> simp only [] <;> cases hl : c.args.toList with
      | nil => rfl
      | cons a l => cases l <;> simp only [] <;> (try rw [hx a (by simp [hl])])
  all_goals (first | rfl | (simp_all; done))

theorem keeps_congr (o : Oper) (e : ∀ x ∈ o.op.operands, cx.ev fr x = cx.ev fr' x) : cx.keeps o fr = cx.keeps o fr' := by
  unfold Cx.keeps
  split
  · rename_i c hc
    split
    · rename_i f hf
      rw [e f (by rw [hc]; simp [Op.operands, Call.operands, hf])]
    · rfl
  · rfl
theorem footP_congr (o : Oper) {h h1 : H} (e : ∀ x ∈ o.op.operands, cx.ev fr x = cx.ev fr' x) : cx.footP o fr h h1 = cx.footP o fr' h h1 := by
  unfold Cx.footP
  rw [keeps_congr o e, foot_congr o e]
/-! ### what reads hangs on what it reads -/
def Agree (R : List Nat) (h h' : H) : Prop := ∀ k ∈ R, h'[k]? = h[k]?
theorem nv {f : (V → R) → R} (hf : NatV f) {v : V} {h1 : H} (e : f (fun v => idK v h) = some (.ret v, h1)) : h1 = h ∧ ∀ h' : H, f (fun v => idK v h') = some (.ret v, h') := by
  rw [hf.out] at e
  cases hq : f idV with
  | none => rw [hq] at e; cases e
  | some q =>
    obtain ⟨o, _⟩ := q
    rw [hq] at e
    cases o with
    | pan v => cases e
    | ret v' =>
      simp [onV, idK] at e
      obtain ⟨rfl, rfl⟩ := e
      exact ⟨rfl, fun h' => by rw [hf.out, hq]; rfl⟩
theorem rdK_agree {k off n : Nat} (a : h'[k]? = h[k]?) (kk : List V → R) : rdK h' k off n kk = rdK h k off n kk := by unfold rdK; rw [a]
theorem load_agree {P : Program} {t : TypeId} {v : V} (a : Agree (objOf v) h h') (kk : V → R) : load P t v h' kk = load P t v h kk := by
  unfold load
  cases v with
  | ptr k off =>
    have a1 : h'[k]? = h[k]? := a k (by simp [objOf])
    unfold load1
    simp only [a1]
  | f x => cases x <;> rfl
  | _ => rfl
theorem view_cases {k off n : Nat} (a : view h k off n = view h' k off n) : (h[k]? = none ∧ h'[k]? = none) ∨
    (∃ cs cs', h[k]? = some (.cells cs) ∧ h'[k]? = some (.cells cs') ∧ (cs.drop off).take n = (cs'.drop off).take n) ∨
    (∃ cs cs', h[k]? = some (.fz cs) ∧ h'[k]? = some (.fz cs') ∧ (cs.drop off).take n = (cs'.drop off).take n) ∨
    (∃ cs cs', h[k]? = some (.lent cs) ∧ h'[k]? = some (.lent cs') ∧ (cs.drop off).take n = (cs'.drop off).take n) ∨
    (∃ o, h[k]? = some o ∧ h'[k]? = some o) := by
  unfold view at a
  cases e1 : h[k]? with
  | none =>
    rw [e1] at a
    cases e2 : h'[k]? with
    | none => exact .inl ⟨rfl, rfl⟩
    | some o => rw [e2] at a; cases o <;> cases a
  | some o =>
    rw [e1] at a
    cases e2 : h'[k]? with
    | none => rw [e2] at a; cases o <;> cases a
    | some o' =>
      rw [e2] at a
      cases o <;> cases o' <;> simp at a
      · exact .inr (.inl ⟨_, _, rfl, rfl, a⟩)
      · exact .inr (.inr (.inl ⟨_, _, rfl, rfl, a⟩))
      · obtain ⟨rfl, rfl⟩ := a; exact .inr (.inr (.inr (.inr ⟨_, rfl, rfl⟩)))
      · exact .inr (.inr (.inr (.inl ⟨_, _, rfl, rfl, a⟩)))
      · exact .inr (.inr (.inr (.inr ⟨_, rfl, rfl⟩)))
theorem get_of_part {α : Type} {cs cs' : List α} {off n j : Nat} (a : (cs.drop off).take n = (cs'.drop off).take n) (hj : j < n) : cs'[off + j]? = cs[off + j]? := by
  have := congrArg (fun l => l[j]?) a
  simp only [List.getElem?_take, if_pos hj, List.getElem?_drop] at this
  exact this.symm
theorem len_of_part {α : Type} {cs cs' : List α} {off n : Nat} (a : (cs.drop off).take n = (cs'.drop off).take n) (hn : n ≠ 0) : (off + n ≤ cs'.length) = (off + n ≤ cs.length) := by
  have := congrArg List.length a
  simp at this
  apply propext
  omega
theorem coeFN_part {cs cs' : List F} {off n : Nat} (a : (cs.drop off).take n = (cs'.drop off).take n) : ∀ (zs : List Value) (j : Nat) (k : List V → R), j + zs.length ≤ n → coeFN zs (off + j) cs' k = coeFN zs (off + j) cs k
  | [], j, k, _ => rfl
  | z :: zs, j, k, hl => by
    simp only [List.length_cons] at hl
    unfold coeFN
    rw [get_of_part a (by omega)]
    congr 1; funext x; congr 1; funext v
    exact coeFN_part a zs (j + 1) _ (by omega)
theorem load_view {P : Program} {t : TypeId} {k off : Nat} (hn : ldSize P t ≠ 0) (a : view h k off (ldSize P t) = view h' k off (ldSize P t)) (kk : V → R) : load P t (.ptr k off) h' kk = load P t (.ptr k off) h kk := by
  unfold ldSize at hn a
  unfold load
  cases hg : agg? P t with
  | none => rfl
  | some ag =>
    rw [hg] at hn a
    cases ag with
    | false =>
      simp only [Option.bind_some, Bool.false_eq_true, if_false]
      unfold load1
      rcases view_cases a with ⟨e1, e2⟩ | ⟨cs, cs', e1, e2, e3⟩ | ⟨cs, cs', e1, e2, e3⟩ | ⟨cs, cs', e1, e2, e3⟩ | ⟨o, e1, e2⟩
      · rw [e1, e2]
      · rw [e1, e2]; have := get_of_part e3 (j := 0) (by omega); simp at this; simp only [this]
      · rw [e1, e2]; have := get_of_part e3 (j := 0) (by omega); simp at this; simp only [this]
      · rw [e1, e2]; have := get_of_part e3 (j := 0) (by omega); simp at this; simp only [this]
      · rw [e1, e2]
    | true =>
      simp only [Option.bind_some, if_true]
      cases hz : szOf P t with
      | none => rfl
      | some n =>
        rw [hz] at hn a
        simp only [Option.getD_some] at hn a
        simp only [Option.bind_some]
        rcases view_cases a with ⟨e1, e2⟩ | ⟨cs, cs', e1, e2, e3⟩ | ⟨cs, cs', e1, e2, e3⟩ | ⟨cs, cs', e1, e2, e3⟩ | ⟨o, e1, e2⟩
        · rw [e1, e2]
        · rw [e1, e2]; simp only [len_of_part e3 hn, e3]
        · rw [e1, e2]
          dsimp only
          unfold coeFA
          split
          · rename_i zs _
            split
            · rename_i hh; have := coeFN_part e3 zs.toList 0 (fun l => kk (.agg l)) (by simp; omega); simpa using this
            · rfl
          · rfl
        · rw [e1, e2]
        · rw [e1, e2]
theorem loadN_view {P : Program} {keep : Bool} {t : TypeId} {k off : Nat} (hn : ldSize P t ≠ 0) (a : view h k off (ldSize P t) = view h' k off (ldSize P t)) (kk : V → R) : loadN P keep t (.ptr k off) h' kk = loadN P keep t (.ptr k off) h kk := by
  unfold loadN
  have : isNilSl P t h' (.ptr k off) = isNilSl P t h (.ptr k off) := by
    unfold isNilSl
    unfold ldSize at a hn
    cases hg : agg? P t with
    | none => rfl
    | some ag =>
      cases ag with
      | true => rfl
      | false =>
        rw [hg] at a
        dsimp only at a
        rcases view_cases a with ⟨e1, e2⟩ | ⟨cs, cs', e1, e2, e3⟩ | ⟨cs, cs', e1, e2, e3⟩ | ⟨cs, cs', e1, e2, e3⟩ | ⟨o, e1, e2⟩
        · simp only [e1, e2]
        · have := get_of_part e3 (j := 0) (by omega); simp at this; simp only [e1, e2, this]
        · have := get_of_part e3 (j := 0) (by omega); simp at this; simp only [e1, e2, this]
        · simp only [e1, e2]
        · simp only [e1, e2]
  rw [load_view hn a, this]
theorem loadN_agree {P : Program} {keep : Bool} {t : TypeId} {v : V} (a : Agree (objOf v) h h') (kk : V → R) : loadN P keep t v h' kk = loadN P keep t v h kk := by
  unfold loadN
  have : isNilSl P t h' v = isNilSl P t h v := by
    unfold isNilSl
    cases v with
    | ptr k off => have a1 : h'[k]? = h[k]? := a k (by simp [objOf]); simp only [a1]
    | _ => rfl
  rw [load_agree a, this]
theorem lookup_agree {P : Program} {t : TypeId} {m i : V} {ok : Bool} (a : Agree (objOf m) h h') (kk : V → R) : lookup P t m i ok h' kk = lookup P t m i ok h kk := by
  unfold lookup
  cases m with
  | mp k => simp only [a k (by simp [objOf])]
  | f x => cases x with
    | s x => cases x with
      | map q => cases q <;> rfl
      | _ => rfl
    | _ => rfl
  | _ => rfl
theorem bytes_agree {x : V} (a : Agree (objOf x) h h') : bytesToStr h' x = bytesToStr h x := by
  unfold bytesToStr
  cases x with
  | ref k off n es => simp only [a k (by simp [objOf])]
  | f x => cases x with
    | s y => cases y with
      | slice A n c => cases A <;> rfl
      | _ => rfl
    | _ => rfl
  | _ => rfl
theorem convert_agree {P : Program} {t u : TypeId} {x : V} (a : Agree (objOf x) h h') (kk : V → R) : convert P t u x h' kk = convert P t u x h kk := by
  unfold convert
  cases P.underlying t with
  | none => rfl
  | some d => cases P.underlying u with
    | none => cases d <;> rfl
    | some d' => cases d <;> cases d' <;> first | rfl | (simp only [bytes_agree a]; done) | (cases x with | f z => (cases z with | s y => cases y <;> rfl | _ => rfl) | _ => rfl)
theorem slice_agree {P : Program} {t : TypeId} {x : V} {lo hi mx : Option V} (a : Agree (objOf x) h h') (kk : V → R) : slice P t x lo hi mx h' kk = slice P t x lo hi mx h kk := by
  unfold slice
  split
  · rfl
  · split
    · rfl
    · rfl
    · cases x with
      | ptr k off =>
        have a1 := a k (by simp [objOf])
        have : ∀ off n, rd h' k off n = rd h k off n := fun off n => by unfold rd; rw [a1]
        simp only [this]
      | _ => rfl
    · rfl
theorem len_agree {P : Program} {t : TypeId} {x : V} (a : Agree (objOf x) h h') (kk : V → R) : len P t x h' kk = len P t x h kk := by
  unfold len
  split
  · rfl
  · rfl
  · rfl
  · cases x with
    | mp k => simp only [a k (by simp [objOf])]
    | f x => cases x with
      | s y => cases y with
        | map q => cases q <;> rfl
        | _ => rfl
      | _ => rfl
    | _ => rfl
  · rfl
/-- a reader -/
theorem exec_rd (hpo : CallPol cx.po cx.call) {o : Oper} {rs : List Nat} {v : V} {h1 : H} (hf : cx.foot o fr h = .rd rs) (e : cx.exec o fr h idK idP = some (.ret v, h1)) :
    h1 = h ∧ ∀ h', Agree rs h h' → cx.exec o fr h' idK idP = some (.ret v, h') ∧ cx.foot o fr h' = .rd rs := by
  have fin : ∀ {G : H → (V → R) → R}, (∀ h k kp, cx.exec o fr h k kp = G h fun v => k v h) → (∀ h, NatV (G h)) → (∀ h', Agree rs h h' → ∀ kk, G h' kk = G h kk) → (∀ h', cx.foot o fr h' = cx.foot o fr h) →
      h1 = h ∧ ∀ h', Agree rs h h' → cx.exec o fr h' idK idP = some (.ret v, h') ∧ cx.foot o fr h' = .rd rs := by
    intro G g1 g2 g3 g4
    rw [g1] at e
    obtain ⟨a, b⟩ := nv (g2 h) e
    exact ⟨a, fun h' ha => ⟨by rw [g1, g3 h' ha]; exact b h', by rw [g4, hf]⟩⟩
  obtain ⟨dst, op, type, pos, after, guard⟩ := o
  cases op <;> simp only [Cx.foot] at hf
  case load t a =>
    refine fin (G := fun h => loadN cx.P (cx.lit.ob (dst.getD 0)) t (cx.ev fr a) h) (fun _ _ _ => rfl) (fun _ => loadN_nat ..) (fun h' ha kk => loadN_agree (fun k hk => ?_) kk) fun _ => rfl
    unfold ldFoot at hf
    split at hf
    · rename_i k0 off0 hq
      split at hf
      · cases hf; rw [hq] at hk; simp [objOf] at hk; subst hk; exact ha _ (by simp)
      · cases hf
    · cases hf; exact ha k hk
  case lookup t m i ok =>
    cases hf
    exact fin (G := fun h => lookup cx.P t (cx.ev fr m) (cx.ev fr i) ok h) (fun _ _ _ => rfl) (fun _ => lookup_nat ..) (fun h' ha kk => lookup_agree ha kk) fun _ => rfl
  case convert t u x =>
    split at hf
    · cases hf
    rename_i hs
    cases hf
    exact fin (G := fun h => convert cx.P t u (cx.ev fr x) h) (fun _ _ _ => by simp only [Cx.exec]; rw [if_neg hs]) (fun _ => convert_nat ..) (fun h' ha kk => convert_agree ha kk) fun _ => by simp only [Cx.foot]; rw [if_neg hs, if_neg hs]
  case slice t x lo hi mx =>
    cases hf
    exact fin (G := fun h => slice cx.P t (cx.ev fr x) (lo.map (cx.ev fr)) (hi.map (cx.ev fr)) (mx.map (cx.ev fr)) h) (fun _ _ _ => rfl) (fun _ => slice_nat ..) (fun h' ha kk => slice_agree ha kk) fun _ => rfl
  case move x => exact fin (G := fun _ k => k (cx.ev fr x)) (fun _ _ _ => rfl) (fun _ => NatV.ret _) (fun _ _ _ => rfl) fun _ => rfl
  case assign x => exact fin (G := fun _ k => k (cx.ev fr x)) (fun _ _ _ => rfl) (fun _ => NatV.ret _) (fun _ _ _ => rfl) fun _ => rfl
  case pick c a b => exact fin (G := fun _ k => (V.bool? (cx.ev fr c)).bind fun q => if q then k (cx.ev fr a) else k (cx.ev fr b)) (fun _ _ _ => rfl) (fun _ => NatV.bind _ fun _ => NatV.ite _ (NatV.ret _) (NatV.ret _)) (fun _ _ _ => rfl) fun _ => rfl
  case build t ps => exact fin (G := fun _ => build cx.P t (cx.parts fr ps)) (fun _ _ _ => rfl) (fun _ => build_nat ..) (fun _ _ _ => rfl) fun _ => rfl
  case nilCheck x =>
    refine fin (G := fun _ k => match cx.ev fr x with
      | .ptr i off => k (.ptr i off)
      | .f (.fp cs) => k (.f (.fp cs))
      | _ => none) (fun h k kp => ?_) (fun _ => ?_) (fun _ _ _ => rfl) fun _ => rfl
    · simp only [Cx.exec]
      generalize cx.ev fr x = y
      cases y with
      | f z => cases z <;> rfl
      | _ => rfl
    · split <;> first | exact NatV.ret _ | exact NatV.none
  case binOp op t x y z => exact fin (G := fun _ => binOp cx.P op t (cx.ev fr x) (cx.ev fr y)) (fun _ _ _ => rfl) (fun _ => binOp_nat ..) (fun _ _ _ => rfl) fun _ => rfl
  case unOp op t x => exact fin (G := fun _ => unOp op (cx.ev fr x)) (fun _ _ _ => rfl) (fun _ => unOp_nat ..) (fun _ _ _ => rfl) fun _ => rfl
  case fieldAddr t x i => exact fin (G := fun _ k => (fieldOf cx.P t i).bind fun f => (szOf cx.P f.type).bind fun n => if n = 0 then none else (addP (cx.ev fr x) f.offset).bind fun v => k v) (fun _ _ _ => rfl) (fun _ => NatV.bind _ fun _ => NatV.bind _ fun _ => NatV.ite _ NatV.none (NatV.bind _ fun _ => NatV.ret _)) (fun _ _ _ => rfl) fun _ => rfl
  case field t x i => exact fin (G := fun _ => field cx.P t (cx.ev fr x) i) (fun _ _ _ => rfl) (fun _ => field_nat ..) (fun _ _ _ => rfl) fun _ => rfl
  case indexAddr t x i => exact fin (G := fun _ k => (asIx (cx.ev fr i)).bind fun i => idx cx.P t (cx.ev fr x) i k) (fun _ _ _ => rfl) (fun _ => NatV.bind _ fun _ => idx_nat ..) (fun _ _ _ => rfl) fun _ => rfl
  case index t x i => exact fin (G := fun _ k => (asIx (cx.ev fr i)).bind fun i => index cx.P t (cx.ev fr x) i k) (fun _ _ _ => rfl) (fun _ => NatV.bind _ fun _ => index_nat ..) (fun _ _ _ => rfl) fun _ => rfl
  case extract t i =>
    refine fin (G := fun _ k => match cx.ev fr t with
      | .tup l => (l[i]?).bind fun v => coe (zr cx.P type) v k
      | _ => none) (fun h k kp => ?_) (fun _ => ?_) (fun _ _ _ => rfl) fun _ => rfl
    · simp only [Cx.exec]
      generalize cx.ev fr t = y
      cases y <;> rfl
    · split
      · exact NatV.bind _ fun _ => coe_nat ..
      · exact NatV.none
  case makeFunc f first caps =>
    cases f with
    | func g =>
      exact fin (G := fun _ k => if first.size = 0 then k (.fn g (caps.toList.map (cx.ev fr))) else none) (fun _ _ _ => rfl) (fun _ => NatV.ite _ (NatV.ret _) NatV.none) (fun _ _ _ => rfl) fun _ => rfl
    | _ => cases e
  case buildSlice t n ps =>
    split at hf
    · cases hf
    · rename_i hob
      have hob' : cx.lit.ob (dst.getD 0) = false := by simpa using hob
      refine fin (G := fun _ k => (elem? cx.P t).bind fun e => (szOf cx.P e).bind fun es => (zcells cx.P e).bind fun _ => (rowOf es 0 (cx.parts fr ps)).bind fun cs =>
        if (cx.parts fr ps).length = n ∧ n * es ≤ 16777216 ∧ 0 < es then k (.lit n cs) else none) (fun h k kp => ?_) (fun _ => ?_) (fun _ _ _ => rfl) fun _ => ?_
      · simp only [Cx.exec, buildSlice, hob', Bool.false_eq_true, if_false]
      · exact NatV.bind _ fun _ => NatV.bind _ fun _ => NatV.bind _ fun _ => NatV.bind _ fun _ => NatV.ite _ (NatV.ret _) NatV.none
      · simp only [Cx.foot, hob', Bool.false_eq_true, if_false]
  case call c =>
    cases hc : c.callee with
    | invoke r m => rw [hc] at hf; cases hf
    | builtin b =>
      rw [hc] at hf
      have hex : ∀ h k kp, cx.exec ⟨dst, .call c, type, pos, after, guard⟩ fr h k kp = builtin cx.P b c.argTypes (c.args.toList.map (cx.ev fr)) h k := fun h k kp => by simp only [Cx.exec, hc]
      dsimp only at hf
      split at hf
      · rename_i x hl
        cases hf
        refine fin (G := fun h k => match c.argTypes.toList with | [t] => len cx.P t (cx.ev fr x) h k | _ => none) (fun h k kp => ?_) (fun h => ?_) (fun h' ha kk => ?_) fun h' => ?_
        · rw [hex, hl]
          unfold builtin
          split <;> simp_all
        · split
          · exact len_nat ..
          · exact NatV.none
        · split
          · exact len_agree ha kk
          · rfl
        · simp only [Cx.foot, hc, hl]
      · cases hf
      · refine fin (G := fun _ k => match c.args.toList.map (cx.ev fr) with | [.f (.s (.int q x)), .f (.s (.int _ y))] => k (N q (if y > x then y else x)) | _ => none) (fun h k kp => ?_) (fun h => ?_) (fun h' ha kk => rfl) fun h' => ?_
        · rw [hex]
          unfold builtin
          split <;> simp_all
        · split
          · exact NatV.ret _
          · exact NatV.none
        · simp only [Cx.foot, hc]
      · refine fin (G := fun _ k => match c.args.toList.map (cx.ev fr) with | [.f (.s (.int q x)), .f (.s (.int _ y))] => k (N q (if y < x then y else x)) | _ => none) (fun h k kp => ?_) (fun h => ?_) (fun h' ha kk => rfl) fun h' => ?_
        · rw [hex]
          unfold builtin
          split <;> simp_all
        · split
          · exact NatV.ret _
          · exact NatV.none
        · simp only [Cx.foot, hc]
      · cases hf
    | value f =>
      rw [hc] at hf
      dsimp only at hf
      split at hf
      · rename_i g cap hg
        split at hf
        · cases hf
        · rename_i hpu
          split at hf
          · rename_i hfl
            cases hf
            have hex : ∀ h k kp, cx.exec ⟨dst, .call c, type, pos, after, guard⟩ fr h k kp = onCall (cx.call g (c.args.toList.map (cx.ev fr) ++ cap) h) (fun v g' => tidy (cx.po g) (zr cx.P type) (c.args.toList.map (cx.ev fr) ++ cap) h v g' k) kp := fun h k kp => by simp only [Cx.exec, hc, hg]
            rw [hex] at e
            cases hcall : cx.call g (c.args.toList.map (cx.ev fr) ++ cap) h with
            | none => rw [hcall] at e; cases e
            | some q =>
              obtain ⟨o, g'⟩ := q
              rw [hcall] at e
              cases o with
              | pan v => cases e
              | ret v0 =>
                obtain ⟨p1, p2⟩ : g' = h ∧ _ := by have := hpo g _ h v0 g' hcall; rw [hpu] at this; exact this
                have hall := p2 hfl
                simp only [onCall, hpu, tidy] at e
                obtain ⟨q1, q2⟩ := nv (coeT_nat (zr cx.P type) v0) e
                refine ⟨q1, fun h' _ => ⟨?_, ?_⟩⟩
                · rw [hex, hall h']
                  simp only [onCall, hpu, tidy]
                  exact q2 h'
                · simp only [Cx.foot, hc, hg, hpu, hfl, if_true]
          · cases hf
        · rename_i hpu
          split at hf
          · rename_i hfl
            cases hf
            have hex : ∀ h k kp, cx.exec ⟨dst, .call c, type, pos, after, guard⟩ fr h k kp = onCall (cx.call g (c.args.toList.map (cx.ev fr) ++ cap) h) (fun v g' => tidy (cx.po g) (zr cx.P type) (c.args.toList.map (cx.ev fr) ++ cap) h v g' k) kp := fun h k kp => by simp only [Cx.exec, hc, hg]
            rw [hex] at e
            cases hcall : cx.call g (c.args.toList.map (cx.ev fr) ++ cap) h with
            | none => rw [hcall] at e; cases e
            | some q =>
              obtain ⟨o, g'⟩ := q
              rw [hcall] at e
              cases o with
              | pan v => cases e
              | ret v0 =>
                obtain ⟨p1, p2⟩ : g' = _ ∧ _ := by have := hpo g _ h v0 g' hcall; rw [hpu] at this; exact this
                have hall := p2 hfl
                simp only [onCall, hpu, tidy, hfl, if_true] at e
                obtain ⟨q1, q2⟩ := nv (coeT_nat (zr cx.P type) v0) e
                refine ⟨q1, fun h' _ => ⟨?_, ?_⟩⟩
                · rw [hex, hall h']
                  simp only [onCall, hpu, tidy, hfl, if_true]
                  exact q2 h'
                · simp only [Cx.foot, hc, hg, hpu, hfl, if_true]
          · cases hf
        · split at hf <;> cases hf
      · cases hf
  all_goals first | (cases hf; done) | (unfold stoFoot at hf; split at hf <;> cases hf)

theorem keeps_foot {o : Oper} (hk : cx.keeps o fr = true) (h : H) : cx.foot o fr h = .wrAll := by
  unfold Cx.keeps at hk
  split at hk
  · rename_i c hc
    split at hk
    · rename_i f hf
      split at hk
      · rename_i g cap hg
        split at hk
        · rename_i hp
          unfold Cx.foot
          simp only [hc, hf, hg, hp]
        · cases hk
      · cases hk
    · cases hk
  · cases hk
/-- a load of some cells -/
theorem exec_ldc {o : Oper} {k off n : Nat} {v : V} {h1 : H} (hf : cx.foot o fr h = .ldc k off n) (e : cx.exec o fr h idK idP = some (.ret v, h1)) :
    h1 = h ∧ ∀ h', view h k off n = view h' k off n → cx.exec o fr h' idK idP = some (.ret v, h') ∧ cx.foot o fr h' = .ldc k off n := by
  obtain ⟨dst, op, type, pos, after, guard⟩ := o
  cases op <;> simp only [Cx.foot] at hf
  case load t a =>
    unfold ldFoot at hf
    split at hf
    rotate_left
    · cases hf
    rename_i k0 off0 hq
    split at hf
    · cases hf
    rename_i hn
    cases hf
    have hex : ∀ h, cx.exec ⟨dst, .load t a, type, pos, after, guard⟩ fr h idK idP = loadN cx.P (cx.lit.ob (dst.getD 0)) t (.ptr k off) h fun v => idK v h := fun h => by simp only [Cx.exec, hq]
    rw [hex] at e
    obtain ⟨q1, q2⟩ := nv (loadN_nat ..) e
    refine ⟨q1, fun h' ha => ⟨?_, ?_⟩⟩
    · rw [hex, loadN_view hn ha]; exact q2 h'
    · simp only [Cx.foot, hq, ldFoot]; rw [if_neg hn]
  case buildSlice t m ps => split at hf <;> cases hf
  case convert s d x => split at hf <;> cases hf
  case call c =>
    cases hc : c.callee with
    | invoke r m => rw [hc] at hf; cases hf
    | builtin b => rw [hc] at hf; dsimp only at hf; split at hf <;> cases hf
    | value f =>
      rw [hc] at hf
      dsimp only at hf
      split at hf
      · split at hf
        · cases hf
        · split at hf <;> cases hf
        · split at hf <;> cases hf
        · split at hf <;> cases hf
      · cases hf
  all_goals first | (cases hf; done) | (unfold stoFoot at hf; split at hf <;> cases hf)
/-! ### what writes changes what it says alone -/
def Kept (l : List Nat) (n : Nat) (h h1 : H) : Prop := ∀ k, k ∉ l → k < n → h1[k]? = h[k]?
theorem kept_new (l : List Nat) (h : H) (o : Ob) : Kept l h.length h (h ++ [o]) := fun k _ hk => List.getElem?_append_left hk
theorem kept_set {l : List Nat} {k : Nat} (hk : k ∈ l) (n : Nat) (h : H) (o : Ob) : Kept l n h (h.set k o) := fun j hj _ => by
  rw [List.getElem?_set_ne (by intro e; subst e; exact hj hk)]
theorem kept_both {l : List Nat} {k : Nat} (hk : k ∈ l) (h : H) (o o' : Ob) : Kept l h.length h (h.set k o ++ [o']) := fun j hj hn => by
  rw [List.getElem?_append_left (by simpa using hn), List.getElem?_set_ne (by intro e; subst e; exact hj hk)]
theorem wrK_kept {h h1 : H} {k off : Nat} {cs : List V} {v : V} (e : wrK h k off cs (fun h => idK .un h) = some (.ret v, h1)) {l : List Nat} (hk : k ∈ l) (n : Nat) : Kept l n h h1 := by
  unfold wrK at e
  split at e
  · split at e
    · simp [idK] at e; obtain ⟨_, rfl⟩ := e; exact kept_set hk _ _ _
    · cases e
  · split at e
    · simp [idK] at e; obtain ⟨_, rfl⟩ := e; exact kept_set hk _ _ _
    · cases e
  · cases e
theorem store_kept {P : Program} {t : TypeId} {a x v : V} {h1 : H} (e : store P t a x h (fun h => idK .un h) = some (.ret v, h1)) (n : Nat) : Kept (objOf a) n h h1 := by
  unfold store at e
  rw [Option.bind_eq_some_iff] at e; obtain ⟨_, _, e⟩ := e
  rw [Option.bind_eq_some_iff] at e; obtain ⟨_, _, e⟩ := e
  split at e
  · split at e
    · exact wrK_kept e (by simp [objOf]) n
    · cases e
  · cases e
theorem mapEntry_kept {P : Program} {t : TypeId} {m i v : V} {h1 : H} (e : mapEntry P t m i h idK = some (.ret v, h1)) (n : Nat) : Kept (objOf m) n h h1 := by
  unfold mapEntry at e
  split at e
  · rw [Option.bind_eq_some_iff] at e; obtain ⟨_, _, e⟩ := e
    rw [Option.bind_eq_some_iff] at e; obtain ⟨_, _, e⟩ := e
    rw [Option.bind_eq_some_iff] at e; obtain ⟨_, _, e⟩ := e
    split at e
    · split at e
      · split at e
        · split at e
          · split at e
            · simp [idK] at e; obtain ⟨_, rfl⟩ := e; exact kept_set (by simp [objOf]) _ _ _
            · simp [idK] at e; obtain ⟨_, rfl⟩ := e; exact kept_set (by simp [objOf]) _ _ _
          · cases e
        · cases e
      · cases e
    · cases e
  · cases e
theorem entryStore_kept {m st x v : V} {h1 : H} (e : entryStore m st x h (fun h => idK .un h) = some (.ret v, h1)) (n : Nat) : Kept (objOf m) n h h1 := by
  unfold entryStore at e
  split at e
  · split at e
    · rw [Option.bind_eq_some_iff] at e; obtain ⟨_, _, e⟩ := e
      rw [Option.bind_eq_some_iff] at e; obtain ⟨_, _, e⟩ := e
      split at e
      · simp [idK] at e; obtain ⟨_, rfl⟩ := e; exact kept_set (by simp [objOf]) _ _ _
      · cases e
    · cases e
  · cases e
theorem mapUpdate_kept {P : Program} {t : TypeId} {m i x v : V} {h1 : H} (e : mapUpdate P t m i x h (fun h => idK .un h) = some (.ret v, h1)) (n : Nat) : Kept (objOf m) n h h1 := by
  unfold mapUpdate at e
  split at e
  · rw [Option.bind_eq_some_iff] at e; obtain ⟨_, _, e⟩ := e
    rw [Option.bind_eq_some_iff] at e; obtain ⟨_, _, e⟩ := e
    rw [Option.bind_eq_some_iff] at e; obtain ⟨_, _, e⟩ := e
    split at e
    · split at e
      · split at e
        · simp [idK] at e; obtain ⟨_, rfl⟩ := e; exact kept_set (by simp [objOf]) _ _ _
        · cases e
      · cases e
    · cases e
  · cases e
theorem app_kept {es b n : Nat} {s v : V} {xs : List V} {h1 : H} (e : app es b s n xs h idK = some (.ret v, h1)) : Kept (objOf s) h.length h h1 := by
  unfold app at e
  split at e
  · split at e
    · split at e
      · simp [idK] at e; obtain ⟨_, rfl⟩ := e; exact kept_new _ _ _
      · cases e
    · split at e
      · simp [idK] at e; obtain ⟨_, rfl⟩ := e; exact fun k hk hn => rfl
      · split at e
        · simp [idK] at e; obtain ⟨_, rfl⟩ := e; exact kept_new _ _ _
        · cases e
    · split at e
      · split at e
        · split at e
          · split at e <;> simp [idK] at e <;> obtain ⟨_, rfl⟩ := e <;> exact kept_both (by simp [objOf]) _ _ _
          · cases e
        · split at e
          · simp [idK] at e; obtain ⟨_, rfl⟩ := e; exact kept_both (by simp [objOf]) _ _ _
          · cases e
        · cases e
      · cases e
    · cases e
  · cases e
theorem appF_kept {es b n : Nat} {s v : V} {xs : List F} {h1 : H} (e : appF es b s n xs h idK = some (.ret v, h1)) : Kept (objOf s) h.length h h1 := by
  unfold appF at e
  split at e
  · split at e
    · split at e
      · simp [idK] at e; obtain ⟨_, rfl⟩ := e; exact kept_new _ _ _
      · cases e
    · split at e
      · simp [idK] at e; obtain ⟨_, rfl⟩ := e; exact fun k hk hn => rfl
      · split at e
        · simp [idK] at e; obtain ⟨_, rfl⟩ := e; exact kept_new _ _ _
        · cases e
    · split at e
      · split at e
        · split at e
          · simp [idK] at e; obtain ⟨_, rfl⟩ := e; exact kept_both (by simp [objOf]) _ _ _
          · cases e
        · split at e
          · simp [idK] at e; obtain ⟨_, rfl⟩ := e; exact kept_both (by simp [objOf]) _ _ _
          · cases e
        · cases e
      · cases e
    · cases e
  · cases e
theorem append_kept {P : Program} {st xt : TypeId} {s x v : V} {h1 : H} (e : append P st xt s x h idK = some (.ret v, h1)) : Kept (objOf s) h.length h h1 := by
  unfold append at e
  rw [Option.bind_eq_some_iff] at e; obtain ⟨_, _, e⟩ := e
  rw [Option.bind_eq_some_iff] at e; obtain ⟨_, _, e⟩ := e
  rw [Option.bind_eq_some_iff] at e; obtain ⟨_, _, e⟩ := e
  rw [Option.bind_eq_some_iff] at e; obtain ⟨_, _, e⟩ := e
  split at e
  · split at e
    · exact appF_kept e
    · cases e
  · exact appF_kept e
  · split at e
    · split at e
      · exact appF_kept e
      · cases e
    · rw [Option.bind_eq_some_iff] at e; obtain ⟨_, _, e⟩ := e
      exact app_kept e
  · rw [Option.bind_eq_some_iff] at e; obtain ⟨_, _, e⟩ := e
    exact app_kept e
  · cases e
theorem buildSlice_kept {P : Program} {t : TypeId} {n : Nat} {ps : List (Nat × V)} {v : V} {h1 : H} (e : buildSlice P t n ps true h idK = some (.ret v, h1)) : Kept [] h.length h h1 := by
  unfold buildSlice at e
  rw [Option.bind_eq_some_iff] at e; obtain ⟨_, _, e⟩ := e
  rw [Option.bind_eq_some_iff] at e; obtain ⟨_, _, e⟩ := e
  rw [Option.bind_eq_some_iff] at e; obtain ⟨_, _, e⟩ := e
  rw [Option.bind_eq_some_iff] at e; obtain ⟨_, _, e⟩ := e
  split at e
  · simp [idK] at e; obtain ⟨_, rfl⟩ := e; exact kept_new _ _ _
  · cases e
theorem makeSlice_kept {P : Program} {t : TypeId} {l c v : V} {ob : Bool} {h1 : H} (e : makeSlice P t l c ob h idK = some (.ret v, h1)) : Kept [] h.length h h1 := by
  unfold makeSlice at e
  rw [Option.bind_eq_some_iff] at e; obtain ⟨_, _, e⟩ := e
  rw [Option.bind_eq_some_iff] at e; obtain ⟨_, _, e⟩ := e
  rw [Option.bind_eq_some_iff] at e; obtain ⟨_, _, e⟩ := e
  rw [Option.bind_eq_some_iff] at e; obtain ⟨_, _, e⟩ := e
  rw [Option.bind_eq_some_iff] at e; obtain ⟨_, _, e⟩ := e
  split at e
  · split at e <;> rw [Option.bind_eq_some_iff] at e <;> obtain ⟨_, _, e⟩ := e <;> simp [idK] at e <;> obtain ⟨_, rfl⟩ := e <;> exact kept_new _ _ _
  · cases e
theorem bytesNew_kept {P : Program} {s d : TypeId} {x v : V} {h1 : H} (e : bytesNew P s d x h idK = some (.ret v, h1)) (l : List Nat) : Kept l h.length h h1 := by
  unfold bytesNew at e
  split at e
  · split at e
    · simp [idK] at e; obtain ⟨_, rfl⟩ := e; exact kept_new _ _ _
    · cases e
  · simp [idK] at e; obtain ⟨_, rfl⟩ := e; exact fun _ _ _ => rfl
  · split at e
    · split at e
      · split at e
        · simp [idK] at e; obtain ⟨_, rfl⟩ := e; exact fun _ _ _ => rfl
        · cases e
      · cases e
    · cases e
  · cases e
theorem makeMap_kept {P : Program} {t : TypeId} {v : V} {h1 : H} (e : makeMap P t h idK = some (.ret v, h1)) : Kept [] h.length h h1 := by
  unfold makeMap at e
  split at e
  · rw [Option.bind_eq_some_iff] at e; obtain ⟨_, _, e⟩ := e
    simp [idK] at e; obtain ⟨_, rfl⟩ := e; exact kept_new _ _ _
  · cases e
theorem kill_get0 (tk : List Nat) : ∀ (i : Nat) (h : H) (k : Nat), i + k ∉ tk → (kill tk i h)[k]? = h[k]?
  | _, [], _, _ => rfl
  | i, o :: h, 0, hk => by
    have : tk.contains i = false := by simpa using hk
    simp [kill, this]
    intro hi; exact absurd hi (by simpa using hk)
  | i, o :: h, k + 1, hk => by
    simp only [kill, List.getElem?_cons_succ]
    exact kill_get0 tk (i + 1) h k (by rwa [show i + 1 + k = i + (k + 1) by omega])
theorem pin_taken {sh : List Sh} {args : List V} {l : List Sh} {p : Nat} (hp : pinOf sh args = some (l, p)) (h : H) : p ∈ takesL h sh args := by
  unfold pinOf at hp
  split at hp
  · rename_i l' rest k off as
    cases hp
    unfold takesL takes
    split <;> simp
  · rename_i l' rest k off as
    cases hp
    unfold takesL takes
    split <;> simp
  · cases hp
theorem builtin_append {P : Program} {ats : Array TypeId} {s : V} {xs : List V} {r : Out × H} (e : builtin P .append ats (s :: xs) h idK = some r) : ∃ st xt x, append P st xt s x h idK = some r := by
  unfold builtin at e
  generalize ats.toList = l at e
  match l, xs with
  | [st, xt], [x] => exact ⟨st, xt, x, e⟩
  | [], _ => cases e
  | [_], _ => cases e
  | [_, _], [] => cases e
  | [_, _], _ :: _ :: _ => cases e
  | _ :: _ :: _ :: _, _ => cases e
/-- a writer -/
theorem exec_wr (hpo : CallPol cx.po cx.call) {o : Oper} {l : List Nat} {n : Nat} {v : V} {h1 : H} (hf : cx.foot o fr h = .wr l n) (e : cx.exec o fr h idK idP = some (.ret v, h1)) : n = h.length ∧ Kept l n h h1 := by
  obtain ⟨dst, op, type, pos, after, guard⟩ := o
  cases op <;> simp only [Cx.foot] at hf
  case store t a x =>
    unfold stoFoot at hf
    split at hf
    · cases hf
    · cases hf; exact ⟨rfl, store_kept e _⟩
  case load t a => unfold ldFoot at hf; split at hf <;> (try split at hf) <;> cases hf
  case mapUpdate t m i x => cases hf; exact ⟨rfl, mapUpdate_kept e _⟩
  case mapEntry t m i => cases hf; exact ⟨rfl, mapEntry_kept e _⟩
  case entryStore t m st x => cases hf; exact ⟨rfl, entryStore_kept e _⟩
  case alloc t =>
    cases hf
    simp only [Cx.exec] at e
    rw [Option.bind_eq_some_iff] at e; obtain ⟨_, _, e⟩ := e
    simp [idK] at e; obtain ⟨_, rfl⟩ := e; exact ⟨rfl, kept_new _ _ _⟩
  case box t x =>
    cases hf
    simp only [Cx.exec] at e
    rw [Option.bind_eq_some_iff] at e; obtain ⟨_, _, e⟩ := e
    simp [idK] at e; obtain ⟨_, rfl⟩ := e; exact ⟨rfl, kept_new _ _ _⟩
  case makeSlice t a b => cases hf; exact ⟨rfl, makeSlice_kept e⟩
  case makeMap t r =>
    cases hf
    cases r with
    | none => exact ⟨rfl, makeMap_kept e⟩
    | some r => cases e
  case buildSlice t m ps =>
    split at hf
    · rename_i hob
      cases hf
      simp only [Cx.exec, hob] at e
      exact ⟨rfl, buildSlice_kept e⟩
    · cases hf
  case convert s d x =>
    split at hf
    · rename_i hs
      cases hf
      simp only [Cx.exec] at e
      rw [if_pos hs] at e
      exact ⟨rfl, bytesNew_kept e _⟩
    · cases hf
  case call c =>
    cases hc : c.callee with
    | invoke r m => rw [hc] at hf; cases hf
    | builtin b =>
      rw [hc] at hf
      dsimp only at hf
      split at hf
      · cases hf
      · rename_i s rest hl
        cases hf
        simp only [Cx.exec, hc, hl, List.map_cons] at e
        obtain ⟨st, xt, x, e⟩ := builtin_append e
        exact ⟨rfl, append_kept e⟩
      · cases hf
      · cases hf
      · cases hf
    | value f =>
      rw [hc] at hf
      dsimp only at hf
      split at hf
      · rename_i g cap hg
        split at hf
        · cases hf
        · split at hf <;> cases hf
        · split at hf <;> cases hf
        · rename_i sh rs zp zq hpu
          have hex : cx.exec ⟨dst, .call c, type, pos, after, guard⟩ fr h idK idP = onCall (cx.call g (c.args.toList.map (cx.ev fr) ++ cap) h) (fun v g' => tidy (cx.po g) (zr cx.P type) (c.args.toList.map (cx.ev fr) ++ cap) h v g' idK) idP := by simp only [Cx.exec, hc, hg]
          rw [hex] at e
          cases hcall : cx.call g (c.args.toList.map (cx.ev fr) ++ cap) h with
          | none => rw [hcall] at e; cases e
          | some q =>
            obtain ⟨o, g'⟩ := q
            rw [hcall] at e
            cases o with
            | pan v => cases e
            | ret v0 =>
              simp only [onCall] at e
              obtain ⟨-, rfl⟩ := tidy_ok hpo hcall e
              have hp := hpo g _ h v0 h1 hcall
              rw [hpu] at hp
              dsimp only at hp
              cases hq : pinOf sh (c.args.toList.map (cx.ev fr) ++ cap) with
              | none =>
                rw [hq] at hp hf
                simp only [Option.isSome_none, Bool.false_eq_true, if_false] at hf
                cases hf
                obtain ⟨rest, rfl⟩ := hp
                refine ⟨rfl, fun k hk hn => ?_⟩
                rw [List.getElem?_append_left (by rw [kill_len]; exact hn), kill_get0 _ 0 h k (by simpa using hk)]
              | some y =>
                obtain ⟨l', p⟩ := y
                have hpt := pin_taken hq h
                rw [hq] at hp hf
                simp only [Option.isSome_some, if_true] at hf
                cases hf
                obtain ⟨o, rest, rfl⟩ := hp
                refine ⟨rfl, fun k hk hn => ?_⟩
                rw [List.getElem?_append_left (by rw [List.length_set, kill_len]; exact hn), List.getElem?_set_ne (by intro e; subst e; exact hk (List.mem_append_left _ hpt)), kill_get0 _ 0 h k (by simpa using hk)]
      · cases hf
  all_goals first | (cases hf; done) | (unfold stoFoot at hf; split at hf <;> cases hf)
/-- what reads all keeps the heap -/
theorem exec_rdAll (hpo : CallPol cx.po cx.call) {o : Oper} {v : V} {h1 : H} (hf : cx.foot o fr h = .rdAll) (e : cx.exec o fr h idK idP = some (.ret v, h1)) : h1 = h := by
  obtain ⟨dst, op, type, pos, after, guard⟩ := o
  cases op <;> simp only [Cx.foot] at hf
  case load t a => unfold ldFoot at hf; split at hf <;> (try split at hf) <;> cases hf
  case buildSlice t m ps => split at hf <;> cases hf
  case convert s d x => split at hf <;> cases hf
  case call c =>
    cases hc : c.callee with
    | invoke r m => rw [hc] at hf; cases hf
    | builtin b => rw [hc] at hf; dsimp only at hf; split at hf <;> cases hf
    | value f =>
      rw [hc] at hf
      dsimp only at hf
      split at hf
      · rename_i g cap hg
        split at hf
        · cases hf
        · rename_i hpu
          have hex : cx.exec ⟨dst, .call c, type, pos, after, guard⟩ fr h idK idP = onCall (cx.call g (c.args.toList.map (cx.ev fr) ++ cap) h) (fun v g' => tidy (cx.po g) (zr cx.P type) (c.args.toList.map (cx.ev fr) ++ cap) h v g' idK) idP := by simp only [Cx.exec, hc, hg]
          rw [hex] at e
          cases hcall : cx.call g (c.args.toList.map (cx.ev fr) ++ cap) h with
          | none => rw [hcall] at e; cases e
          | some q =>
            obtain ⟨o, g'⟩ := q
            rw [hcall] at e
            cases o with
            | pan v => cases e
            | ret v0 =>
              simp only [onCall] at e
              obtain ⟨-, rfl⟩ := tidy_ok hpo hcall e
              have hp := hpo g _ h v0 h1 hcall
              rw [hpu] at hp
              exact hp.1
        · split at hf <;> cases hf
        · split at hf <;> cases hf
      · cases hf
  all_goals first | (cases hf; done) | (unfold stoFoot at hf; split at hf <;> cases hf)
end
theorem yielded_at {N : Nat} {ds : List Deferred} {η : Et} {ro : Ro} {fr : Fr} {a : Act} (f : FrRel N ds η ro fr a) {all : Array Oper} {j d : Nat} (hd : dstOf all j = some d) {b : Bool} (hb : fr d = .f (.s (.bool b))) : yielded all a.tmps j = some b := by
  have h1 := f.at_ d
  rw [hb] at h1
  have h2 := rel_s h1
  unfold yielded
  unfold dstOf at hd
  rw [hd]
  have h3 : a.tmps[d]? = some (.bool b) := by
    rw [Array.getD_eq_getD_getElem?] at h2
    cases hq : a.tmps[d]? with
    | none => rw [hq] at h2; cases h2
    | some x => rw [hq] at h2; simp at h2; rw [h2]
  simp only [Option.bind_some, h3]
theorem yielded_un {N : Nat} {ds : List Deferred} {η : Et} {ro : Ro} {fr : Fr} {a : Act} (f : FrRel N ds η ro fr a) {all : Array Oper} {j d : Nat} (hd : dstOf all j = some d) (hb : fr d = .un) : yielded all a.tmps j = none := by
  have h1 := f.at_ d
  rw [hb] at h1
  have h2 : a.tmps.getD d undef = undef := h1
  unfold yielded
  unfold dstOf at hd
  rw [hd]
  rw [Array.getD_eq_getD_getElem?] at h2
  simp only [Option.bind_some]
  cases hq : a.tmps[d]? with
  | none => rfl
  | some x => rw [hq] at h2; simp at h2; rw [h2]; rfl
theorem FrRel.lit {N : Nat} {ds : List Deferred} {η : Et} {ro : Ro} {fr : Fr} {a : Act} (f : FrRel N ds η ro fr a) {d : Nat} {b : Bool} (hb : fr d = .f (.s (.bool b))) {c : Bool} (hc : c = b) : FrRel N ds η ro (upd fr d (B c)) a := by
  subst hc
  refine ⟨f.size, fun i => ?_, f.defers, f.glob⟩
  unfold upd
  split
  · rename_i hi; subst hi; rw [B, ← hb]; exact f.at_ _
  · exact f.at_ i


/-! ### steps, and their orders -/
section
variable {ds : List Deferred} {cx : Cx} {all : Array Oper}
def wantedV (all : Array Oper) (fr : Fr) (o : Oper) : Option Bool :=
  match o.guard with
  | none => some true
  | some (j, want) => match dstOf all j with
    | none => some false
    | some d => match fr d with
      | .f (.s (.bool b)) => some (decide (b = want))
      | .un => some false
      | _ => none
def Cx.stepD (cx : Cx) (all : Array Oper) (o : Oper) (fr : Fr) (h : H) : Option (V × H × Foot) :=
  if okDst cx.N o.dst then
    match wantedV all fr o with
    | some true => match cx.exec o fr h idK idP with
      | some (.ret v, h1) => some (v, h1, cx.footP o fr h h1)
      | _ => none
    | some false => some (.un, h, .rd [])
    | none => none
  else none
def Cx.RunsD (cx : Cx) (all : Array Oper) (D : Nat → V × Foot) : List Nat → Fr → H → Fr → H → Prop
  | [], fr, h, fr', h' => fr = fr' ∧ h = h'
  | i :: l, fr, h, fr', h' => ∃ o h1, all[i]? = some o ∧ cx.stepD all o fr h = some ((D i).1, h1, (D i).2) ∧ Cx.RunsD cx all D l (put fr o.dst (D i).1) h1 fr' h'
theorem ev_congr {fr fr' : Fr} {o : Oper} (e : ∀ d ∈ o.looksAt all, fr d = fr' d) : ∀ x ∈ o.op.operands, cx.ev fr x = cx.ev fr' x := by
  intro x hx
  cases x with
  | tmp t => exact e t (List.mem_append_left _ (List.mem_filterMap.2 ⟨.tmp t, by simpa using hx, rfl⟩))
  | const v => cases v <;> rfl
  | _ => rfl
theorem step_congr {fr fr' : Fr} {h : H} {o : Oper} (e : ∀ d ∈ o.looksAt all, fr d = fr' d) : cx.stepD all o fr h = cx.stepD all o fr' h := by
  have hw : wantedV all fr o = wantedV all fr' o := by
    unfold wantedV
    cases hg : o.guard with
    | none => rfl
    | some q =>
      obtain ⟨j, want⟩ := q
      dsimp only
      cases hd : dstOf all j with
      | none => rfl
      | some d =>
        have : fr d = fr' d := e d (List.mem_append_right _ (by
          unfold dstOf at hd
          simp [hg, hd]))
        simp only [this]
  unfold Cx.stepD
  rw [hw, exec_congr o (ev_congr e)]
  simp only [footP_congr o (ev_congr e)]
theorem put_ne {fr : Fr} {d : Option Nat} {v : V} {t : Nat} (h : d ≠ some t) : put fr d v t = fr t := by
  cases d with
  | none => rfl
  | some d =>
    simp only [put, upd]
    rw [if_neg (fun e => h (by rw [e]))]
theorem put_comm {fr : Fr} {d e : Option Nat} {v u : V} (h : ∀ t, d = some t → e ≠ some t) : put (put fr d v) e u = put (put fr e u) d v := by
  cases d with
  | none => rfl
  | some d =>
    cases e with
    | none => rfl
    | some e =>
      have : e ≠ d := fun h' => h d rfl (by rw [h'])
      funext i
      simp only [put, upd]
      by_cases h1 : i = e
      · subst h1; rw [if_pos rfl, if_neg this, if_pos rfl]
      · rw [if_neg h1, if_neg h1]
theorem clash_nil (f : Foot) : f.clash (.rd []) = false := by cases f <;> simp [Foot.clash]
theorem nil_clash (f : Foot) : (Foot.rd []).clash f = false := by cases f <;> simp [Foot.clash]
theorem sameOO_eq {x y : Option Ob} (h : sameOO x y = true) : x = y := by
  unfold sameOO at h
  split at h
  · rw [sameO_eq h]
  · rfl
  · cases h
theorem sameAt_eq {a b : H} {k : Nat} (h : sameAt a b k = true) : a[k]? = b[k]? := by
  unfold sameAt at h
  rcases Bool.or_eq_true_iff.1 h with h | h
  · exact sameOO_eq h
  · simpa using h
theorem sameView_eq {a b : H} {k off n : Nat} (h : sameView a b k off n = true) : view a k off n = view b k off n := by
  unfold sameView at h
  rcases Bool.or_eq_true_iff.1 h with h | h
  · exact sameOO_eq h
  · simpa using h
theorem wrK_sto {k off : Nat} {cs : List V} {h h1 : H} {u : Out} (e : wrK h k off cs (fun h => idK .un h) = some (u, h1)) : u = .ret .un ∧ ∃ o', h1 = h.set k o' ∧ ∀ h' : H, h'[k]? = h[k]? → wrK h' k off cs (fun h => idK .un h) = some (.ret .un, h'.set k o') := by
  unfold wrK at e ⊢
  split at e
  · rename_i l hk
    split at e
    · rename_i hl
      simp only [idK, Option.some.injEq, Prod.mk.injEq] at e
      obtain ⟨rfl, rfl⟩ := e
      exact ⟨rfl, _, rfl, fun h' hh => by simp only [hh, hk]; rw [if_pos hl]; rfl⟩
    · cases e
  · rename_i l hk
    split at e
    · rename_i hl
      simp only [idK, Option.some.injEq, Prod.mk.injEq] at e
      obtain ⟨rfl, rfl⟩ := e
      exact ⟨rfl, _, rfl, fun h' hh => by simp only [hh, hk]; rw [if_pos hl]; rfl⟩
    · cases e
  · cases e
theorem exec_sto {o : Oper} {fr : Fr} {h h1 : H} {v : V} {k : Nat} (hf : cx.foot o fr h = .sto k) (hx : cx.exec o fr h idK idP = some (.ret v, h1)) :
    ∃ o', h1 = h.set k o' ∧ ∀ h' : H, h'[k]? = h[k]? → cx.exec o fr h' idK idP = some (.ret v, h'.set k o') ∧ cx.foot o fr h' = .sto k := by
  obtain ⟨dst, op, type, pos, after, guard⟩ := o
  cases op <;> simp only [Cx.foot] at hf
  case store t a x =>
    unfold stoFoot at hf
    split at hf
    · rename_i k' off ha
      cases hf
      simp only [Cx.exec, ha, store] at hx ⊢
      rw [Option.bind_eq_some_iff] at hx; obtain ⟨n, hn, hx⟩ := hx
      rw [Option.bind_eq_some_iff] at hx; obtain ⟨cs, hcs, hx⟩ := hx
      split at hx
      · rename_i hl
        obtain ⟨hu, o', e1, e2⟩ := wrK_sto hx
        cases hu
        refine ⟨o', e1, fun h' hh => ⟨?_, by simp [Cx.foot, ha, stoFoot]⟩⟩
        simp only [hn, hcs, Option.bind_some]
        rw [if_pos hl]
        exact e2 h' hh
      · cases hx
    · cases hf
  all_goals (first | (cases hf; done) | skip)
  all_goals (exfalso; revert hf)
  case load t a => unfold ldFoot; split <;> (try split) <;> simp
  case convert s d x => split <;> simp
  case buildSlice t n ps => split <;> simp
  case call c =>
    split
    · split <;> simp
    · split
      · split <;> (try split) <;> simp
      · simp
    · simp
theorem foot_noswap {o : Oper} {fr : Fr} {h a b : H} (hf : cx.foot o fr h = .swap a b) : False := by
  unfold Cx.foot at hf
  split at hf
  · unfold ldFoot at hf; split at hf <;> (try split at hf) <;> cases hf
  all_goals (first | (cases hf; done) | skip)
  · split at hf <;> cases hf
  · split at hf <;> cases hf
  · unfold stoFoot at hf; split at hf <;> cases hf
  · split at hf
    · split at hf <;> cases hf
    · split at hf
      · dsimp only at hf
        split at hf
        · cases hf
        · split at hf <;> cases hf
        · split at hf <;> cases hf
        · split at hf <;> cases hf
      · cases hf
    · cases hf
/-- two steps, one behind the other: the other way round -/
theorem step_swap (hpo : CallPol cx.po cx.call) {oi oj : Oper} {fr : Fr} {h h1 h2 : H} {vi vj : V} {fi fj : Foot} (ap : oi.apart all oj = true) (cl : fi.clash fj = false)
    (e1 : cx.stepD all oi fr h = some (vi, h1, fi)) (e2 : cx.stepD all oj (put fr oi.dst vi) h1 = some (vj, h2, fj)) :
    ∃ h1', cx.stepD all oj fr h = some (vj, h1', fj) ∧ cx.stepD all oi (put fr oj.dst vj) h1' = some (vi, h2, fi) := by
  obtain ⟨a1, a2, a3⟩ := Oper.apart_spec ap
  have c1 : ∀ h, cx.stepD all oj (put fr oi.dst vi) h = cx.stepD all oj fr h := fun h => step_congr fun d hd => put_ne fun e => a1 d e hd
  have c2 : ∀ h, cx.stepD all oi (put fr oj.dst vj) h = cx.stepD all oi fr h := fun h => step_congr fun d hd => put_ne fun e => a3 d e hd
  rw [c1] at e2
  simp only [c2]
  -- what a step is
  have nosw : ∀ {o : Oper} {h h1 : H} {f : Foot}, cx.footP o fr h h1 = f → (∀ a b, f ≠ .swap a b) → cx.keeps o fr = false ∧ cx.foot o fr h = f := by
    intro o h h1 f e hn
    unfold Cx.footP at e
    split at e
    · exact absurd e.symm (hn _ _)
    · rename_i hk; exact ⟨by simpa using hk, e⟩
  have step : ∀ {o : Oper} {h h1 : H} {v : V} {f : Foot}, cx.stepD all o fr h = some (v, h1, f) → (cx.exec o fr h idK idP = some (.ret v, h1) ∧ cx.footP o fr h h1 = f ∧ ∀ {h' h1' : H} {f' : Foot}, cx.exec o fr h' idK idP = some (.ret v, h1') → cx.footP o fr h' h1' = f' → cx.stepD all o fr h' = some (v, h1', f')) ∨
      (h1 = h ∧ f = .rd [] ∧ ∀ h', cx.stepD all o fr h' = some (v, h', .rd [])) := by
    intro o h h1 v f e
    unfold Cx.stepD at e ⊢
    cases hd : okDst cx.N o.dst with
    | false => rw [hd] at e; cases e
    | true =>
      rw [hd, if_pos rfl] at e
      simp only [if_true]
      cases hw : wantedV all fr o with
      | none => rw [hw] at e; cases e
      | some b =>
        rw [hw] at e
        cases b with
        | true =>
          dsimp only at e ⊢
          split at e
          · rename_i v' h1' hx
            simp only [Option.some.injEq, Prod.mk.injEq] at e
            obtain ⟨rfl, rfl, hf⟩ := e
            exact .inl ⟨hx, hf, fun hx' hf' => by rw [hx']; simp only [hf']⟩
          · cases e
        | false =>
          simp only [Option.some.injEq, Prod.mk.injEq] at e
          obtain ⟨rfl, rfl, hf⟩ := e
          exact .inr ⟨rfl, hf.symm, fun h' => rfl⟩
  have reader : ∀ {o : Oper} {h h1 : H} {v : V} {rs : List Nat}, cx.stepD all o fr h = some (v, h1, .rd rs) → h1 = h ∧ ∀ h', Agree rs h h' → cx.stepD all o fr h' = some (v, h', .rd rs) := by
    intro o h h1 v rs e
    rcases step e with ⟨hx, hf, hn⟩ | ⟨q1, q2, q3⟩
    · obtain ⟨k1, k2⟩ := nosw hf (fun _ _ => by simp)
      obtain ⟨p1, p2⟩ := exec_rd hpo k2 hx
      refine ⟨p1, fun h' ha => ?_⟩
      obtain ⟨r1, r2⟩ := p2 h' ha
      exact hn r1 (by unfold Cx.footP; rw [k1, if_neg (by simp)]; exact r2)
    · cases q2; exact ⟨q1, fun h' _ => q3 h'⟩
  have ldr : ∀ {o : Oper} {h h1 : H} {v : V} {k off n : Nat}, cx.stepD all o fr h = some (v, h1, .ldc k off n) → h1 = h ∧ ∀ h', view h k off n = view h' k off n → cx.stepD all o fr h' = some (v, h', .ldc k off n) := by
    intro o h h1 v k off n e
    rcases step e with ⟨hx, hf, hn⟩ | ⟨q1, q2, q3⟩
    · obtain ⟨k1, k2⟩ := nosw hf (fun _ _ => by simp)
      obtain ⟨p1, p2⟩ := exec_ldc k2 hx
      refine ⟨p1, fun h' ha => ?_⟩
      obtain ⟨r1, r2⟩ := p2 h' ha
      exact hn r1 (by unfold Cx.footP; rw [k1, if_neg (by simp)]; exact r2)
    · cases q2
  have swapper : ∀ {o : Oper} {h h1 : H} {v : V} {a b : H}, cx.stepD all o fr h = some (v, h1, .swap a b) → a = h ∧ b = h1 := by
    intro o h h1 v a b e
    rcases step e with ⟨hx, hf, hn⟩ | ⟨q1, q2, q3⟩
    · unfold Cx.footP at hf
      split at hf
      · cases hf; exact ⟨rfl, rfl⟩
      · rename_i hk
        -- no other operation swaps
        exfalso
        exact foot_noswap hf
    · cases q2
  have rall : ∀ {o : Oper} {h h1 : H} {v : V}, cx.stepD all o fr h = some (v, h1, .rdAll) → h1 = h := by
    intro o h h1 v e
    rcases step e with ⟨hx, hf, hn⟩ | ⟨q1, q2, q3⟩
    · exact exec_rdAll hpo (nosw hf (fun _ _ => by simp)).2 hx
    · cases q2
  have writer : ∀ {o : Oper} {h h1 : H} {v : V} {l : List Nat} {n : Nat}, cx.stepD all o fr h = some (v, h1, .wr l n) → Kept l n h h1 := by
    intro o h h1 v l n e
    rcases step e with ⟨hx, hf, hn⟩ | ⟨q1, q2, q3⟩
    · exact (exec_wr hpo (nosw hf (fun _ _ => by simp)).2 hx).2
    · cases q2
  have storer : ∀ {o : Oper} {h h1 : H} {v : V} {k : Nat}, cx.stepD all o fr h = some (v, h1, .sto k) → ∃ o', h1 = h.set k o' ∧ ∀ h' : H, h'[k]? = h[k]? → cx.stepD all o fr h' = some (v, h'.set k o', .sto k) := by
    intro o h h1 v k e
    rcases step e with ⟨hx, hf, hn⟩ | ⟨q1, q2, q3⟩
    · obtain ⟨k1, k2⟩ := nosw hf (fun _ _ => by simp)
      obtain ⟨o', p1, p2⟩ := exec_sto k2 hx
      refine ⟨o', p1, fun h' ha => ?_⟩
      obtain ⟨r1, r2⟩ := p2 h' ha
      exact hn r1 (by unfold Cx.footP; rw [k1, if_neg (by simp)]; exact r2)
    · cases q2
  have sto_agree : ∀ {rs : List Nat} {k : Nat} {h : H} {o : Ob}, rs.contains k = false → Agree rs h (h.set k o) := by
    intro rs k h o hc j hm
    rw [List.getElem?_set_ne (fun q => by subst q; rw [List.contains_eq_mem, decide_eq_false_iff_not] at hc; exact hc hm)]
  have sto_view : ∀ {k j off n : Nat} {h : H} {o : Ob}, (j == k) = false → view h j off n = view (h.set k o) j off n := by
    intro k j off n h o hc
    unfold view
    rw [List.getElem?_set_ne (fun q => by subst q; simp at hc)]
  have sw1 : ∀ {rs : List Nat} {a b : H}, (rs.any fun k => !sameAt a b k) = false → Agree rs a b := by
    intro rs a b hc k hm
    have := List.any_eq_false.1 hc k hm
    exact (sameAt_eq (by simpa using this)).symm
  have vw1 : ∀ {k off n m : Nat} {l : List Nat} {h h' : H}, (l.contains k || decide (m ≤ k)) = false → Kept l m h h' → view h k off n = view h' k off n := by
    intro k off n m l h h' hc hk
    simp at hc
    unfold view
    rw [hk k (by simpa using hc.1) (by omega)]
  have agree : ∀ {rs l : List Nat} {n : Nat} {h h' : H}, (rs.any fun k => l.contains k || decide (n ≤ k)) = false → Kept l n h h' → Agree rs h h' := by
    intro rs l n h h' hc hk k hm
    have := List.any_eq_false.1 hc k hm
    simp at this
    exact hk k (by simpa using this.1) (by omega)
  cases fi with
  | rd ri =>
    obtain ⟨rfl, r1⟩ := reader e1
    cases fj with
    | rd rj => obtain ⟨rfl, _⟩ := reader e2; exact ⟨_, e2, e1⟩
    | rdAll => cases rall e2; exact ⟨_, e2, e1⟩
    | ldc k off n => obtain ⟨rfl, _⟩ := ldr e2; exact ⟨_, e2, e1⟩
    | wr l n => exact ⟨_, e2, r1 _ (agree cl (writer e2))⟩
    | swap a b => obtain ⟨rfl, rfl⟩ := swapper e2; exact ⟨_, e2, r1 _ (sw1 cl)⟩
    | sto k => obtain ⟨o', rfl, _⟩ := storer e2; exact ⟨_, e2, r1 _ (sto_agree cl)⟩
    | wrAll =>
      have : ri = [] := by simpa [Foot.clash] using cl
      subst this
      exact ⟨_, e2, r1 _ fun k hk => by cases hk⟩
  | ldc k off n =>
    obtain ⟨rfl, r1⟩ := ldr e1
    cases fj with
    | rd rj => obtain ⟨rfl, _⟩ := reader e2; exact ⟨_, e2, e1⟩
    | rdAll => cases rall e2; exact ⟨_, e2, e1⟩
    | ldc k off n => obtain ⟨rfl, _⟩ := ldr e2; exact ⟨_, e2, e1⟩
    | wr l m => exact ⟨_, e2, r1 _ (vw1 cl (writer e2))⟩
    | swap a b => obtain ⟨rfl, rfl⟩ := swapper e2; exact ⟨_, e2, r1 _ (sameView_eq (by simpa [Foot.clash] using cl))⟩
    | sto j => obtain ⟨o', rfl, _⟩ := storer e2; exact ⟨_, e2, r1 _ (sto_view cl)⟩
    | wrAll => cases cl
  | rdAll =>
    cases rall e1
    cases fj with
    | rd rj => obtain ⟨rfl, _⟩ := reader e2; exact ⟨_, e2, e1⟩
    | rdAll => cases rall e2; exact ⟨_, e2, e1⟩
    | ldc k off n => obtain ⟨rfl, _⟩ := ldr e2; exact ⟨_, e2, e1⟩
    | wr l n => cases cl
    | wrAll => cases cl
    | swap a b => cases cl
    | sto k => cases cl
  | sto k =>
    obtain ⟨o', rfl, r1⟩ := storer e1
    cases fj with
    | rd rj =>
      obtain ⟨rfl, r2⟩ := reader e2
      exact ⟨h, r2 h fun j hm => (sto_agree cl j hm).symm, e1⟩
    | ldc j off m =>
      obtain ⟨rfl, r2⟩ := ldr e2
      exact ⟨h, r2 h (sto_view cl).symm, e1⟩
    | rdAll => cases cl
    | wr l n => cases cl
    | wrAll => cases cl
    | swap a b => cases cl
    | sto j =>
      have hne : k ≠ j := by simpa [Foot.clash] using cl
      obtain ⟨o2, rfl, r2⟩ := storer e2
      refine ⟨h.set j o2, r2 h (by rw [List.getElem?_set_ne hne]), ?_⟩
      rw [r1 (h.set j o2) (by rw [List.getElem?_set_ne (fun q => hne q.symm)]), List.set_comm _ _ hne]
  | wr l n =>
    cases fj with
    | rd rj =>
      obtain ⟨rfl, r2⟩ := reader e2
      have hk := writer e1
      exact ⟨h, r2 h fun k hm => (agree cl hk k hm).symm, e1⟩
    | ldc k off m =>
      obtain ⟨rfl, r2⟩ := ldr e2
      exact ⟨h, r2 h (vw1 cl (writer e1)).symm, e1⟩
    | rdAll => cases cl
    | wr l n => cases cl
    | wrAll => cases cl
    | swap a b => cases cl
    | sto k => cases cl
  | swap a b =>
    obtain ⟨rfl, rfl⟩ := swapper e1
    cases fj with
    | rd rj =>
      obtain ⟨rfl, r2⟩ := reader e2
      exact ⟨_, r2 _ fun k hm => (sw1 cl k hm).symm, e1⟩
    | ldc k off m =>
      obtain ⟨rfl, r2⟩ := ldr e2
      exact ⟨_, r2 _ (sameView_eq (by simpa [Foot.clash] using cl)).symm, e1⟩
    | rdAll => cases cl
    | wr l n => cases cl
    | wrAll => cases cl
    | swap a b => cases cl
    | sto k => cases cl
  | wrAll =>
    cases fj with
    | rd rj =>
      have : rj = [] := by simpa [Foot.clash] using cl
      subst this
      obtain ⟨rfl, r2⟩ := reader e2
      exact ⟨h, r2 h (fun k hm => by cases hm), e1⟩
    | ldc k off n => cases cl
    | rdAll => cases cl
    | wr l n => cases cl
    | wrAll => cases cl
    | swap a b => cases cl
    | sto k => cases cl
def Comm (all : Array Oper) (D : Nat → V × Foot) (j i : Nat) : Prop := (∀ oj oi, all[j]? = some oj → all[i]? = some oi → oj.apart all oi = true) ∧ (D j).2.clash (D i).2 = false
theorem runs_swap (hpo : CallPol cx.po cx.call) {D : Nat → V × Foot} {i j : Nat} {l : List Nat} {fr fr' : Fr} {h h' : H} (c : Comm all D j i) (r : cx.RunsD all D (j :: i :: l) fr h fr' h') : cx.RunsD all D (i :: j :: l) fr h fr' h' := by
  obtain ⟨oj, h1, g1, e1, oi, h2, g2, e2, r⟩ := r
  have ap := c.1 oj oi g1 g2
  obtain ⟨h1', f1, f2⟩ := step_swap hpo ap c.2 e1 e2
  obtain ⟨a1, a2, a3⟩ := Oper.apart_spec ap
  refine ⟨oi, h1', g2, f1, oj, h2, g1, f2, ?_⟩
  rw [put_comm (fun t ht ht' => a2 t ht' ht)]
  exact r
theorem runs_pull (hpo : CallPol cx.po cx.call) {D : Nat → V × Foot} {i : Nat} {l2 : List Nat} {fr' : Fr} {h' : H} : ∀ (l1 : List Nat) {fr : Fr} {h : H}, (∀ j ∈ l1, Comm all D j i) → cx.RunsD all D (l1 ++ i :: l2) fr h fr' h' → cx.RunsD all D (i :: (l1 ++ l2)) fr h fr' h'
  | [], fr, h, _, r => r
  | j :: l1, fr, h, hc, r => by
    obtain ⟨oj, h1, g1, e1, r⟩ := r
    have r2 := runs_pull hpo l1 (fun k hk => hc k (by simp [hk])) r
    exact runs_swap hpo (hc j (by simp)) ⟨oj, h1, g1, e1, r2⟩

/-! ### which stand ahead -/
theorem befs_get : ∀ (l : List Oper) (acc : List Nat) (k : Nat), k < acc.length → (befs l acc).getD k 0 = acc.getD k 0
  | [], acc, k, h => rfl
  | o :: l, acc, k, h => by
    unfold befs
    rw [befs_get l _ k (by simp; omega)]
    simp [List.getD_eq_getElem?_getD, List.getElem?_append_left h]
theorem befs_len : ∀ (l : List Oper) (acc : List Nat), (befs l acc).length = acc.length + l.length
  | [], acc => rfl
  | o :: l, acc => by unfold befs; rw [befs_len l]; simp; omega
theorem mask_spec (acc : List Nat) : ∀ (es : List Edge) (s j : Nat), (es.foldl (fun s e => if Region.binds .any e then s ||| 2 ^ e.on ||| acc.getD e.on 0 else s) s).testBit j = true → s.testBit j = true ∨ ∃ e ∈ es, Region.binds .any e = true ∧ (j = e.on ∨ (acc.getD e.on 0).testBit j = true)
  | [], s, j, h => .inl h
  | e :: es, s, j, h => by
    rw [List.foldl_cons] at h
    rcases mask_spec acc es _ j h with h | ⟨e', h1, h2⟩
    · split at h
      · rename_i hb
        rw [Nat.testBit_or, Nat.testBit_or, Bool.or_eq_true, Bool.or_eq_true] at h
        rcases h with (h | h) | h
        · exact .inl h
        · rw [Nat.testBit_two_pow] at h
          exact .inr ⟨e, by simp, hb, .inl ((of_decide_eq_true h).symm)⟩
        · exact .inr ⟨e, by simp, hb, .inr h⟩
      · exact .inl h
    · exact .inr ⟨e', by simp [h1], h2⟩
theorem befs_spec : ∀ (l : List Oper) (acc : List Nat) (k j : Nat), ((befs l acc).getD (acc.length + k) 0).testBit j = true → ∃ o, l[k]? = some o ∧ ∃ e ∈ o.after.toList, Region.binds .any e = true ∧ (j = e.on ∨ ((befs l acc).getD e.on 0).testBit j = true)
  | [], acc, k, j, h => by
    unfold befs at h
    rw [List.getD_eq_getElem?_getD, List.getElem?_eq_none (by omega)] at h
    simp at h
  | o :: l, acc, 0, j, h => by
    unfold befs at h
    rw [befs_get l _ _ (by simp)] at h
    have : (acc ++ [maskOf o acc]).getD (acc.length + 0) 0 = maskOf o acc := by simp [List.getD_eq_getElem?_getD]
    rw [this] at h
    rcases mask_spec acc o.after.toList 0 j h with h | ⟨e, h1, h2, h3⟩
    · simp at h
    · refine ⟨o, rfl, e, h1, h2, h3.imp id fun h3 => ?_⟩
      unfold befs
      by_cases hlt : e.on < acc.length
      · rw [befs_get l _ _ (by simp; omega)]
        rw [List.getD_eq_getElem?_getD, List.getElem?_append_left hlt, ← List.getD_eq_getElem?_getD]; exact h3
      · rw [List.getD_eq_getElem?_getD, List.getElem?_eq_none (by omega)] at h3; simp at h3
  | o :: l, acc, k + 1, j, h => by
    unfold befs at h ⊢
    have := befs_spec l (acc ++ [maskOf o acc]) k j (by rw [show (acc ++ [maskOf o acc]).length + k = acc.length + (k + 1) by simp; omega]; exact h)
    simpa using this
end

/-! ### the canonical order, out of the machine -/
section
variable {ds : List Deferred} {cx : Cx} {all : Array Oper} {bef : List Nat} {K0 : K} {out : Out × H}
theorem upd_self {fr : Fr} {d : Nat} {v : V} (h : fr d = v) : upd fr d v = fr := by
  funext i; unfold upd; split
  · rename_i hi; rw [hi, h]
  · rfl
theorem quiet_foot {o : Oper} (hq : quietOp o = true) (fr : Fr) (h : H) : cx.foot o fr h = .rd [] := by
  unfold quietOp at hq
  unfold Cx.foot
  generalize o.op = op at hq ⊢
  cases op <;> first | rfl | cases hq
theorem okFoot_spec {f : Foot} {i : Nat} : ∀ {acc : List (Nat × Foot)}, okFoot bef i acc f = true → ∀ x ∈ acc, (bef.getD i 0).testBit x.1 = true ∨ x.2.clash f = false
  | [], _, x, hx => (List.not_mem_nil hx).elim
  | y :: r, h, x, hx => by
    unfold okFoot unord at h
    split at h
    · rename_i hb
      rcases List.mem_cons.1 hx with rfl | hx
      · exact .inl hb
      · exact okFoot_spec (acc := r) h x hx
    · rcases List.mem_cons.1 hx with rfl | hx
      · simp [nocl] at h; exact .inr h.1
      · simp [nocl] at h; exact okFoot_spec (acc := r) (by simp [okFoot, nocl]; exact h.2) x hx
theorem quiet_keeps {o : Oper} (hq : quietOp o = true) (fr : Fr) : cx.keeps o fr = false := by
  unfold quietOp at hq
  unfold Cx.keeps
  generalize o.op = op at hq ⊢
  cases op <;> first | rfl | cases hq
theorem allReads_spec {i : Nat} : ∀ {acc : List (Nat × Foot)}, allReads (unord bef i acc) = true → ∀ x ∈ acc, (bef.getD i 0).testBit x.1 = true ∨ x.2.reads = true
  | [], _, x, hx => (List.not_mem_nil hx).elim
  | y :: r, h, x, hx => by
    unfold unord at h
    split at h
    · rename_i hb
      rcases List.mem_cons.1 hx with rfl | hx
      · exact .inl hb
      · exact allReads_spec (acc := r) h x hx
    · simp [allReads] at h
      rcases List.mem_cons.1 hx with rfl | hx
      · exact .inr h.1
      · exact allReads_spec (acc := r) h.2 x hx
/-- how a row of operations goes through: to its end, or to one that ends it all -/
def Through (cx : Cx) (all : Array Oper) (bef : List Nat) (K0 : K) (out : Out × H) (i n : Nat) (acc : List (Nat × Foot)) (fr : Fr) (h : H) : Prop :=
  (∃ (D : Nat → V × Foot) (fr' : Fr) (h' : H), cx.RunsD all D (List.range' i n) fr h fr' h' ∧ K0 .normal fr' h' = some out ∧
      (∀ k, i ≤ k → k < i + n → ∀ x ∈ acc, x.2.clash (D k).2 = true → (bef.getD k 0).testBit x.1 = true ∨ lateB all bef k = true) ∧
      (∀ j k, i ≤ j → j < k → k < i + n → (D j).2.clash (D k).2 = true → (bef.getD k 0).testBit j = true ∨ lateB all bef k = true)) ∨
  (∃ (m : Nat) (D : Nat → V × Foot) (fr' : Fr) (h' : H) (v : V) (g : H) (o : Oper), i ≤ m ∧ m < i + n ∧ cx.RunsD all D (List.range' i (m - i)) fr h fr' h' ∧ all[m]? = some o ∧ okDst cx.N o.dst = true ∧ wantedV all fr' o = some true ∧
      cx.exec o fr' h' idK idP = some (.pan v, g) ∧ K0 (.pan v) noFr g = some out ∧
      (∀ j, j < all.size → m < j → (bef.getD j 0).testBit m = true) ∧ (∀ j, j < m → lateB all bef j = false) ∧
      (∀ x ∈ acc, (bef.getD m 0).testBit x.1 = true ∨ x.2.reads = true) ∧ (∀ j, i ≤ j → j < m → (bef.getD m 0).testBit j = true ∨ (D j).2.reads = true) ∧
      (∀ k, i ≤ k → k < m → ∀ x ∈ acc, x.2.clash (D k).2 = true → (bef.getD k 0).testBit x.1 = true ∨ lateB all bef k = true) ∧
      (∀ j k, i ≤ j → j < k → k < m → (D j).2.clash (D k).2 = true → (bef.getD k 0).testBit j = true ∨ lateB all bef k = true))
theorem opsD_runs : ∀ (rest : List Oper) (i : Nat) (acc : List (Nat × Foot)) {fr : Fr} {h : H}, all.toList.drop i = rest → cx.opsD all bef K0 i rest acc fr h = some out →
    Through cx all bef K0 out i rest.length acc fr h
  | [], i, acc, fr, h, hd, e => .inl ⟨fun _ => (.un, .rd []), fr, h, ⟨rfl, rfl⟩, e, fun k h1 h2 => by simp at h2; omega, fun j k h1 h2 h3 => by simp at h3; omega⟩
  | o :: rest, i, acc, fr, h, hd, e => by
    have ho : all[i]? = some o := by
      have : (all.toList.drop i)[0]? = some o := by rw [hd]; rfl
      simpa using this
    have hd' : all.toList.drop (i + 1) = rest := by
      rw [← List.drop_drop, hd]; rfl
    unfold Cx.opsD at e
    split at e
    rotate_left
    · cases e
    rename_i hok
    -- one more ahead
    have cons : ∀ {v : V} {h1 : H} {f : Foot} {acc' : List (Nat × Foot)}, cx.stepD all o fr h = some (v, h1, f) → (∀ x ∈ acc, x ∈ acc') → (f = .rd [] ∨ (i, f) ∈ acc') → (∀ x ∈ acc, x.2.clash f = true → (bef.getD i 0).testBit x.1 = true ∨ lateB all bef i = true) →
        cx.opsD all bef K0 (i + 1) rest acc' (put fr o.dst v) h1 = some out → Through cx all bef K0 out i (o :: rest).length acc fr h := by
      intro v h1 f acc' es ha hf hcl e
      have there : ∀ (D : Nat → V × Foot) (l : List Nat) {fr fr' : Fr} {h h' : H}, (∀ k ∈ l, k ≠ i) → cx.RunsD all D l fr h fr' h' → cx.RunsD all (fun k => if k = i then (v, f) else D k) l fr h fr' h' := by
        intro D l
        induction l with
        | nil => intro fr fr' h h' _ r; exact r
        | cons a l ih =>
          intro fr fr' h h' hne r
          obtain ⟨o', h1', g1, g2, r⟩ := r
          refine ⟨o', h1', g1, ?_, ?_⟩
          · simp only [hne a (by simp), if_false]; exact g2
          · simp only [hne a (by simp), if_false]; exact ih (fun k hk => hne k (by simp [hk])) r
      rcases opsD_runs rest (i + 1) acc' hd' e with ⟨D, fr', h', r, hk, p1, p2⟩ | ⟨m, D, fr', h', v', g, om, q1, q2, r, q3, q4, q5, q6, q7, q8, q9, q10, q11, p1, p2⟩
      · refine .inl ⟨fun k => if k = i then (v, f) else D k, fr', h', ?_, hk, ?_, ?_⟩
        · rw [List.length_cons, List.range'_succ]
          refine ⟨o, h1, ho, by simpa using es, ?_⟩
          simp only [if_true]
          exact there D _ (fun k hk => by have := List.mem_range'_1.1 hk; omega) r
        · intro k h2 h3 x hx hc
          dsimp only at hc
          by_cases hki : k = i
          · subst hki; rw [if_pos rfl] at hc; exact hcl x hx hc
          · rw [if_neg hki] at hc
            exact p1 k (by omega) (by simp at h3; omega) x (ha x hx) hc
        · intro j k h2 h3 h4 hc
          dsimp only at hc
          have hki : k ≠ i := by omega
          rw [if_neg hki] at hc
          by_cases hji : j = i
          · subst hji
            rw [if_pos rfl] at hc
            rcases hf with hf | hf
            · subst hf; rw [nil_clash] at hc; cases hc
            · exact p1 k (by omega) (by simp at h4; omega) (j, f) hf hc
          · rw [if_neg hji] at hc
            exact p2 j k (by omega) h3 (by simp at h4; omega) hc
      · refine .inr ⟨m, fun k => if k = i then (v, f) else D k, fr', h', v', g, om, by omega, by simp; omega, ?_, q3, q4, q5, q6, q7, q8, q9, ?_, ?_, ?_, ?_⟩
        · rw [show m - i = (m - (i + 1)) + 1 by omega, List.range'_succ]
          refine ⟨o, h1, ho, by simpa using es, ?_⟩
          simp only [if_true]
          exact there D _ (fun k hk => by have := List.mem_range'_1.1 hk; omega) r
        · exact fun x hx => q10 x (ha x hx)
        · intro j h2 h3
          dsimp only
          by_cases hji : j = i
          · subst hji
            rw [if_pos rfl]
            rcases hf with hf | hf
            · subst hf; exact .inr rfl
            · exact q10 (j, f) hf
          · rw [if_neg hji]; exact q11 j (by omega) h3
        · intro k h2 h3 x hx hc
          dsimp only at hc
          by_cases hki : k = i
          · subst hki; rw [if_pos rfl] at hc; exact hcl x hx hc
          · rw [if_neg hki] at hc
            exact p1 k (by omega) h3 x (ha x hx) hc
        · intro j k h2 h3 h4 hc
          dsimp only at hc
          have hki : k ≠ i := by omega
          rw [if_neg hki] at hc
          by_cases hji : j = i
          · subst hji
            rw [if_pos rfl] at hc
            rcases hf with hf | hf
            · subst hf; rw [nil_clash] at hc; cases hc
            · exact p1 k (by omega) h4 (j, f) hf hc
          · rw [if_neg hji] at hc
            exact p2 j k (by omega) h3 h4 hc
    have no : wantedV all fr o = some false → cx.opsD all bef K0 (i + 1) rest acc (put fr o.dst .un) h = some out → _ := fun hw e =>
      cons (v := .un) (f := .rd []) (by unfold Cx.stepD; rw [if_pos hok, hw]) (fun _ hx => hx) (.inl rfl) (fun x _ hc => by rw [clash_nil] at hc; cases hc) e
    have go : wantedV all fr o = some true → (if quietOp o then cx.exec o fr h (fun v h => cx.opsD all bef K0 (i + 1) rest acc (put fr o.dst v) h) (fun _ _ => none)
        else cx.exec o fr h (fun v h1 => onFoot (cx.footP o fr h h1) fun f => if okFoot bef i acc f || lateB all bef i then cx.opsD all bef K0 (i + 1) rest ((i, f) :: acc) (put fr o.dst v) h1 else none)
          (fun v h1 => if panOk all bef i acc then K0 (.pan v) noFr h1 else none)) = some out → _ := fun hw e => by
      split at e
      · rename_i hq
        have hf : ∀ h1, cx.footP o fr h h1 = .rd [] := fun h1 => by unfold Cx.footP; rw [quiet_keeps hq, if_neg (by simp)]; exact quiet_foot hq fr h
        rw [exec_nat] at e
        cases hx : cx.exec o fr h idK idP with
        | none => rw [hx] at e; cases e
        | some q =>
          obtain ⟨u, h1⟩ := q
          rw [hx] at e
          cases u with
          | pan v => cases e
          | ret v =>
            simp only [onCall] at e
            exact cons (v := v) (f := .rd []) (by unfold Cx.stepD; rw [if_pos hok, hw]; simp only [hx, hf]) (fun x hx => hx) (.inl rfl) (fun x hx hc => by rw [clash_nil] at hc; cases hc) e
      rw [exec_nat] at e
      cases hx : cx.exec o fr h idK idP with
      | none => rw [hx] at e; cases e
      | some q =>
        obtain ⟨u, h1⟩ := q
        rw [hx] at e
        cases u with
        | pan v =>
          simp only [onCall] at e
          split at e
          rotate_left
          · cases e
          rename_i hp
          unfold panOk at hp
          rw [Bool.and_eq_true, Bool.and_eq_true] at hp
          refine .inr ⟨i, fun _ => (.un, .rd []), fr, h, v, h1, o, Nat.le_refl _, by simp, by simp [Cx.RunsD], ho, hok, hw, hx, e, fun j hj hij => ?_, fun j hj => ?_, allReads_spec hp.2, fun j h1 h2 => by omega, fun k h1 h2 => by omega, fun j k h1 h2 h3 => by omega⟩
          · have := List.all_eq_true.1 hp.1.1 j (List.mem_range.2 hj)
            simp only [Bool.or_eq_true, decide_eq_true_eq] at this
            rcases this with q | q
            · omega
            · exact q
          · have := List.all_eq_true.1 hp.1.2 j (List.mem_range.2 hj)
            simpa using this
        | ret v =>
          simp only [onCall] at e
          rw [onFoot_eq] at e
          split at e
          rotate_left
          · cases e
          rename_i hof
          refine cons (v := v) (f := cx.footP o fr h h1) (by unfold Cx.stepD; rw [if_pos hok, hw]; simp only [hx]) (fun x hx => List.mem_cons_of_mem _ hx) (.inr (by simp)) (fun x hx hc => ?_) e
          rcases Bool.or_eq_true_iff.1 hof with hof | hof
          · rcases okFoot_spec hof x hx with h | h
            · exact .inl h
            · rw [h] at hc; cases hc
          · exact .inr hof
    dsimp only at e
    split at e
    · rename_i hg
      exact go (by unfold wantedV; rw [hg]) e
    · rename_i j want hg
      split at e
      · rename_i hj
        exact no (by unfold wantedV; rw [hg]; simp only [hj]) e
      · rename_i d hj
        split at e
        · rename_i b hb
          split at e
          · rename_i hbw
            rw [upd_self (by rw [hb, hbw])] at e
            exact go (by unfold wantedV; rw [hg]; simp only [hj, hb, hbw]; simp) e
          · rename_i hbw
            rw [upd_self (by rw [hb]; cases b <;> cases want <;> simp_all)] at e
            exact no (by unfold wantedV; rw [hg]; simp only [hj, hb, hbw]; simp) e
        · rename_i hb
          exact no (by unfold wantedV; rw [hg]; simp only [hj, hb]) e
        · cases e

theorem late_spec {bef : List Nat} {i : Nat} (h : lateB all bef i = true) : ∃ o t d, all[i]? = some o ∧ (o.op = .alloc t ∨ o.op = .makeMap t none) ∧ o.guard = none ∧ o.dst = some d ∧ bef.getD i 0 = 0 ∧ ∀ j, j < all.size → i < j → (bef.getD j 0).testBit i = true → ∀ x, x < i → (bef.getD j 0).testBit x = true ∨ quietB all x = true := by
  unfold lateB at h
  split at h
  · rename_i o ho
    simp only [Bool.and_eq_true, decide_eq_true_eq] at h
    obtain ⟨⟨⟨⟨h1, h2⟩, h3⟩, h4⟩, h5⟩ := h
    split at h1
    · rename_i t ht
      obtain ⟨d, hd⟩ := Option.isSome_iff_exists.1 h3
      refine ⟨o, t, d, ho, .inl ht, by simpa using h2, hd, h4, fun j hj hij hb x hx => ?_⟩
      have := List.all_eq_true.1 h5 j (List.mem_range.2 hj)
      simp only [Bool.or_eq_true, decide_eq_true_eq, hb, Bool.not_true, Bool.false_eq_true, or_false] at this
      rcases this with h6 | h6
      · omega
      · have := List.all_eq_true.1 h6 x (List.mem_range.2 hx)
        simpa using this
    · rename_i t ht
      obtain ⟨d, hd⟩ := Option.isSome_iff_exists.1 h3
      refine ⟨o, t, d, ho, .inr ht, by simpa using h2, hd, h4, fun j hj hij hb x hx => ?_⟩
      have := List.all_eq_true.1 h5 j (List.mem_range.2 hj)
      simp only [Bool.or_eq_true, decide_eq_true_eq, hb, Bool.not_true, Bool.false_eq_true, or_false] at this
      rcases this with h6 | h6
      · omega
      · have := List.all_eq_true.1 h6 x (List.mem_range.2 hx)
        simpa using this
    · cases h1
  · cases h
theorem quiet_rd {x : Nat} {o : Oper} (ho : all[x]? = some o) (hq : quietB all x = true) {fr : Fr} {h h1 : H} {v : V} {f : Foot} (e : cx.stepD all o fr h = some (v, h1, f)) : f = .rd [] := by
  unfold quietB at hq
  rw [ho] at hq
  dsimp only at hq
  unfold Cx.stepD at e
  split at e
  · split at e
    · split at e
      · cases e
        split at hq
        · rename_i hop
          unfold Cx.footP Cx.keeps Cx.foot
          simp only [hop]
          rfl
        · cases hq
      · cases e
    · cases e; rfl
    · cases e
  · cases e
theorem runs_quiet {D : Nat → V × Foot} {l2 : List Nat} {fr' : Fr} {h' : H} : ∀ (l1 : List Nat) {fr : Fr} {h : H}, cx.RunsD all D (l1 ++ l2) fr h fr' h' → ∀ y ∈ l1, quietB all y = true → (D y).2 = .rd []
  | [], _, _, _, y, hy, _ => by cases hy
  | x :: l1, fr, h, r, y, hy, hq => by
    obtain ⟨o, h1, g1, g2, r⟩ := r
    rcases List.mem_cons.1 hy with rfl | hy
    · exact quiet_rd g1 hq g2
    · exact runs_quiet l1 r y hy hq
/-- an operation that makes a new object, whatever there is in memory -/
structure Making (cx : Cx) (o : Oper) (vf : Nat → V) (ob : Ob) (cf : Nat → Value) (sz : Nat) : Prop where
  exec : ∀ fr h, cx.exec o fr h idK idP = some (.ret (vf h.length), h ++ [ob])
  rel : ∀ (η : Et) (ro : Ro) (k b : Nat), η k = some (.at_ b 0 sz) → VRel η ro (vf k) (cf b)
theorem late_sim {o : Oper} {t : TypeId} {η : Et} {ro : Ro} {h : H} {w : World} (r : Rel η ro h w) (hop : o.op = .alloc t ∨ o.op = .makeMap t none) {fr0 : Fr} {h0 : H} {q : Out × H} (hx : cx.exec o fr0 h0 idK idP = some q) :
    ∃ vf ob cf w' sz, Making cx o vf ob cf sz ∧ (∀ {a : Act} {next : Act → World → Prop} {Q : Exit → Act → World → Prop}, next (a.put o.dst (cf w.heap.size)) w' → o.wp cx.P a w next Q) ∧ Rel η ro h w' ∧ Stp η ro h w η ro h w' ∧ w.heap.size < w'.heap.size ∧
      ∀ η' ro', ORel η' ro' w' ob (.at_ w.heap.size 0 sz) := by
  obtain ⟨dst, op, type, pos, after, guard⟩ := o
  dsimp only at hop
  rcases hop with rfl | rfl
  · simp only [Cx.exec] at hx
    rw [Option.bind_eq_some_iff] at hx
    obtain ⟨cs, hz, _⟩ := hx
    obtain ⟨w', sz, e1, e2, e3, e4, e5⟩ := sim_alloc2 r hz
    refine ⟨fun k => .ptr k 0, .cells cs, fun b => .pointer (some ⟨b, 0, none⟩), w', sz, ⟨fun fr h => by simp only [Cx.exec, hz, Option.bind_some, idK], fun η ro k b hk => ⟨b, 0, sz, hk, rfl⟩⟩, ?_, e2, e3, e4, e5⟩
    intro a next Q hn
    exact wp_val (by unfold execOp; rfl) e1 hn
  · simp only [Cx.exec, makeMap] at hx
    split at hx
    rotate_left
    · cases hx
    rename_i kt et hu
    rw [Option.bind_eq_some_iff] at hx
    obtain ⟨q, hq, _⟩ := hx
    refine ⟨fun k => .mp k, .map q [], fun b => .map (some b), w.alloc (.map #[] 0), 0, ⟨fun fr h => by simp only [Cx.exec, makeMap, hu, hq, Option.bind_some, idK], fun η ro k b hk => ⟨b, hk, rfl⟩⟩, ?_, r.alloc rfl _, ?_, ?_, fun η' ro' => ?_⟩
    · intro a next Q hn
      exact wp_val (s := Instr.makeMap t none) (by unfold execOp; rfl) (by simp [Instr.makeMap]) hn
    · exact ⟨by show w.heap.size ≤ (w.heap.push _).size; simp, fun b hb _ => heap_alloc_lt rfl hb, fun _ _ h => h, rfl, rfl, rfl, Nat.le_refl _, fun _ _ => rfl, Ro.le_refl _, fun _ _ _ _ => rfl, fun k cs hk => ⟨hk, fun b st sz hp => ⟨heap_alloc_lt rfl (r.block_lt ⟨k, st, sz, _, hp, hk, rfl⟩), fun _ => rfl⟩⟩⟩
    · show w.heap.size < (w.heap.push _).size; simp
    · exact ⟨_, #[], 0, rfl, heap_alloc_at rfl, trivial, by simp, rfl, by simp⟩
/-- new variables that are made, but that the machine doesn't know of yet -/
structure Pend (cx : Cx) (all : Array Oper) (w0 : World) (L : List Nat) (listed : Array Bool) (pend : Nat → Option Nat) (η : Et) (ro : Ro) (h : H) (fr : Fr) (a : Act) (w : World) : Prop where
  mem : ∀ i b, pend i = some b → i ∈ L ∧ listed.getD i false = true ∧ lateB all (befs all.toList []) i = true
  inj : ∀ i j b, pend i = some b → pend j = some b → i = j
  at_ : ∀ i b o d, pend i = some b → all[i]? = some o → o.dst = some d → fr d = .any ∧ w0.heap.size ≤ b ∧ b < w.heap.size ∧ ¬ Owned η h b ∧ (∀ x, ro b x = none) ∧
    ∃ vf ob cf sz, a.tmps.getD d undef = cf b ∧ Making cx o vf ob cf sz ∧ ∀ η' ro', ORel η' ro' w ob (.at_ b 0 sz)
theorem runs_any {D : Nat → V × Foot} {i d : Nat} {o : Oper} (ho : all[i]? = some o) (hd : o.dst = some d) (hl : o.looksAt all = []) {l2 : List Nat} {frE : Fr} {hE : H} : ∀ (l1 : List Nat) {fr : Fr} {h : H}, (∀ j ∈ l1, ∀ oj, all[j]? = some oj → oj.apart all o = true) →
    cx.RunsD all D (l1 ++ i :: l2) fr h frE hE → cx.RunsD all D (l1 ++ i :: l2) (upd fr d .any) h frE hE
  | [], fr, h, _, r => by
    obtain ⟨o', h1, g1, g2, r⟩ := r
    rw [ho] at g1; cases g1
    refine ⟨o, h1, ho, ?_, ?_⟩
    · rw [← g2]; exact step_congr fun x hx => by rw [hl] at hx; cases hx
    · rw [hd] at r ⊢
      have : put (upd fr d .any) (some d) (D i).1 = put fr (some d) (D i).1 := by
        funext x; simp only [put, upd]; split <;> rfl
      rw [this]; exact r
  | j :: l1, fr, h, ha, r => by
    obtain ⟨oj, h1, g1, g2, r⟩ := r
    obtain ⟨a1, a2, a3⟩ := Oper.apart_spec (ha j (by simp) oj g1)
    refine ⟨oj, h1, g1, ?_, ?_⟩
    · rw [← g2]
      refine step_congr fun x hx => ?_
      unfold upd
      rw [if_neg (fun e => a3 d hd (by rw [← e]; exact hx))]
    · have : put (upd fr d .any) oj.dst (D j).1 = upd (put fr oj.dst (D j).1) d .any := by
        have := put_comm (fr := fr) (d := some d) (e := oj.dst) (v := .any) (u := (D j).1) (fun t ht e => by cases ht; exact a2 d e hd)
        exact this
      rw [this]
      exact runs_any ho hd hl l1 (fun k hk => ha k (by simp [hk])) r
/-- the first of what is left is made already -/
theorem Pend.flush {D : Nat → V × Foot} {frE : Fr} {hE : H} {η0 : Et} {ro0 : Ro} {h0 : H} {w0 : World} {i b : Nat} {L : List Nat} {listed : Array Bool} {pend : Nat → Option Nat} {η : Et} {ro : Ro} {h : H} {fr : Fr} {a : Act} {w : World}
    (hp : pend i = some b) (hnd : i ∉ L) (p : Pend cx all w0 (i :: L) listed pend η ro h fr a w) (rn : cx.RunsD all D (i :: L) fr h frE hE) (f : FrRel cx.N ds η ro fr a) (r : Rel η ro h w) (s : Stp η0 ro0 h0 w0 η ro h w)
    (hap : ∀ j b', pend j = some b' → j ≠ i → ∀ oi oj, all[i]? = some oi → all[j]? = some oj → ∀ t, oi.dst = some t → oj.dst ≠ some t) :
    ∃ fr' h' η', cx.RunsD all D L fr' h' frE hE ∧ FrRel cx.N ds η' ro fr' a ∧ Rel η' ro h' w ∧ Stp η0 ro0 h0 w0 η' ro h' w ∧ Pend cx all w0 L listed (fun j => if j = i then none else pend j) η' ro h' fr' a w := by
  obtain ⟨_, hlist, hlate⟩ := p.mem i b hp
  obtain ⟨o, t, d, ho, hop, hg, hd, _, _⟩ := late_spec hlate
  obtain ⟨hany, hb0, hbw, hno, hro, vf, ob, cf, sz, htmp, hmk, hor⟩ := p.at_ i b o d hp ho hd
  obtain ⟨o', h1, g1, g2, rn⟩ := rn
  rw [ho] at g1; cases g1
  have hx : cx.exec o fr h idK idP = some (.ret (vf h.length), h ++ [ob]) := hmk.exec fr h
  have hst : (D i).1 = vf h.length ∧ h1 = h ++ [ob] := by
    unfold Cx.stepD at g2
    split at g2
    · have hw : wantedV all fr o = some true := by unfold wantedV; rw [hg]
      rw [hw] at g2
      simp only [hx, Option.some.injEq, Prod.mk.injEq] at g2
      exact ⟨g2.1.symm, g2.2.1.symm⟩
    · cases g2
  obtain ⟨e1, rfl⟩ := hst
  have r2 := r.add (o := ob) (p := .at_ b 0 sz) (hor _ _) (by rintro b' _ _ ⟨⟩; exact ⟨hno, hro⟩)
  have hle : η.le (η.set h.length (.at_ b 0 sz)) := r.le_set _
  have own2 : ∀ b', Owned (η.set h.length (.at_ b 0 sz)) (h ++ [ob]) b' → b' = b ∨ Owned η h b' := by
    rintro b' ⟨k, st, sz', o', a1, a2, a3⟩
    by_cases hk : k = h.length
    · subst hk; rw [Et.set_same] at a1; cases a1; exact .inl rfl
    · rw [Et.set_ne _ _ hk] at a1
      exact .inr ⟨k, st, sz', o', a1, by rw [get_snoc_lt (r.lt a1)] at a2; exact a2, a3⟩
  rw [e1, hd] at rn
  refine ⟨_, _, η.set h.length (.at_ b 0 sz), rn, ?_, r2, ⟨s.size, s.keep, fun b' hb' ho' => ?_, s.os, s.tape, s.output, by have := s.len; simp; omega, fun k hk => ?_, s.rol, s.rok, fun k cs' hk => ?_⟩, ⟨fun j b' hj => ?_, fun j k b' h1 h2 => ?_, fun j b' o2 d2 hj ho2 hd2 => ?_⟩⟩
  · refine ⟨f.size, fun x => ?_, f.defers, f.glob⟩
    simp only [put, upd]
    split
    · rename_i hx'; subst hx'
      rw [htmp]; exact hmk.rel _ _ _ _ (Et.set_same _ _ _)
    · exact VRel.mono hle (Ro.le_refl _) _ _ (f.at_ x)
  · rcases own2 b' ho' with rfl | ho'
    · omega
    · exact s.owns b' hb' ho'
  · rw [Et.set_ne _ _ (by have := s.len; omega)]; exact s.ext k hk
  · obtain ⟨q1, q2⟩ := s.lent k cs' hk
    exact ⟨by rw [get_snoc_lt (List.getElem?_eq_some_iff.1 q1).1]; exact q1, q2⟩
  · split at hj
    · cases hj
    · rename_i hne
      obtain ⟨q1, q2, q3⟩ := p.mem j b' hj
      exact ⟨(List.mem_cons.1 q1).resolve_left hne, q2, q3⟩
  · split at h1
    · cases h1
    · split at h2
      · cases h2
      · exact p.inj j k b' h1 h2
  · split at hj
    · cases hj
    · rename_i hne
      obtain ⟨q1, q3, q4, q5, q6, q7⟩ := p.at_ j b' o2 d2 hj ho2 hd2
      have hdd : d2 ≠ d := fun e => hap j b' hj hne o o2 ho ho2 d hd (by rw [hd2, e])
      refine ⟨by simp only [put, upd]; rw [if_neg hdd]; exact q1, q3, q4, fun ho' => ?_, q6, q7⟩
      rcases own2 b' ho' with rfl | ho'
      · exact hne (p.inj j i _ hj hp)
      · exact q5 ho'
/-- THE REGION: in each order. -/
theorem drawn {Q : Exit → Act → World → Prop} {Inv : Et → Ro → H → World → Prop} (hc : CallSim cx.P cx.call) (hpo : CallPol cx.po cx.call) (hI : Keeps Inv) (hst : statOk all (befs all.toList []) = true) {D : Nat → V × Foot} {frE : Fr} {hE : H}
    (hpair : ∀ j k, j < k → k < all.size → (D j).2.clash (D k).2 = true → ((befs all.toList []).getD k 0).testBit j = true ∨ lateB all (befs all.toList []) k = true)
    (hfin : ∀ {η ro a w}, FrRel cx.N ds η ro frE a → Rel η ro hE w → Inv η ro hE w → Q .normal a w) {η0 : Et} {ro0 : Ro} {h0 : H} {w0 : World} (r0 : Rel η0 ro0 h0 w0) (inv0 : Inv η0 ro0 h0 w0) :
    ∀ (fuel : Nat) (L : List Nat) (listed : Array Bool) (pend : Nat → Option Nat) {fr h η ro a w}, (L.filter fun i => (pend i).isNone).length ≤ fuel → L.Pairwise (· < ·) → listed.size = all.size → (∀ i, i ∈ L ↔ i < all.size ∧ (listed.getD i true = false ∨ (pend i).isSome = true)) →
      (∀ k j, k < all.size → listed.getD k false = true → ((befs all.toList []).getD k 0).testBit j = true → listed.getD j false = true) →
      cx.RunsD all D L fr h frE hE → FrRel cx.N ds η ro fr a → Rel η ro h w → Stp η0 ro0 h0 w0 η ro h w → Pend cx all w0 L listed pend η ro h fr a w → wpAny cx.P .any all Q fuel listed a w := by
  have stat : ∀ i oi, all[i]? = some oi → (∀ e ∈ oi.after.toList, Region.binds .any e = true → e.on < i) ∧ ∀ j oj, j < i → all[j]? = some oj → ((befs all.toList []).getD i 0).testBit j = true ∨ oj.apart all oi = true := by
    intro i oi hi
    have hlt : i < all.size := (Array.getElem?_eq_some_iff.1 hi).1
    have h1 := List.all_eq_true.1 hst i (List.mem_range.2 hlt)
    simp only [hi, Bool.and_eq_true] at h1
    refine ⟨fun e he hb => ?_, fun j oj hj hoj => ?_⟩
    · have := List.all_eq_true.1 h1.1 e he
      simpa [hb] using this
    · have := List.all_eq_true.1 h1.2 j (List.mem_range.2 hj)
      simpa [hoj] using this
  have bspec : ∀ k j, ((befs all.toList []).getD k 0).testBit j = true → ∃ o, all[k]? = some o ∧ ∃ e ∈ o.after.toList, Region.binds .any e = true ∧ (j = e.on ∨ ((befs all.toList []).getD e.on 0).testBit j = true) := by
    intro k j hb
    obtain ⟨o, h1, h2⟩ := befs_spec all.toList [] k j (by simpa using hb)
    exact ⟨o, by simpa using h1, h2⟩
  have bitLt : ∀ k, k < all.size → ∀ j, ((befs all.toList []).getD k 0).testBit j = true → j < k := by
    intro k
    induction k using Nat.strongRecOn with
    | _ k ihk =>
      intro hk j hb
      obtain ⟨o, h1, e, h2, h3, h4⟩ := bspec k j hb
      have h5 := (stat k o h1).1 e h2 h3
      rcases h4 with rfl | h4
      · exact h5
      · have := ihk e.on h5 (by omega) j h4; omega
  have dflt : ∀ {listed : Array Bool}, listed.size = all.size → ∀ j, j < all.size → (listed.getD j true = false ∨ listed.getD j false = true) := by
    intro listed hsz j hj
    rw [Array.getD_eq_getD_getElem?, Array.getD_eq_getD_getElem?, Array.getElem?_eq_getElem (by omega)]
    cases listed[j] <;> simp
  have both : ∀ {listed : Array Bool} j, listed.getD j false = true → listed.getD j true = false → False := by
    intro listed j h1 h2
    rw [Array.getD_eq_getD_getElem?] at h1 h2
    cases hq : listed[j]? with
    | none => rw [hq] at h1; cases h1
    | some b => rw [hq] at h1 h2; simp at h1 h2; rw [h1] at h2; cases h2
  -- variables of different operations, of which one is late
  have dsts : ∀ i j, lateB all (befs all.toList []) i = true → lateB all (befs all.toList []) j = true ∨ ((befs all.toList []).getD j 0).testBit i = false → j ≠ i → ∀ oi oj, all[i]? = some oi → all[j]? = some oj → oi.apart all oj = true ∨ oj.apart all oi = true := by
    intro i j hi hj hne oi oj hoi hoj
    obtain ⟨_, _, _, _, _, _, _, hb0, _⟩ := late_spec hi
    have hnb : ((befs all.toList []).getD j 0).testBit i = false := by
      rcases hj with hj | hj
      · obtain ⟨_, _, _, _, _, _, _, hb0', _⟩ := late_spec hj
        rw [hb0']; simp
      · exact hj
    rcases Nat.lt_or_gt_of_ne hne with hlt | hlt
    · rcases (stat i oi hoi).2 j oj hlt hoj with h1 | h1
      · rw [hb0] at h1; simp at h1
      · exact .inr h1
    · rcases (stat j oj hoj).2 i oi hlt hoi with h1 | h1
      · rw [hnb] at h1; cases h1
      · exact .inl h1
  have neDst : ∀ {oi oj : Oper}, oi.apart all oj = true ∨ oj.apart all oi = true → ∀ t, oi.dst = some t → oj.dst ≠ some t := by
    intro oi oj h t h1 h2
    rcases h with h | h
    · exact (Oper.apart_spec h).2.1 t h1 h2
    · exact (Oper.apart_spec h).2.1 t h2 h1
  -- what is made already, and first but for quiet ones, is taken in
  have lead : ∀ (n : Nat) (L : List Nat) (listed : Array Bool) (pend : Nat → Option Nat) {fr h η ro a w}, L.length ≤ n → L.Pairwise (· < ·) → (∀ i, i ∈ L ↔ i < all.size ∧ (listed.getD i true = false ∨ (pend i).isSome = true)) →
      cx.RunsD all D L fr h frE hE → FrRel cx.N ds η ro fr a → Rel η ro h w → Stp η0 ro0 h0 w0 η ro h w → Pend cx all w0 L listed pend η ro h fr a w →
      ∃ L' pend' fr' h' η', L'.Pairwise (· < ·) ∧ (∀ i, i ∈ L' ↔ i < all.size ∧ (listed.getD i true = false ∨ (pend' i).isSome = true)) ∧ cx.RunsD all D L' fr' h' frE hE ∧ FrRel cx.N ds η' ro fr' a ∧ Rel η' ro h' w ∧ Stp η0 ro0 h0 w0 η' ro h' w ∧ Pend cx all w0 L' listed pend' η' ro h' fr' a w ∧
        (L'.filter fun i => (pend' i).isNone).length ≤ (L.filter fun i => (pend i).isNone).length ∧ (∀ i ∈ L', (pend' i).isSome = true → ∃ y ∈ L', y < i ∧ pend' y = none ∧ quietB all y = false) := by
    intro n
    induction n with
    | zero =>
      intro L listed pend fr h η ro a w h0 h1 h2 h3 h4 h5 h6 h7
      have : L = [] := List.length_eq_zero_iff.1 (by omega)
      subst this
      exact ⟨[], pend, fr, h, η, h1, h2, h3, h4, h5, h6, h7, Nat.le_refl _, fun i hi => by cases hi⟩
    | succ n ih =>
      intro L listed pend fr h η ro a w h0 h1 h2 h3 h4 h5 h6 h7
      by_cases hq : ∃ l1 i l2, L = l1 ++ i :: l2 ∧ (pend i).isSome = true ∧ ∀ y ∈ l1, quietB all y = true
      · obtain ⟨l1, i, l2, rfl, hi, hy⟩ := hq
        obtain ⟨b, hp⟩ := Option.isSome_iff_exists.1 hi
        have hpw := List.pairwise_append.1 h1
        have hn1 : i ∉ l1 := fun hm => by have := hpw.2.2 i hm i (by simp); omega
        have hn2 : i ∉ l2 := fun hm => by have := (List.pairwise_cons.1 hpw.2.1).1 i hm; omega
        have hnd : i ∉ l1 ++ l2 := fun hm => by rcases List.mem_append.1 hm with hm | hm; exact hn1 hm; exact hn2 hm
        obtain ⟨_, hli, hlate⟩ := h7.mem i b hp
        obtain ⟨oi, _, _, hoi, _, _, _, hb0, _⟩ := late_spec hlate
        have h3' : cx.RunsD all D (i :: (l1 ++ l2)) fr h frE hE := by
          refine runs_pull hpo l1 (fun y hy' => ⟨fun oy oi' hoy hoi' => ?_, ?_⟩) h3
          · rcases (stat i oi' hoi').2 y oy (hpw.2.2 y hy' i (by simp)) hoy with q | q
            · rw [hb0] at q; simp at q
            · exact q
          · rw [runs_quiet l1 h3 y hy' (hy y hy')]
            cases (D i).2 <;> simp [Foot.clash]
        have h7' : Pend cx all w0 (i :: (l1 ++ l2)) listed pend η ro h fr a w := ⟨fun j b' hj => by
          obtain ⟨q1, q2, q3⟩ := h7.mem j b' hj
          refine ⟨?_, q2, q3⟩
          simp only [List.mem_append, List.mem_cons] at q1 ⊢
          rcases q1 with q | q | q
          · exact .inr (.inl q)
          · exact .inl q
          · exact .inr (.inr q), h7.inj, h7.at_⟩
        obtain ⟨fr', h', η', g1, g2, g3, g4, g5⟩ := Pend.flush hp hnd h7' h3' h4 h5 h6 (fun j b' hj hne oi oj hoi hoj => neDst (dsts i j hlate (.inl (h7.mem j b' hj).2.2) hne oi oj hoi hoj))
        have hsort' : (l1 ++ l2).Pairwise (· < ·) := h1.sublist (List.Sublist.append (List.Sublist.refl _) (List.sublist_cons_self _ _))
        have hmem : ∀ x, x ∈ l1 ++ l2 ↔ x < all.size ∧ (listed.getD x true = false ∨ ((fun j => if j = i then none else pend j) x).isSome = true) := by
          intro x
          by_cases hx : x = i
          · subst hx
            constructor
            · intro hm; exact absurd hm hnd
            · rintro ⟨_, h | h⟩
              · exact (both x hli h).elim
              · simp at h
          · have := h2 x
            rw [List.mem_append, List.mem_cons] at this
            rw [List.mem_append]
            simp only [hx, false_or, if_false] at this ⊢
            exact this
        obtain ⟨L', pend', fr2, h2', η2, k1, k2, k3, k4, k5, k6, k7, k8, k9⟩ := ih (l1 ++ l2) listed _ (by simp at h0 ⊢; omega) hsort' hmem g1 g2 g3 g4 g5
        refine ⟨L', pend', fr2, h2', η2, k1, k2, k3, k4, k5, k6, k7, Nat.le_trans k8 ?_, k9⟩
        rw [List.filter_append, List.filter_append, List.filter_cons, hp]
        simp only [Option.isNone_some, Bool.false_eq_true, if_false, List.length_append]
        rw [List.filter_congr (l := l1) (p := fun j => (if j = i then none else pend j).isNone) (q := fun j => (pend j).isNone) (fun x hx => by rw [if_neg (fun e => hn1 (by rw [← e]; exact hx))]),
          List.filter_congr (l := l2) (p := fun j => (if j = i then none else pend j).isNone) (q := fun j => (pend j).isNone) (fun x hx => by rw [if_neg (fun e => hn2 (by rw [← e]; exact hx))])]
        exact Nat.le_refl _
      · refine ⟨L, pend, fr, h, η, h1, h2, h3, h4, h5, h6, h7, Nat.le_refl _, fun i => ?_⟩
        induction i using Nat.strongRecOn with
        | _ i ihi =>
          intro hi hp
          by_cases hz : ∃ y ∈ L, y < i ∧ (pend y).isSome = true
          · obtain ⟨y, hy, hlt, hyp⟩ := hz
            obtain ⟨z, hz1, hz2, hz3, hz4⟩ := ihi y hlt hy hyp
            exact ⟨z, hz1, by omega, hz3, hz4⟩
          · obtain ⟨l1, l2, rfl⟩ := List.append_of_mem hi
            have hpw := List.pairwise_append.1 h1
            refine Classical.byContradiction fun hno => hq ⟨l1, i, l2, rfl, hp, fun y hy => ?_⟩
            have hlt : y < i := hpw.2.2 y hy i (by simp)
            cases hqy : quietB all y with
            | true => rfl
            | false =>
              exfalso
              refine hno ⟨y, by simp [hy], hlt, ?_, hqy⟩
              cases hpy : pend y with
              | none => rfl
              | some b' => exact (hz ⟨y, by simp [hy], hlt, by rw [hpy]; rfl⟩).elim
  intro fuel
  induction fuel with
  | zero =>
    intro L listed pend fr h η ro a w hlen hsort hsz hL hcl r f rr s p
    obtain ⟨L', pend', fr', h', η', k1, k2, k3, k4, k5, k6, k7, k8, k9⟩ := lead L.length L listed pend (Nat.le_refl _) hsort hL r f rr s p
    have hnil : L'.filter (fun i => (pend' i).isNone) = [] := List.length_eq_zero_iff.1 (by omega)
    have hall : ∀ x ∈ L', pend' x ≠ none := fun x hx e => by
      have : x ∈ L'.filter fun i => (pend' i).isNone := List.mem_filter.2 ⟨hx, by rw [e]; rfl⟩
      rw [hnil] at this; cases this
    have : L' = [] := by
      cases L' with
      | nil => rfl
      | cons x l =>
        have hx := hall x (by simp)
        obtain ⟨y, hy, _, hy2, _⟩ := k9 x (by simp) (by cases hq : pend' x with
          | none => exact absurd hq hx
          | some b => rfl)
        exact absurd hy2 (hall y hy)
    subst this
    obtain ⟨rfl, rfl⟩ := k3
    refine ⟨?_, hfin k4 k5 (hI.step inv0 r0 k6)⟩
    cases hr : Region.ready .any all listed with
    | nil => rfl
    | cons x xs =>
      have hx : x ∈ Region.ready .any all listed := by rw [hr]; simp
      obtain ⟨h1, o, h2, _⟩ := mem_ready.1 hx
      exact absurd ((k2 x).2 ⟨(Array.getElem?_eq_some_iff.1 h2).1, .inl h1⟩) (by simp)
  | succ fuel ih =>
    intro L0 listed pend0 fr0 h0' η00 ro a w hlen0 hsort0 hsz hL0 hcl r00 f00 rr00 s00 p00
    obtain ⟨L, pend, fr, h, η, hsort, hL, r, f, rr, s, p, hle0, hpost⟩ := lead L0.length L0 listed pend0 (Nat.le_refl _) hsort0 hL0 r00 f00 rr00 s00 p00
    have hlen : (L.filter fun i => (pend i).isNone).length ≤ fuel + 1 := Nat.le_trans hle0 hlen0
    refine ⟨fun hr => ?_, fun i hi => ?_⟩
    · -- nothing is ready: nothing is left
      cases L with
      | nil => obtain ⟨rfl, rfl⟩ := r; exact hfin f rr (hI.step inv0 r0 s)
      | cons x L =>
        exfalso
        have hxp : pend x = none := by
          cases hq : pend x with
          | none => rfl
          | some b =>
            obtain ⟨y, hy, hlt, _⟩ := hpost x (by simp) (by rw [hq]; rfl)
            rcases List.mem_cons.1 hy with e | hy
            · omega
            · have := (List.pairwise_cons.1 hsort).1 y hy; omega
        obtain ⟨hx1, hx2⟩ := (hL x).1 (by simp)
        have hx2 : listed.getD x true = false := by
          rcases hx2 with hx2 | hx2
          · exact hx2
          · rw [hxp] at hx2; cases hx2
        obtain ⟨o, _, ho, _⟩ := r
        have : x ∈ Region.ready .any all listed := by
          rw [mem_ready]
          refine ⟨hx2, o, ho, fun e he hb => ?_⟩
          have hlt := (stat x o ho).1 e (by simpa using he) hb
          rcases dflt hsz e.on (by omega) with h1 | h1
          · have := (hL e.on).2 ⟨by omega, .inl h1⟩
            rcases List.mem_cons.1 this with h2 | h2
            · omega
            · have := (List.pairwise_cons.1 hsort).1 e.on h2; omega
          · exact h1
        rw [hr] at this; cases this
    · obtain ⟨hu, oi, hoi, hready⟩ := mem_ready.1 hi
      have hlt : i < all.size := (Array.getElem?_eq_some_iff.1 hoi).1
      have hip : pend i = none := by
        cases hq : pend i with
        | none => rfl
        | some b => exact (both i (p.mem i b hq).2.1 hu).elim
      obtain ⟨l1, l2, rfl⟩ := List.append_of_mem ((hL i).2 ⟨hlt, .inl hu⟩)
      have hpw := List.pairwise_append.1 hsort
      have hahead : ∀ j, ((befs all.toList []).getD i 0).testBit j = true → listed.getD j false = true := by
        intro j hb
        obtain ⟨o, h1, e, h2, h3, h4⟩ := bspec i j hb
        rw [hoi] at h1; cases h1
        have h5 := hready e (by simpa using h2) h3
        rcases h4 with rfl | h4
        · exact h5
        · have : e.on < all.size := by have := (stat i oi hoi).1 e h2 h3; omega
          exact hcl e.on j this h5 h4
      have hnobit : ∀ j ∈ l1, ((befs all.toList []).getD i 0).testBit j = false := by
        intro j hj
        have hji : j < i := hpw.2.2 j hj i (by simp)
        cases hb : ((befs all.toList []).getD i 0).testBit j with
        | false => rfl
        | true =>
          exfalso
          obtain ⟨hj1, hj2⟩ := (hL j).1 (by simp [hj])
          rcases hj2 with hj2 | hj2
          · exact both j (hahead j hb) hj2
          · obtain ⟨b, hjb⟩ := Option.isSome_iff_exists.1 hj2
            obtain ⟨_, _, _, _, _, _, _, _, hall⟩ := late_spec (p.mem j b hjb).2.2
            obtain ⟨y, hy, hyj, hyp, hyq⟩ := hpost j (by simp [hj]) (by rw [hjb]; rfl)
            obtain ⟨_, hy2⟩ := (hL y).1 hy
            have hy2 : listed.getD y true = false := by
              rcases hy2 with hy2 | hy2
              · exact hy2
              · rw [hyp] at hy2; cases hy2
            rcases hall i hlt hji hb y hyj with h1 | h1
            · exact both y (hahead y h1) hy2
            · rw [hyq] at h1; cases h1
      have hapart : ∀ j ∈ l1, ∀ oj, all[j]? = some oj → oj.apart all oi = true := by
        intro j hj oj hoj
        rcases (stat i oi hoi).2 j oj (hpw.2.2 j hj i (by simp)) hoj with h1 | h1
        · rw [hnobit j hj] at h1; cases h1
        · exact h1
      -- of what is pending, the destinations are others
      have hpd : ∀ j b, pend j = some b → ∀ oj, all[j]? = some oj → ∀ t, oj.dst = some t → oi.dst ≠ some t := by
        intro j b hj oj hoj t ht
        have hlj := (p.mem j b hj).2.2
        have hji : i ≠ j := fun e => by rw [← e, hip] at hj; cases hj
        have hnb : ((befs all.toList []).getD i 0).testBit j = false := by
          rcases List.mem_append.1 (p.mem j b hj).1 with hm | hm
          · exact hnobit j hm
          · rcases List.mem_cons.1 hm with e | hm
            · exact absurd e.symm hji
            · cases hb : ((befs all.toList []).getD i 0).testBit j with
              | false => rfl
              | true =>
                have hlt2 := (List.pairwise_cons.1 hpw.2.1).1 j hm
                have := bitLt i hlt j hb
                omega
        exact neDst (dsts j i hlj (.inr hnb) hji oj oi hoj hoi) t ht
      by_cases hlate : lateB all (befs all.toList []) i = true
      · -- a new variable: the machine makes it later
        obtain ⟨o, t, d, ho, hop, hg, hd, _, _⟩ := late_spec hlate
        rw [hoi] at ho; cases ho
        have hla : oi.looksAt all = [] := by
          obtain ⟨dst, op, type, pos, after, guard⟩ := oi
          dsimp only at hop hg
          subst hg
          rcases hop with rfl | rfl <;> rfl
        have r2 := runs_any hoi hd hla l1 hapart r
        obtain ⟨fr0, h00, q0, hx0, hdst⟩ : ∃ fr0 h0 q, cx.exec oi fr0 h0 idK idP = some q ∧ okDst cx.N oi.dst = true := by
          have : ∀ (l : List Nat) {fr : Fr} {h : H}, i ∈ l → cx.RunsD all D l fr h frE hE → ∃ fr0 h0 q, cx.exec oi fr0 h0 idK idP = some q ∧ okDst cx.N oi.dst = true := by
            intro l
            induction l with
            | nil => intro fr h hm; cases hm
            | cons x l ihl =>
              intro fr h hm rn
              obtain ⟨ox, h1, g1, g2, rn⟩ := rn
              rcases List.mem_cons.1 hm with rfl | hm
              · rw [hoi] at g1; cases g1
                unfold Cx.stepD at g2
                split at g2
                · rename_i hdst
                  have hw : wantedV all fr oi = some true := by unfold wantedV; rw [hg]
                  rw [hw] at g2
                  cases hz : cx.exec oi fr h idK idP with
                  | none =>
                    simp only [hz] at g2
                    cases g2
                  | some q => exact ⟨fr, h, q, hz, hdst⟩
                · cases g2
              · exact ihl hm rn
          exact this (l1 ++ i :: l2) (by simp) r
        obtain ⟨vf, ob, cf, w', sz, hmk, e1, e2, e3, e4, e5⟩ := late_sim rr hop hx0
        unfold wpOp
        rw [hoi]
        dsimp only
        rw [if_pos (by unfold Region.wanted; rw [hg])]
        refine .inl ?_
        have hlive : ∀ b, b < w.heap.size → ¬ Owned η h b → w'.heap[b]? = w.heap[b]? := fun b hb hn => e3.keep b hb hn
        have fin : wpAny cx.P .any all Q fuel (listed.setIfInBounds i true) (a.put oi.dst (cf w.heap.size)) w' := by
          have hsub : ((l1 ++ i :: l2).filter fun j => (if j = i then some w.heap.size else pend j).isNone).length < ((l1 ++ i :: l2).filter fun j => (pend j).isNone).length := by
            have hn1 : i ∉ l1 := fun hm => by have := hpw.2.2 i hm i (by simp); omega
            have hn2 : i ∉ l2 := fun hm => by have := (List.pairwise_cons.1 hpw.2.1).1 i hm; omega
            rw [List.filter_append, List.filter_append, List.filter_cons, List.filter_cons]
            simp only [if_true, Option.isNone_some, Bool.false_eq_true, if_false, hip, Option.isNone_none]
            rw [List.filter_congr (l := l1) (p := fun j => (if j = i then some w.heap.size else pend j).isNone) (q := fun j => (pend j).isNone) (fun x hx => by rw [if_neg (fun e => hn1 (by rw [← e]; exact hx))]),
              List.filter_congr (l := l2) (p := fun j => (if j = i then some w.heap.size else pend j).isNone) (q := fun j => (pend j).isNone) (fun x hx => by rw [if_neg (fun e => hn2 (by rw [← e]; exact hx))])]
            simp
          refine ih (l1 ++ i :: l2) _ (fun j => if j = i then some w.heap.size else pend j) (by omega) hsort (by simpa using hsz) (fun k => ?_) (fun k j hk hl hb => ?_) r2 ?_ e2 (s.trans e3) ⟨fun j b hj => ?_, fun j k b h1 h2 => ?_, fun j b o2 d2 hj ho2 hd2 => ?_⟩
          · by_cases hki : k = i
            · subst hki
              constructor
              · intro _; exact ⟨hlt, .inr (by simp)⟩
              · intro _; simp
            · rw [getD_set_ne true (fun e => hki e.symm), hL k]
              simp only [hki, if_false]
          · by_cases hki : k = i
            · subst hki; exact getD_set_true (hahead j hb)
            · rw [getD_set_ne false (fun e => hki e.symm)] at hl
              exact getD_set_true (hcl k j hk hl hb)
          · rw [hd]
            refine ⟨by simp [Act.put, f.size], fun x => ?_, f.defers, f.glob⟩
            by_cases hxd : x = d
            · subst hxd; unfold upd; rw [if_pos rfl]; trivial
            · have h1 := f.at_ x
              unfold upd; rw [if_neg hxd]
              simp only [Act.put, Array.getD_eq_getD_getElem?] at h1 ⊢
              rw [Array.getElem?_setIfInBounds_ne (fun e => hxd e.symm)]
              exact h1
          · split at hj
            · rename_i hji; subst hji
              refine ⟨by simp, ?_, hlate⟩
              rw [Array.getD_eq_getD_getElem?, Array.getElem?_setIfInBounds_self_of_lt (by omega)]; rfl
            · rename_i hji
              obtain ⟨q1, q2, q3⟩ := p.mem j b hj
              exact ⟨q1, getD_set_true q2, q3⟩
          · split at h1
            · rename_i hji; subst hji
              cases h1
              split at h2
              · rename_i hki; exact hki.symm
              · obtain ⟨ok, tk, dk, hok, hopk, _, hdk, _, _⟩ := late_spec (p.mem k _ h2).2.2
                have := (p.at_ k _ ok dk h2 hok hdk).2.2.1
                omega
            · split at h2
              · rename_i hji hki; subst hki
                cases h2
                obtain ⟨ok, tk, dk, hok, hopk, _, hdk, _, _⟩ := late_spec (p.mem j _ h1).2.2
                have := (p.at_ j _ ok dk h1 hok hdk).2.2.1
                omega
              · exact p.inj j k b h1 h2
          · split at hj
            · rename_i hji; subst hji
              cases hj
              rw [hoi] at ho2; cases ho2
              rw [hd] at hd2; cases hd2
              refine ⟨by unfold upd; rw [if_pos rfl], s.size, e4, fun ho => ?_, fun x => ?_, vf, ob, cf, sz, ?_, hmk, e5⟩
              rotate_left 2
              · rw [hd]
                simp only [Act.put, Array.getD_eq_getD_getElem?]
                rw [hd] at hdst
                simp only [okDst, decide_eq_true_eq] at hdst
                rw [Array.getElem?_setIfInBounds_self_of_lt (by rw [f.size]; exact hdst)]; rfl
              · exact absurd (rr.block_lt ho) (Nat.lt_irrefl _)
              · cases hv : ro w.heap.size x with
                | none => rfl
                | some v => exact absurd (rr.ro_lt hv) (Nat.lt_irrefl _)
            · rename_i hji
              obtain ⟨q1, q3, q4, q5, q6, vf2, ob2, cf2, sz2, q2, q7, q8⟩ := p.at_ j b o2 d2 hj ho2 hd2
              have hdd : d2 ≠ d := fun e => hpd j b hj o2 ho2 d2 hd2 (by rw [hd, e])
              refine ⟨by unfold upd; rw [if_neg hdd]; exact q1, q3, by omega, q5, q6, vf2, ob2, cf2, sz2, ?_, q7, fun η' ro' => (q8 η' ro').keep fun b' st' sz' e _ => by cases e; exact hlive b q4 q5⟩
              rw [hd]
              simp only [Act.put, Array.getD_eq_getD_getElem?] at q2 ⊢
              rw [Array.getElem?_setIfInBounds_ne (fun e => hdd e.symm)]
              exact q2
        exact e1 fin
      have hcomm : ∀ j ∈ l1, Comm all D j i := by
        intro j hj
        refine ⟨fun oj oi' g1 g2 => by rw [hoi] at g2; cases g2; exact hapart j hj oj g1, ?_⟩
        cases hq : (D j).2.clash (D i).2 with
        | false => rfl
        | true =>
          rcases hpair j i (hpw.2.2 j hj i (by simp)) hlt hq with h1 | h1
          · rw [hnobit j hj] at h1; cases h1
          · exact absurd h1 hlate
      have r2 := runs_pull hpo l1 hcomm r
      obtain ⟨o, h1, ho, hs, r3⟩ := r2
      rw [hoi] at ho; cases ho
      have hsub : (l1 ++ l2).Sublist (l1 ++ i :: l2) := List.Sublist.append (List.Sublist.refl _) (List.sublist_cons_self _ _)
      have hnd : i ∉ l1 ++ l2 := by
        intro hm
        rcases List.mem_append.1 hm with hm | hm
        · have := hpw.2.2 i hm i (by simp); omega
        · have := (List.pairwise_cons.1 hpw.2.1).1 i hm; omega
      have next : ∀ {η' ro' cv w'}, FrRel cx.N ds η' ro' (put fr oi.dst (D i).1) (a.put oi.dst cv) → Rel η' ro' h1 w' → Stp η ro h w η' ro' h1 w' → wpAny cx.P .any all Q fuel (listed.setIfInBounds i true) (a.put oi.dst cv) w' := by
        intro η' ro' cv w' f' r' s'
        refine ih (l1 ++ l2) _ pend (by
          have : ((l1 ++ i :: l2).filter fun j => (pend j).isNone).length = ((l1 ++ l2).filter fun j => (pend j).isNone).length + 1 := by
            rw [List.filter_append, List.filter_append, List.filter_cons, hip]
            simp; omega
          omega) (hsort.sublist hsub) (by simpa using hsz) (fun k => ?_) (fun k j hk hl hb => ?_) r3 f' r' (s.trans s') ⟨fun j b hj => ?_, p.inj, fun j b o2 d2 hj ho2 hd2 => ?_⟩
        · by_cases hki : k = i
          · subst hki
            constructor
            · intro hm; exact absurd hm hnd
            · rintro ⟨_, h2 | h2⟩
              · rw [Array.getD_eq_getD_getElem?, Array.getElem?_setIfInBounds_self_of_lt (by omega)] at h2
                simp at h2
              · rw [hip] at h2; cases h2
          · rw [getD_set_ne true (fun e => hki e.symm), ← hL k]
            simp [hki]
        · by_cases hki : k = i
          · subst hki; exact getD_set_true (hahead j hb)
          · rw [getD_set_ne false (fun e => hki e.symm)] at hl
            exact getD_set_true (hcl k j hk hl hb)
        · obtain ⟨q1, q2, q3⟩ := p.mem j b hj
          have hji : j ≠ i := fun e => by rw [e, hip] at hj; cases hj
          refine ⟨?_, getD_set_true q2, q3⟩
          rcases List.mem_append.1 q1 with q | q
          · exact List.mem_append_left _ q
          · exact List.mem_append_right _ ((List.mem_cons.1 q).resolve_left hji)
        · obtain ⟨q1, q3, q4, q5, q6, vf2, ob2, cf2, sz2, q2, q7, q8⟩ := p.at_ j b o2 d2 hj ho2 hd2
          have hdd := hpd j b hj o2 ho2 d2 hd2
          refine ⟨by rw [put_ne hdd]; exact q1, q3, Nat.lt_of_lt_of_le q4 s'.size, fun ho => q5 (s'.owns b q4 ho), fun x => by rw [s'.rok b q4 q5 x]; exact q6 x, vf2, ob2, cf2, sz2, ?_, q7, fun η' ro' => (q8 η' ro').keep fun b' st' sz' e _ => by cases e; exact s'.keep b q4 q5⟩
          cases hdo : oi.dst with
          | none => exact q2
          | some dd =>
            rw [hdo] at hdd
            simp only [Act.put, Array.getD_eq_getD_getElem?] at q2 ⊢
            rw [Array.getElem?_setIfInBounds_ne (fun e => hdd (by rw [e]))]
            exact q2
      unfold wpOp
      rw [hoi]
      dsimp only
      unfold Cx.stepD at hs
      split at hs
      rotate_left
      · cases hs
      rename_i hdst
      cases hw : wantedV all fr oi with
      | none => rw [hw] at hs; cases hs
      | some b =>
        rw [hw] at hs
        have hwant : Region.wanted oi (yielded all a.tmps) = b := by
          unfold wantedV at hw
          unfold Region.wanted
          cases hg : oi.guard with
          | none => rw [hg] at hw; cases hw; rfl
          | some q =>
            obtain ⟨j, want⟩ := q
            rw [hg] at hw
            dsimp only at hw ⊢
            cases hj : dstOf all j with
            | none =>
              rw [hj] at hw
              have hy : yielded all a.tmps j = none := by unfold yielded; unfold dstOf at hj; rw [hj]; rfl
              rw [hy]; cases hw; rfl
            | some d =>
              rw [hj] at hw
              dsimp only at hw
              split at hw
              · rename_i b' hb
                rw [yielded_at f hj hb]
                cases hw
                cases b' <;> cases want <;> rfl
              · rename_i hb
                rw [yielded_un f hj hb]; cases hw; rfl
              · cases hw
        cases b with
        | true =>
          rw [if_pos hwant]
          dsimp only at hs
          split at hs
          · rename_i v' h1' hx
            simp only [Option.some.injEq, Prod.mk.injEq] at hs
            obtain ⟨e1, e2, _⟩ := hs
            subst e2
            refine .inl (exec_ok hc hpo rr f hx ?_ ?_)
            · intro η' ro' w' v cv hv r' s' hvr
              cases hv
              rw [e1] at hvr
              exact next (f.put hdst (s'.le rr) s'.rol hvr) r' s'
            · intro η' ro' w' v cv hv; cases hv
          · cases hs
        | false =>
          rw [hwant, if_neg (by simp)]
          simp only [Option.some.injEq, Prod.mk.injEq] at hs
          obtain ⟨e1, e2, _⟩ := hs
          subst e2
          exact next (f.put hdst (Et.le_refl _) (Ro.le_refl _) (by rw [← e1]; exact (rfl : undef = undef))) rr (Stp.refl _ _ _ _)
/-- a step that looks alone keeps the heap -/
theorem step_reads (hpo : CallPol cx.po cx.call) {o : Oper} {fr : Fr} {h h1 : H} {v : V} {f : Foot} (e : cx.stepD all o fr h = some (v, h1, f)) (hf : f.reads = true) : h1 = h := by
  unfold Cx.stepD at e
  split at e
  · split at e
    · split at e
      · rename_i v' h1' hx
        simp only [Option.some.injEq, Prod.mk.injEq] at e
        obtain ⟨rfl, rfl, rfl⟩ := e
        unfold Cx.footP at hf
        split at hf
        · cases hf
        · cases hq : cx.foot o fr h with
          | rd rs => exact (exec_rd hpo hq hx).1
          | rdAll => exact exec_rdAll hpo hq hx
          | ldc k off n => exact (exec_ldc hq hx).1
          | wr l n => rw [hq] at hf; cases hf
          | sto k => rw [hq] at hf; cases hf
          | wrAll => rw [hq] at hf; cases hf
          | swap a b => rw [hq] at hf; cases hf
      · cases e
    · simp only [Option.some.injEq, Prod.mk.injEq] at e; exact e.2.1.symm
    · cases e
  · cases e
theorem runs_reads (hpo : CallPol cx.po cx.call) {D : Nat → V × Foot} {om : Oper} {fr' : Fr} {h' : H} : ∀ (l : List Nat) {fr : Fr} {h : H}, (∀ j ∈ l, (D j).2.reads = true ∧ ∀ oj, all[j]? = some oj → oj.apart all om = true) → cx.RunsD all D l fr h fr' h' →
    h' = h ∧ ∀ d ∈ om.looksAt all, fr' d = fr d
  | [], fr, h, _, r => by obtain ⟨rfl, rfl⟩ := r; exact ⟨rfl, fun _ _ => rfl⟩
  | j :: l, fr, h, hl, r => by
    obtain ⟨oj, h1, g1, g2, r⟩ := r
    obtain ⟨p1, p2⟩ := hl j (by simp)
    have := step_reads hpo g2 p1
    subst this
    obtain ⟨q1, q2⟩ := runs_reads hpo l (fun k hk => hl k (by simp [hk])) r
    exact ⟨q1, fun d hd => by rw [q2 d hd, put_ne (fun e => (Oper.apart_spec (p2 oj g1)).1 d e hd)]⟩
theorem wanted_congr {fr fr' : Fr} {o : Oper} (e : ∀ d ∈ o.looksAt all, fr d = fr' d) : wantedV all fr o = wantedV all fr' o := by
  unfold wantedV
  cases hg : o.guard with
  | none => rfl
  | some q =>
    obtain ⟨j, want⟩ := q
    dsimp only
    cases hd : dstOf all j with
    | none => rfl
    | some d =>
      have : fr d = fr' d := e d (List.mem_append_right _ (by
        unfold dstOf at hd
        simp [hg, hd]))
      simp only [this]
theorem wanted_yield {N : Nat} {ds : List Deferred} {η : Et} {ro : Ro} {fr : Fr} {a : Act} (f : FrRel N ds η ro fr a) {oi : Oper} {b : Bool} (hw : wantedV all fr oi = some b) : Region.wanted oi (yielded all a.tmps) = b := by
  unfold wantedV at hw
  unfold Region.wanted
  cases hg : oi.guard with
  | none => rw [hg] at hw; cases hw; rfl
  | some q =>
    obtain ⟨j, want⟩ := q
    rw [hg] at hw
    dsimp only at hw ⊢
    cases hj : dstOf all j with
    | none =>
      rw [hj] at hw
      have hy : yielded all a.tmps j = none := by unfold yielded; unfold dstOf at hj; rw [hj]; rfl
      rw [hy]; cases hw; rfl
    | some d =>
      rw [hj] at hw
      dsimp only at hw
      split at hw
      · rename_i b' hb
        rw [yielded_at f hj hb]
        cases hw
        cases b' <;> cases want <;> rfl
      · rename_i hb
        rw [yielded_un f hj hb]; cases hw; rfl
      · cases hw
/-- THE REGION that one of its operations ends: in each order. -/
theorem drawnP {Q : Exit → Act → World → Prop} {Inv : Et → Ro → H → World → Prop} (hc : CallSim cx.P cx.call) (hpo : CallPol cx.po cx.call) (hI : Keeps Inv) (hst : statOk all (befs all.toList []) = true) {D : Nat → V × Foot} {m : Nat} {om : Oper} {frM : Fr} {hM g : H} {v : V}
    (hom : all[m]? = some om) (hwm : wantedV all frM om = some true) (hx : cx.exec om frM hM idK idP = some (.pan v, g))
    (hbehind : ∀ j, j < all.size → m < j → ((befs all.toList []).getD j 0).testBit m = true) (hlate : ∀ j, j < m → lateB all (befs all.toList []) j = false)
    (hreads : ∀ j, j < m → ((befs all.toList []).getD m 0).testBit j = true ∨ (D j).2.reads = true)
    (hpair : ∀ j k, j < k → k < m → (D j).2.clash (D k).2 = true → ((befs all.toList []).getD k 0).testBit j = true ∨ lateB all (befs all.toList []) k = true)
    (hpan : ∀ {η ro w} {a : Act} {cv}, FrRel cx.N ds η ro noFr a → Rel η ro g w → Inv η ro g w → VRel η ro v cv → Q (.panic [{ v := cv, recovered := false }]) a w) {η0 : Et} {ro0 : Ro} {h0 : H} {w0 : World} (r0 : Rel η0 ro0 h0 w0) (inv0 : Inv η0 ro0 h0 w0) :
    ∀ (fuel : Nat) (L : List Nat) (listed : Array Bool) {fr h η ro a w}, L.length + 1 ≤ fuel → L.Pairwise (· < ·) → listed.size = all.size → (∀ i, i ∈ L ↔ i < m ∧ listed.getD i true = false) → (∀ i, m ≤ i → i < all.size → listed.getD i true = false) →
      (∀ k j, k < all.size → listed.getD k false = true → ((befs all.toList []).getD k 0).testBit j = true → listed.getD j false = true) →
      cx.RunsD all D L fr h frM hM → FrRel cx.N ds η ro fr a → Rel η ro h w → Stp η0 ro0 h0 w0 η ro h w → wpAny cx.P .any all Q fuel listed a w := by
  have hms : m < all.size := (Array.getElem?_eq_some_iff.1 hom).1
  have stat : ∀ i oi, all[i]? = some oi → (∀ e ∈ oi.after.toList, Region.binds .any e = true → e.on < i) ∧ ∀ j oj, j < i → all[j]? = some oj → ((befs all.toList []).getD i 0).testBit j = true ∨ oj.apart all oi = true := by
    intro i oi hi
    have hlt : i < all.size := (Array.getElem?_eq_some_iff.1 hi).1
    have h1 := List.all_eq_true.1 hst i (List.mem_range.2 hlt)
    simp only [hi, Bool.and_eq_true] at h1
    refine ⟨fun e he hb => ?_, fun j oj hj hoj => ?_⟩
    · have := List.all_eq_true.1 h1.1 e he
      simpa [hb] using this
    · have := List.all_eq_true.1 h1.2 j (List.mem_range.2 hj)
      simpa [hoj] using this
  have bspec : ∀ k j, ((befs all.toList []).getD k 0).testBit j = true → ∃ o, all[k]? = some o ∧ ∃ e ∈ o.after.toList, Region.binds .any e = true ∧ (j = e.on ∨ ((befs all.toList []).getD e.on 0).testBit j = true) := by
    intro k j hb
    obtain ⟨o, h1, h2⟩ := befs_spec all.toList [] k j (by simpa using hb)
    exact ⟨o, by simpa using h1, h2⟩
  have dflt : ∀ {listed : Array Bool}, listed.size = all.size → ∀ j, j < all.size → (listed.getD j true = false ∨ listed.getD j false = true) := by
    intro listed hsz j hj
    rw [Array.getD_eq_getD_getElem?, Array.getD_eq_getD_getElem?, Array.getElem?_eq_getElem (by omega)]
    cases listed[j] <;> simp
  have both : ∀ {listed : Array Bool} j, listed.getD j false = true → listed.getD j true = false → False := by
    intro listed j h1 h2
    rw [Array.getD_eq_getD_getElem?] at h1 h2
    cases hq : listed[j]? with
    | none => rw [hq] at h1; cases h1
    | some b => rw [hq] at h1 h2; simp at h1 h2; rw [h1] at h2; cases h2
  intro fuel
  induction fuel with
  | zero => intro L listed fr h η ro a w hlen; omega
  | succ fuel ih =>
    intro L listed fr h η ro a w hlen hsort hsz hL hM2 hcl r f rr s
    refine ⟨fun hr => ?_, fun i hi => ?_⟩
    · -- something is ready
      exfalso
      have first : ∀ x o, all[x]? = some o → listed.getD x true = false → (∀ y, y < x → y < all.size → listed.getD y true = false → False) → False := by
        intro x o ho hx hy
        have : x ∈ Region.ready .any all listed := by
          rw [mem_ready]
          refine ⟨hx, o, ho, fun e he hb => ?_⟩
          have hlt := (stat x o ho).1 e (by simpa using he) hb
          have hxs : x < all.size := (Array.getElem?_eq_some_iff.1 ho).1
          rcases dflt hsz e.on (by omega) with h1 | h1
          · exact (hy e.on hlt (by omega) h1).elim
          · exact h1
        rw [hr] at this; cases this
      cases L with
      | nil => exact first m om hom (hM2 m (Nat.le_refl _) hms) (fun y hy _ h1 => List.not_mem_nil ((hL y).2 ⟨hy, h1⟩))
      | cons x L =>
        obtain ⟨o, _, ho, _⟩ := r
        obtain ⟨hx1, hx2⟩ := (hL x).1 (by simp)
        refine first x o ho hx2 (fun y hy _ h1 => ?_)
        have := (hL y).2 ⟨by omega, h1⟩
        rcases List.mem_cons.1 this with h2 | h2
        · omega
        · have := (List.pairwise_cons.1 hsort).1 y h2; omega
    · obtain ⟨hu, oi, hoi, hready⟩ := mem_ready.1 hi
      have hlt : i < all.size := (Array.getElem?_eq_some_iff.1 hoi).1
      have hahead : ∀ j, ((befs all.toList []).getD i 0).testBit j = true → listed.getD j false = true := by
        intro j hb
        obtain ⟨o, h1, e, h2, h3, h4⟩ := bspec i j hb
        rw [hoi] at h1; cases h1
        have h5 := hready e (by simpa using h2) h3
        rcases h4 with rfl | h4
        · exact h5
        · have : e.on < all.size := by have := (stat i oi hoi).1 e h2 h3; omega
          exact hcl e.on j this h5 h4
      rcases Nat.lt_trichotomy i m with him | him | him
      · -- one that goes through
        obtain ⟨l1, l2, rfl⟩ := List.append_of_mem ((hL i).2 ⟨him, hu⟩)
        have hpw := List.pairwise_append.1 hsort
        have hnobit : ∀ j ∈ l1, ((befs all.toList []).getD i 0).testBit j = false := by
          intro j hj
          cases hb : ((befs all.toList []).getD i 0).testBit j with
          | false => rfl
          | true => exact (both j (hahead j hb) ((hL j).1 (by simp [hj])).2).elim
        have hapart : ∀ j ∈ l1, ∀ oj, all[j]? = some oj → oj.apart all oi = true := by
          intro j hj oj hoj
          rcases (stat i oi hoi).2 j oj (hpw.2.2 j hj i (by simp)) hoj with h1 | h1
          · rw [hnobit j hj] at h1; cases h1
          · exact h1
        have hcomm : ∀ j ∈ l1, Comm all D j i := by
          intro j hj
          refine ⟨fun oj oi' g1 g2 => by rw [hoi] at g2; cases g2; exact hapart j hj oj g1, ?_⟩
          cases hq : (D j).2.clash (D i).2 with
          | false => rfl
          | true =>
            rcases hpair j i (hpw.2.2 j hj i (by simp)) him hq with h1 | h1
            · rw [hnobit j hj] at h1; cases h1
            · rw [hlate i him] at h1; cases h1
        have r2 := runs_pull hpo l1 hcomm r
        obtain ⟨o, h1, ho, hs, r3⟩ := r2
        rw [hoi] at ho; cases ho
        have hsub : (l1 ++ l2).Sublist (l1 ++ i :: l2) := List.Sublist.append (List.Sublist.refl _) (List.sublist_cons_self _ _)
        have hnd : i ∉ l1 ++ l2 := by
          intro hm
          rcases List.mem_append.1 hm with hm | hm
          · have := hpw.2.2 i hm i (by simp); omega
          · have := (List.pairwise_cons.1 hpw.2.1).1 i hm; omega
        have next : ∀ {η' ro' cv w'}, FrRel cx.N ds η' ro' (put fr oi.dst (D i).1) (a.put oi.dst cv) → Rel η' ro' h1 w' → Stp η ro h w η' ro' h1 w' → wpAny cx.P .any all Q fuel (listed.setIfInBounds i true) (a.put oi.dst cv) w' := by
          intro η' ro' cv w' f' r' s'
          refine ih (l1 ++ l2) _ (by simp at hlen ⊢; omega) (hsort.sublist hsub) (by simpa using hsz) (fun k => ?_) (fun k hk1 hk2 => ?_) (fun k j hk hl hb => ?_) r3 f' r' (s.trans s')
          · by_cases hki : k = i
            · subst hki
              constructor
              · intro hm; exact absurd hm hnd
              · rintro ⟨_, h2⟩
                rw [Array.getD_eq_getD_getElem?, Array.getElem?_setIfInBounds_self_of_lt (by omega)] at h2
                simp at h2
            · rw [getD_set_ne true (fun e => hki e.symm), ← hL k]
              simp [hki]
          · rw [getD_set_ne true (fun e => by omega)]; exact hM2 k hk1 hk2
          · by_cases hki : k = i
            · subst hki; exact getD_set_true (hahead j hb)
            · rw [getD_set_ne false (fun e => hki e.symm)] at hl
              exact getD_set_true (hcl k j hk hl hb)
        unfold wpOp
        rw [hoi]
        dsimp only
        unfold Cx.stepD at hs
        split at hs
        rotate_left
        · cases hs
        rename_i hdst
        cases hw : wantedV all fr oi with
        | none => rw [hw] at hs; cases hs
        | some b =>
          rw [hw] at hs
          have hwant := wanted_yield f hw
          cases b with
          | true =>
            rw [if_pos hwant]
            dsimp only at hs
            split at hs
            · rename_i v' h1' hx'
              simp only [Option.some.injEq, Prod.mk.injEq] at hs
              obtain ⟨e1, e2, _⟩ := hs
              subst e2
              refine .inl (exec_ok hc hpo rr f hx' ?_ ?_)
              · intro η' ro' w' v cv hv r' s' hvr
                cases hv
                rw [e1] at hvr
                exact next (f.put hdst (s'.le rr) s'.rol hvr) r' s'
              · intro η' ro' w' v cv hv; cases hv
            · cases hs
          | false =>
            rw [hwant, if_neg (by simp)]
            simp only [Option.some.injEq, Prod.mk.injEq] at hs
            obtain ⟨e1, e2, _⟩ := hs
            subst e2
            exact next (f.put hdst (Et.le_refl _) (Ro.le_refl _) (by rw [← e1]; exact (rfl : undef = undef))) rr (Stp.refl _ _ _ _)
      · -- the end
        subst him
        rw [hoi] at hom; cases hom
        have hl : ∀ j ∈ L, (D j).2.reads = true ∧ ∀ oj, all[j]? = some oj → oj.apart all om = true := by
          intro j hj
          obtain ⟨q1, q2⟩ := (hL j).1 hj
          have hnb : ((befs all.toList []).getD i 0).testBit j = false := by
            cases hb : ((befs all.toList []).getD i 0).testBit j with
            | false => rfl
            | true => exact (both j (hahead j hb) q2).elim
          refine ⟨?_, fun oj hoj => ?_⟩
          · rcases hreads j q1 with h1 | h1
            · rw [hnb] at h1; cases h1
            · exact h1
          · rcases (stat i om hoi).2 j oj q1 hoj with h1 | h1
            · rw [hnb] at h1; cases h1
            · exact h1
        obtain ⟨rfl, q2⟩ := runs_reads hpo L hl r
        rw [wanted_congr q2] at hwm
        rw [exec_congr om (ev_congr q2)] at hx
        unfold wpOp
        rw [hoi]
        dsimp only
        rw [if_pos (wanted_yield f hwm)]
        refine .inl (exec_ok hc hpo rr f hx ?_ ?_)
        · intro η' ro' w' v cv hv; cases hv
        · intro η' ro' w' v' cv hv r' s' hvr
          cases hv
          exact hpan (f.no s'.rol) r' (hI.step inv0 r0 (s.trans s')) hvr
      · exact (both m (hahead m (hbehind i hlt him)) (hM2 m (Nat.le_refl _) hms)).elim
/-! ### two orders -/
theorem both_spec {a b : R} {r : Out × H} (e : both a b = some r) : a = some r ∧ b = some r := by
  unfold both at e
  split at e
  · split at e
    · rename_i hxy; cases e; rw [sameR_eq hxy]; exact ⟨rfl, rfl⟩
    · split at e
      · rename_i hxy; cases e; subst hxy; exact ⟨rfl, rfl⟩
      · cases e
  · cases e
theorem opsP_step {Q : Exit → Act → World → Prop} {Inv : Et → Ro → H → World → Prop} (hc : CallSim cx.P cx.call) (hpo : CallPol cx.po cx.call) (hI : Keeps Inv) {i : Nat} {o : Oper} {rest : List Oper} (hoi : all[i]? = some o)
    {next : Act → World → Prop} {fr : Fr} {h : H} {η : Et} {ro : Ro} {a : Act} {w : World} (e : cx.opsP K0 (o :: rest) fr h = some out) (f : FrRel cx.N ds η ro fr a) (r : Rel η ro h w) (inv : Inv η ro h w)
    (hn : ∀ {fr h η ro a w}, cx.opsP K0 rest fr h = some out → FrRel cx.N ds η ro fr a → Rel η ro h w → Inv η ro h w → next a w) : wpOp cx.P all Q i next a w := by
  unfold Cx.opsP at e
  split at e
  rotate_left
  · cases e
  rename_i hcond
  rw [Bool.and_eq_true] at hcond
  obtain ⟨hdst, hg⟩ := hcond
  rw [exec_nat] at e
  unfold wpOp
  rw [hoi]
  dsimp only
  have hg' : o.guard = none := by cases hq : o.guard with | none => rfl | some q => rw [hq] at hg; cases hg
  rw [if_pos (by unfold Region.wanted; rw [hg'])]
  cases hx : cx.exec o fr h idK idP with
  | none => rw [hx] at e; cases e
  | some q =>
    obtain ⟨u, h1⟩ := q
    rw [hx] at e
    cases u with
    | pan v => cases e
    | ret v =>
      simp only [onCall] at e
      refine .inl (exec_ok hc hpo r f hx ?_ ?_)
      · intro η' ro' w' v' cv hv r' s hvr
        cases hv
        exact hn e (f.put hdst (s.le r) s.rol hvr) r' (hI.step inv r s)
      · intro η' ro' w' v' cv hv; cases hv
theorem two_ok {Q : Exit → Act → World → Prop} {Inv : Et → Ro → H → World → Prop} (hc : CallSim cx.P cx.call) (hpo : CallPol cx.po cx.call) (hI : Keeps Inv) {o0 o1 o2 o3 : Oper} (hall : all.toList = [o0, o1, o2, o3]) (ht : twoWay all = true)
    (hfin : ∀ {fr h η ro a w}, K0 .normal fr h = some out → FrRel cx.N ds η ro fr a → Rel η ro h w → Inv η ro h w → Q .normal a w)
    {fr h η ro a w} (e1 : cx.opsP K0 [o0, o1, o2, o3] fr h = some out) (e2 : cx.opsP K0 [o0, o2, o1, o3] fr h = some out) (f : FrRel cx.N ds η ro fr a) (r : Rel η ro h w) (inv : Inv η ro h w) : wpAny cx.P .any all Q 4 (Array.replicate 4 false) a w := by
  have g : ∀ i : Nat, all[i]? = [o0, o1, o2, o3][i]? := fun i => by rw [← hall]; simp
  unfold twoWay isRdy at ht
  simp only [Bool.and_eq_true, decide_eq_true_eq] at ht
  obtain ⟨⟨⟨⟨⟨t0, t1⟩, t2⟩, t3⟩, t4⟩, t5⟩ := ht
  have r0 : Region.ready .any all (Array.replicate 4 false) = [0] := t0
  have s0 : (Array.replicate 4 false).setIfInBounds 0 true = [true, false, false, false].toArray := rfl
  have s1 : ([true, false, false, false].toArray).setIfInBounds 1 true = [true, true, false, false].toArray := rfl
  have s2 : ([true, false, false, false].toArray).setIfInBounds 2 true = [true, false, true, false].toArray := rfl
  have s3 : ([true, true, false, false].toArray).setIfInBounds 2 true = [true, true, true, false].toArray := rfl
  have s4 : ([true, false, true, false].toArray).setIfInBounds 1 true = [true, true, true, false].toArray := rfl
  have s5 : ([true, true, true, false].toArray).setIfInBounds 3 true = [true, true, true, true].toArray := rfl
  have last : ∀ {fr h η ro a w}, cx.opsP K0 [o3] fr h = some out → FrRel cx.N ds η ro fr a → Rel η ro h w → Inv η ro h w → wpAny cx.P .any all Q 1 [true, true, true, false].toArray a w := by
    intro fr h η ro a w e f r inv
    refine ⟨fun hr => (by rw [t4] at hr; cases hr), fun i hi => ?_⟩
    rw [t4, List.mem_singleton] at hi; subst hi
    refine opsP_step (o := o3) hc hpo hI (g 3) e f r inv fun {fr h η ro a w} e f r inv => ?_
    rw [s5]
    exact ⟨t5, hfin e f r inv⟩
  refine ⟨fun hr => (by rw [r0] at hr; cases hr), fun i hi => ?_⟩
  rw [r0, List.mem_singleton] at hi; subst hi
  rw [s0]
  -- behind the first, in both orders
  have two : ∀ {fr h η ro a w}, (cx.opsP K0 [o1, o2, o3] fr h = some out ∧ cx.opsP K0 [o2, o1, o3] fr h = some out) → FrRel cx.N ds η ro fr a → Rel η ro h w → Inv η ro h w → wpAny cx.P .any all Q 3 [true, false, false, false].toArray a w := by
    intro fr h η ro a w e f r inv
    refine ⟨fun hr => (by rw [t1] at hr; cases hr), fun i hi => ?_⟩
    rw [t1] at hi
    simp only [List.mem_cons, List.not_mem_nil, or_false] at hi
    rcases hi with rfl | rfl
    · refine opsP_step (o := o1) hc hpo hI (g 1) e.1 f r inv fun {fr h η ro a w} e f r inv => ?_
      rw [s1]
      refine ⟨fun hr => (by rw [t2] at hr; cases hr), fun i hi => ?_⟩
      rw [t2, List.mem_singleton] at hi; subst hi
      refine opsP_step (o := o2) hc hpo hI (g 2) e f r inv fun {fr h η ro a w} e f r inv => ?_
      rw [s3]; exact last e f r inv
    · refine opsP_step (o := o2) hc hpo hI (g 2) e.2 f r inv fun {fr h η ro a w} e f r inv => ?_
      rw [s2]
      refine ⟨fun hr => (by rw [t3] at hr; cases hr), fun i hi => ?_⟩
      rw [t3, List.mem_singleton] at hi; subst hi
      refine opsP_step (o := o1) hc hpo hI (g 1) e f r inv fun {fr h η ro a w} e f r inv => ?_
      rw [s4]; exact last e f r inv
  -- the first
  have hcond : (okDst cx.N o0.dst && o0.guard.isNone) = true := by
    unfold Cx.opsP at e1
    split at e1
    · assumption
    · cases e1
  rw [Cx.opsP, if_pos hcond, exec_nat] at e1 e2
  rw [Bool.and_eq_true] at hcond
  unfold wpOp
  rw [show all[0]? = some o0 from g 0]
  dsimp only
  have hg' : o0.guard = none := by cases hq : o0.guard with | none => rfl | some q => have := hcond.2; rw [hq] at this; cases this
  rw [if_pos (by unfold Region.wanted; rw [hg'])]
  cases hx : cx.exec o0 fr h idK idP with
  | none => rw [hx] at e1; cases e1
  | some q =>
    obtain ⟨u, h1⟩ := q
    rw [hx] at e1 e2
    cases u with
    | pan v => cases e1
    | ret v =>
      simp only [onCall] at e1 e2
      refine .inl (exec_ok hc hpo r f hx ?_ ?_)
      · intro η' ro' w' v' cv hv r' s hvr
        cases hv
        exact two ⟨e1, e2⟩ (f.put hcond.1 (s.le r) s.rol hvr) r' (hI.step inv r s)
      · intro η' ro' w' v' cv hv; cases hv
theorem draw_ok {Q : Exit → Act → World → Prop} {Inv : Et → Ro → H → World → Prop} (hc : CallSim cx.P cx.call) (hpo : CallPol cx.po cx.call) (hI : Keeps Inv) {id : Nat}
    (hfin : ∀ {fr h η ro a w}, K0 .normal fr h = some out → FrRel cx.N ds η ro fr a → Rel η ro h w → Inv η ro h w → Q .normal a w)
    (hpan : ∀ {v fr h η ro w} {a : Act} {cv}, K0 (.pan v) fr h = some out → FrRel cx.N ds η ro fr a → Rel η ro h w → Inv η ro h w → VRel η ro v cv → Q (.panic [{ v := cv, recovered := false }]) a w)
    {fr h η ro a w} (e : cx.draw all K0 fr h = some out) (f : FrRel cx.N ds η ro fr a) (r : Rel η ro h w) (inv : Inv η ro h w) : (Code.region id all true).wp cx.P Q a w := by
  unfold Cx.draw at e
  split at e
  rotate_left
  · cases e
  rename_i hm
  have hw : Stp η ro h w η ro h { w with drawn := w.drawn + 1 } :=
    ⟨Nat.le_refl _, fun _ _ _ => rfl, fun _ _ h => h, rfl, rfl, rfl, Nat.le_refl _, fun _ _ => rfl, Ro.le_refl _, fun _ _ _ _ => rfl, fun _ _ h => ⟨h, fun _ _ _ _ => ⟨rfl, fun _ => rfl⟩⟩⟩
  have r' : Rel η ro h { w with drawn := w.drawn + 1 } := r.drew rfl
  split at e
  · rename_i h2
    rw [Bool.and_eq_true] at h2
    split at e
    · rename_i o0 o1 o2 o3 hall
      obtain ⟨e1, e2⟩ := both_spec e
      refine wp_region_any hm ?_
      have hsz : all.size = 4 := by simpa using h2.1
      rw [hsz]
      exact two_ok hc hpo hI hall h2.2 hfin e1 e2 f r' (hI.step inv r hw)
    · cases e
  split at e
  rotate_left
  · cases e
  rename_i hst
  rcases opsD_runs all.toList 0 [] (by simp) e with ⟨D, fr', h', runs, hk, _, hpair⟩ | ⟨m, D, fr', h', v, g, om, _, hm2, runs, hom, _, hwm, hx, hk, hbe, hla, _, hre, _, hpair⟩
  rotate_left
  · refine wp_region_any hm ?_
    have hms : m < all.size := (Array.getElem?_eq_some_iff.1 hom).1
    have hfu : wpAny cx.P .any all Q all.size (Array.replicate all.size false) a { w with drawn := w.drawn + 1 } := drawnP hc hpo hI hst (D := D) hom hwm hx hbe hla (fun j hj => hre j (Nat.zero_le _) hj) (fun j k h1 h2 hcl => hpair j k (Nat.zero_le _) h1 h2 hcl) (fun d r i vr => hpan hk d r i vr) r' (hI.step inv r hw) all.size (List.range' 0 m) _
      (by simp; omega) (by simpa using List.pairwise_lt_range') (by simp) (fun i => by
        rw [List.mem_range'_1]
        constructor
        · rintro ⟨_, h2⟩
          refine ⟨by omega, ?_⟩
          rw [Array.getD_eq_getD_getElem?, Array.getElem?_replicate, if_pos (by omega)]; rfl
        · rintro ⟨h1, _⟩; exact ⟨by omega, by omega⟩) (fun i _ hi => by rw [Array.getD_eq_getD_getElem?, Array.getElem?_replicate, if_pos hi]; rfl) (fun k j hk hl hb => by
        rw [Array.getD_eq_getD_getElem?, Array.getElem?_replicate] at hl
        split at hl <;> cases hl) (by simpa using runs) f r' (Stp.refl _ _ _ _)
    exact hfu
  refine wp_region_any hm ?_
  refine drawn hc hpo hI hst (D := D) (frE := fr') (hE := h') (fun j k h1 h2 hcl => hpair j k (Nat.zero_le _) h1 (by simpa using h2) hcl) (fun f r i => hfin hk f r i) r' (hI.step inv r hw) all.size (List.range' 0 all.size) _ (fun _ => none) ?_ (by simpa using List.pairwise_lt_range') (by simp) (fun i => ?_) (fun k j hk hl => ?_) (by simpa using runs) f r' (Stp.refl _ _ _ _) ⟨fun i b hb => (by cases hb), fun i j b hb => (by cases hb), fun i b o d hb => (by cases hb)⟩
  · refine Nat.le_trans (List.length_filter_le _ _) ?_
    simp
  · rw [List.mem_range'_1]
    constructor
    · rintro ⟨_, h2⟩
      refine ⟨by omega, .inl ?_⟩
      rw [Array.getD_eq_getD_getElem?, Array.getElem?_replicate, if_pos (by omega)]; rfl
    · rintro ⟨h1, _⟩; exact ⟨by omega, by omega⟩
  · rw [Array.getD_eq_getD_getElem?, Array.getElem?_replicate] at hl
    split at hl <;> cases hl
end
end Go.Abs
