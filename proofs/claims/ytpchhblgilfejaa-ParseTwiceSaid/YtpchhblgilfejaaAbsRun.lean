/-
  Calls and loops of the abstract machine keep their own equations: what comes out at some level is one step of what comes out at some level.
-/
import Derived.Test.YtpchhblgilfejaaAbsNat
set_option autoImplicit false
set_option linter.unusedVariables false
namespace Go.Abs

def Le (a b : R) : Prop := ∀ r, a = some r → b = some r
theorem Le.rfl_ (a : R) : Le a a := fun _ h => h
theorem Le.trans {a b c : R} (h : Le a b) (k : Le b c) : Le a c := fun r hr => k r (h r hr)
/-- a rising chain, and what it comes to -/
structure Ch (f : Nat → R) (g : R) : Prop where
  up : ∀ n, Le (f n) (f (n + 1))
  le : ∀ n, Le (f n) g
  ex : ∀ r, g = some r → ∃ n, f n = some r
theorem Ch.mono {f : Nat → R} {g : R} (h : Ch f g) {n m : Nat} (hnm : n ≤ m) : Le (f n) (f m) := by
  induction hnm with
  | refl => exact Le.rfl_ _
  | step _ ih => exact ih.trans (h.up _)
theorem Ch.const (a : R) : Ch (fun _ => a) a := ⟨fun _ => Le.rfl_ _, fun _ => Le.rfl_ _, fun r h => ⟨0, h⟩⟩
theorem Ch.bind {α : Type} (o : Option α) {f : Nat → α → R} {g : α → R} (h : ∀ a, Ch (fun n => f n a) (g a)) : Ch (fun n => o.bind (f n)) (o.bind g) := by
  cases o with
  | none => exact Ch.const _
  | some a => exact h a
theorem Ch.bindR {f : Nat → R} {g : R} (h : Ch f g) (k : Out × H → R) : Ch (fun n => (f n).bind k) (g.bind k) := by
  refine ⟨fun n r hr => ?_, fun n r hr => ?_, fun r hr => ?_⟩
  · rw [Option.bind_eq_some_iff] at hr ⊢
    obtain ⟨x, h1, h2⟩ := hr
    exact ⟨x, h.up n _ h1, h2⟩
  · rw [Option.bind_eq_some_iff] at hr ⊢
    obtain ⟨x, h1, h2⟩ := hr
    exact ⟨x, h.le n _ h1, h2⟩
  · rw [Option.bind_eq_some_iff] at hr
    obtain ⟨x, h1, h2⟩ := hr
    obtain ⟨n, hn⟩ := h.ex _ h1
    exact ⟨n, by rw [hn]; exact h2⟩
theorem Ch.graft {f : Nat → R} {g : R} (h0 : H) (pin : Option Nat) (h : Ch f g) : Ch (fun n => Go.Abs.graft h0 pin (f n)) (Go.Abs.graft h0 pin g) := Ch.bindR h _
theorem Ch.ite (c : Prop) [Decidable c] {f f' : Nat → R} {g g' : R} (h : Ch f g) (h' : Ch f' g') : Ch (fun n => if c then f n else f' n) (if c then g else g') := by
  split <;> assumption
abbrev ChVH (k : Nat → V → H → R) (k' : V → H → R) : Prop := ∀ v h, Ch (fun n => k n v h) (k' v h)
abbrev ChFH (k : Nat → Fr → H → R) (k' : Fr → H → R) : Prop := ∀ v h, Ch (fun n => k n v h) (k' v h)
abbrev ChK (k : Nat → K) (k' : K) : Prop := ∀ e fr h, Ch (fun n => k n e fr h) (k' e fr h)
abbrev ChCall (k : Nat → CallF) (k' : CallF) : Prop := ∀ f a h, Ch (fun n => k n f a h) (k' f a h)
abbrev ChL (l : Nat → LF) (l' : LF) : Prop := ∀ N an lit j p kn k' fr h, ChK kn k' → Ch (fun n => l n N an lit j p (kn n) fr h) (l' N an lit j p k' fr h)
theorem Ch.onCall {f : Nat → R} {g : R} (h : Ch f g) {k kp : Nat → V → H → R} {k' kp' : V → H → R} (hk : ChVH k k') (hkp : ChVH kp kp') :
    Ch (fun n => onCall (f n) (k n) (kp n)) (onCall g k' kp') := by
  refine ⟨fun n r hr => ?_, fun n r hr => ?_, fun r hr => ?_⟩
  · cases hf : f n with
    | none => rw [hf] at hr; cases hr
    | some o =>
      obtain ⟨o, h1⟩ := o
      rw [hf] at hr; rw [h.up n _ hf]
      cases o with
      | ret v => exact (hk v h1).up n r hr
      | pan v => exact (hkp v h1).up n r hr
  · cases hf : f n with
    | none => rw [hf] at hr; cases hr
    | some o =>
      obtain ⟨o, h1⟩ := o
      rw [hf] at hr; rw [h.le n _ hf]
      cases o with
      | ret v => exact (hk v h1).le n r hr
      | pan v => exact (hkp v h1).le n r hr
  · cases hg : g with
    | none => rw [hg] at hr; cases hr
    | some o =>
      obtain ⟨n, hn⟩ := h.ex _ hg
      obtain ⟨o, h1⟩ := o
      rw [hg] at hr
      cases o with
      | ret v =>
        obtain ⟨m, hm⟩ := (hk v h1).ex r hr
        refine ⟨max n m, ?_⟩
        rw [h.mono (Nat.le_max_left n m) _ hn]
        exact (hk v h1).mono (Nat.le_max_right n m) r hm
      | pan v =>
        obtain ⟨m, hm⟩ := (hkp v h1).ex r hr
        refine ⟨max n m, ?_⟩
        rw [h.mono (Nat.le_max_left n m) _ hn]
        exact (hkp v h1).mono (Nat.le_max_right n m) r hm

/-- one context, but for calls and loops -/
def Cx.with (cx : Cx) (call : CallF) (L : LF) : Cx := { cx with call, L }
theorem with_P (cx : Cx) (c : CallF) (l : LF) : (cx.with c l).P = cx.P := rfl
theorem with_ev (cx : Cx) (c : CallF) (l : LF) : (cx.with c l).ev = cx.ev := rfl
theorem with_parts (cx : Cx) (c : CallF) (l : LF) : (cx.with c l).parts = cx.parts := rfl
theorem with_lit (cx : Cx) (c : CallF) (l : LF) : (cx.with c l).lit = cx.lit := rfl
theorem with_po (cx : Cx) (c : CallF) (l : LF) : (cx.with c l).po = cx.po := rfl
theorem with_call (cx : Cx) (c : CallF) (l : LF) : (cx.with c l).call = c := rfl
theorem exec_ch (cx : Cx) {call : Nat → CallF} {call' : CallF} {L : Nat → LF} {L' : LF} (hc : ChCall call call') (o : Oper) (fr : Fr) (h : H)
    {k kp : Nat → V → H → R} {k' kp' : V → H → R} (hk : ChVH k k') (hkp : ChVH kp kp') :
    Ch (fun n => (cx.with (call n) (L n)).exec o fr h (k n) (kp n)) ((cx.with call' L').exec o fr h k' kp') := by
  have e : ∀ n, (cx.with (call n) (L n)).exec o fr h (k n) (kp n) = onCall ((cx.with (call n) (L n)).exec o fr h idK idP) (k n) (kp n) := fun n => exec_nat ..
  simp only [e]
  rw [exec_nat]
  refine Ch.onCall ?_ hk hkp
  unfold Cx.exec
  simp only [with_P, with_ev, with_parts, with_lit, with_call, with_po]
  split
  case h_26 c hop =>
    split
    · split
      · exact Ch.onCall (hc _ _ _) (fun v h => Ch.const _) (fun v h => Ch.const _)
      · exact Ch.const _
    · exact Ch.const _
    · exact Ch.const _
  all_goals first | exact Ch.const _ | (rename_i s d x hop; by_cases hs : newB s d (cx.ev fr x) = true <;> simp only [hs, if_true, Bool.false_eq_true, if_false] <;> exact Ch.const _)

theorem go_ch (cx : Cx) {call : Nat → CallF} {call' : CallF} {L : Nat → LF} {L' : LF} (hl : ChL L L') (j : Jp) (p : Nat) (fr : Fr) (h : H) {k : Nat → K} {k' : K} (hk : ChK k k') :
    Ch (fun n => (cx.with (call n) (L n)).go j p (k n) fr h) ((cx.with call' L').go j p k' fr h) := hl _ _ _ _ _ k k' fr h hk
theorem ops_ch (cx : Cx) {call : Nat → CallF} {call' : CallF} {L : Nat → LF} {L' : LF} (hc : ChCall call call') (hl : ChL L L') (all : Array Oper) (p : Nat) {k : Nat → K} {k' : K} (hk : ChK k k') :
    ∀ (l : List Oper) (i : Nat) (fr : Fr) (h : H),
    Ch (fun n => (cx.with (call n) (L n)).ops all (k n) p i l fr h) ((cx.with call' L').ops all k' p i l fr h) := by
  intro l
  induction l with
  | nil => intro i fr h; exact hk _ fr h
  | cons o rest ih =>
    intro i fr h
    unfold Cx.ops
    have cutO : ∀ fr h, Ch (fun n => (cx.with (call n) (L n)).cutO all (k n) p i fr h ((cx.with (call n) (L n)).ops all (k n) p (i + 1) rest)) ((cx.with call' L').cutO all k' p i fr h ((cx.with call' L').ops all k' p (i + 1) rest)) := by
      intro fr h
      unfold Cx.cutO
      simp only [with_lit]
      cases cx.lit.oc p i with
      | none => exact ih _ _ _
      | some l => exact go_ch cx hl _ _ _ _ hk
    have go : ∀ fr, Ch (fun n => (cx.with (call n) (L n)).exec o fr h (fun v h => (cx.with (call n) (L n)).cutO all (k n) p i (put fr o.dst v) h ((cx.with (call n) (L n)).ops all (k n) p (i + 1) rest)) (fun v h => k n (.pan v) fr h))
        ((cx.with call' L').exec o fr h (fun v h => (cx.with call' L').cutO all k' p i (put fr o.dst v) h ((cx.with call' L').ops all k' p (i + 1) rest)) (fun v h => k' (.pan v) fr h)) := by
      intro fr
      exact exec_ch cx (L := L) (L' := L') hc o fr h (k := fun n v h => (cx.with (call n) (L n)).cutO all (k n) p i (put fr o.dst v) h ((cx.with (call n) (L n)).ops all (k n) p (i + 1) rest)) (fun v h => cutO _ _) (kp := fun n v h => k n (.pan v) fr h) (fun _ _ => hk _ _ _)
    have no : ∀ fr, Ch (fun n => (cx.with (call n) (L n)).ops all (k n) p (i + 1) rest (put fr o.dst .un) h) ((cx.with call' L').ops all k' p (i + 1) rest (put fr o.dst .un) h) := fun fr => ih _ _ _
    refine Ch.ite (okDst cx.N o.dst = true) ?_ (Ch.const _)
    cases hg : o.guard with
    | none => exact go fr
    | some q =>
      obtain ⟨j, want⟩ := q
      cases hd : dstOf all j with
      | none => simp only [hd]; exact no fr
      | some d =>
        simp only [hd]
        split
        · exact Ch.ite _ (go _) (no _)
        · exact no fr
        · exact Ch.const _

theorem onNats_eq : ∀ (l : List Nat) (k : List Nat → R), onNats l k = k l
  | [], k => rfl
  | a :: r, k => by unfold onNats; rw [onNats_eq r]
theorem onFoot_eq (f : Foot) (k : Foot → R) : onFoot f k = k f := by
  unfold onFoot; split <;> first | rfl | rw [onNats_eq]
theorem with_foot (cx : Cx) (c : CallF) (l : LF) : (cx.with c l).foot = cx.foot := rfl
theorem with_footP (cx : Cx) (c : CallF) (l : LF) : (cx.with c l).footP = cx.footP := rfl
theorem opsD_ch (cx : Cx) {call : Nat → CallF} {call' : CallF} {L : Nat → LF} {L' : LF} (hc : ChCall call call') (all : Array Oper) (bef : List Nat) {k : Nat → K} {k' : K} (hk : ChK k k') :
    ∀ (l : List Oper) (i : Nat) (acc : List (Nat × Foot)) (fr : Fr) (h : H),
    Ch (fun n => (cx.with (call n) (L n)).opsD all bef (k n) i l acc fr h) ((cx.with call' L').opsD all bef k' i l acc fr h) := by
  intro l
  induction l with
  | nil => intro i acc fr h; exact hk _ fr h
  | cons o rest ih =>
    intro i acc fr h
    unfold Cx.opsD
    simp only [onFoot_eq, with_footP]
    have go : ∀ fr, Ch (fun n => if quietOp o then (cx.with (call n) (L n)).exec o fr h (fun v h' => (cx.with (call n) (L n)).opsD all bef (k n) (i + 1) rest acc (put fr o.dst v) h') (fun _ _ => none)
          else (cx.with (call n) (L n)).exec o fr h (fun v h1 => if okFoot bef i acc (cx.footP o fr h h1) || lateB all bef i then (cx.with (call n) (L n)).opsD all bef (k n) (i + 1) rest ((i, cx.footP o fr h h1) :: acc) (put fr o.dst v) h1 else none) (fun v h1 => if panOk all bef i acc then k n (.pan v) noFr h1 else none))
        (if quietOp o then (cx.with call' L').exec o fr h (fun v h' => (cx.with call' L').opsD all bef k' (i + 1) rest acc (put fr o.dst v) h') (fun _ _ => none)
          else (cx.with call' L').exec o fr h (fun v h1 => if okFoot bef i acc (cx.footP o fr h h1) || lateB all bef i then (cx.with call' L').opsD all bef k' (i + 1) rest ((i, cx.footP o fr h h1) :: acc) (put fr o.dst v) h1 else none) (fun v h1 => if panOk all bef i acc then k' (.pan v) noFr h1 else none)) := by
      intro fr
      refine Ch.ite _ ?_ ?_
      · exact exec_ch cx (L := L) (L' := L') hc o fr h (k := fun n v h' => (cx.with (call n) (L n)).opsD all bef (k n) (i + 1) rest acc (put fr o.dst v) h') (fun v h' => ih _ _ _ _) (kp := fun _ _ _ => none) (fun _ _ => Ch.const _)
      · exact exec_ch cx (L := L) (L' := L') hc o fr h (k := fun n v h1 => if okFoot bef i acc (cx.footP o fr h h1) || lateB all bef i then (cx.with (call n) (L n)).opsD all bef (k n) (i + 1) rest ((i, cx.footP o fr h h1) :: acc) (put fr o.dst v) h1 else none) (fun v h1 => Ch.ite _ (ih _ _ _ _) (Ch.const _))
          (kp := fun n v h1 => if panOk all bef i acc then k n (.pan v) noFr h1 else none) (fun v h1 => Ch.ite _ (hk _ _ _) (Ch.const _))
    have no : ∀ fr, Ch (fun n => (cx.with (call n) (L n)).opsD all bef (k n) (i + 1) rest acc (put fr o.dst .un) h) ((cx.with call' L').opsD all bef k' (i + 1) rest acc (put fr o.dst .un) h) := fun fr => ih _ _ _ _
    refine Ch.ite (okDst cx.N o.dst = true) ?_ (Ch.const _)
    cases hg : o.guard with
    | none => exact go fr
    | some q =>
      obtain ⟨j, want⟩ := q
      cases hd : dstOf all j with
      | none => simp only [hd]; exact no fr
      | some d =>
        simp only [hd]
        split
        · exact Ch.ite _ (go _) (no _)
        · exact no fr
        · exact Ch.const _

theorem canonValK_eq (hk : H) (v : V) (nh : H) (us : List Nat) (k : V → H → List Nat → R) : canonValK hk v nh us k = (canonVal hk v nh us).bind fun r => k r.1 r.2.1 r.2.2 := by
  unfold canonValK canonVal
  split
  · rfl
  · rw [frz1K_eq]; cases frzArg hk v <;> rfl
theorem canonOwnK_eq (h : H) (tk : List Nat) (es : Nat) (v : V) (nh : H) (us : List Nat) (k : V → H → List Nat → R) : canonOwnK h tk es v nh us k = (canonOwn h tk es v nh us).bind fun r => k r.1 r.2.1 r.2.2 := by
  unfold canonOwnK canonOwn
  split
  · rfl
  · split <;> rfl
  · split
    · split
      · split <;> rfl
      · split
        · dsimp only; split <;> rfl
        · rfl
      · rfl
    · rfl
  · rfl
theorem canonRowsK_eq (h hk : H) (tk : List Nat) (l : List (Option Nat)) : ∀ (cs : List V) (i : Nat) (nh : H) (us : List Nat) (k : List V → H → List Nat → R), canonRowsK h hk tk l i cs nh us k = (canonRows h hk tk l i cs nh us).bind fun r => k r.1 r.2.1 r.2.2
  | [], i, nh, us, k => rfl
  | v :: cs, i, nh, us, k => by
    unfold canonRowsK canonRows
    have rest : ∀ q : Option (V × H × List Nat), (q.bind fun r => canonRowsK h hk tk l (i + 1) cs r.2.1 r.2.2 fun cs' nh2 us2 => k (r.1 :: cs') nh2 us2) = (q.bind fun r => (canonRows h hk tk l (i + 1) cs r.2.1 r.2.2).bind fun q => some (r.1 :: q.1, q.2.1, q.2.2)).bind fun r => k r.1 r.2.1 r.2.2 := by
      intro q
      cases q with
      | none => rfl
      | some r =>
        simp only [Option.bind_some]
        rw [canonRowsK_eq h hk tk l cs]
        cases canonRows h hk tk l (i + 1) cs r.2.1 r.2.2 <;> rfl
    split
    · rw [canonValK_eq, rest]
    · rw [canonOwnK_eq, rest]
mutual
theorem canonK_eq (h hk : H) (tk : List Nat) : ∀ (s : Sh) (v : V) (nh : H) (us : List Nat) (k : V → H → List Nat → R), canonK h hk tk s v nh us k = (canon h hk tk s v nh us).bind fun r => k r.1 r.2.1 r.2.2
  | .val, v, nh, us, k => by
    unfold canonK canon
    split
    · rfl
    · rw [frz1K_eq]; cases frzArg hk v <;> rfl
  | .raw, v, nh, us, k => by unfold canonK canon; rfl
  | .lend l, v, nh, us, k => by rw [canonK]
  | .lnt, v, nh, us, k => by rw [canonK]
  | .apin l, v, nh, us, k => by rw [canonK]
  | .pbox l, v, nh, us, k => by rw [canonK]
  | .rows l, v, nh, us, k => by
    unfold canonK canon
    split
    · split
      · rename_i i off n es hc
        cases ((h[i]?).bind cellsOb) with
        | none => rfl
        | some cs =>
          simp only [Option.bind_some]
          split
          · rw [canonRowsK_eq]
            generalize canonRows h hk tk l 0 _ _ _ = q
            cases q <;> rfl
          · rfl
      · rfl
    · rfl
  | .mp, v, nh, us, k => by
    unfold canonK canon
    split
    · split
      · split <;> rfl
      · rfl
    · rfl
  | .vec, v, nh, us, k => by
    unfold canonK canon
    split
    · split
      · split
        · rfl
        · cases toFs _ <;> rfl
        · rfl
      · rfl
    · rfl
  | .own es, v, nh, us, k => by
    unfold canonK canon
    split
    · rfl
    · split <;> rfl
    · split
      · split
        · split <;> rfl
        · split
          · dsimp only; split <;> rfl
          · rfl
        · rfl
      · rfl
    · rfl
  | .st l, v, nh, us, k => by
    unfold canonK canon
    split
    · rw [canonsK_eq h hk tk l]
      generalize canons h hk tk l _ _ _ = q
      cases q <;> rfl
    · rfl
  | .box l, v, nh, us, k => by
    unfold canonK canon
    split
    · split
      · split
        · rw [canonsK_eq h hk tk l]
          generalize canons h hk tk l _ _ _ = q
          cases q <;> rfl
        · rfl
      · rfl
    · rfl
  | .pin l, v, nh, us, k => by
    unfold canonK canon
    split
    · split
      · split
        · rw [canonsK_eq h hk tk l]
          generalize canons h hk tk l _ _ _ = q
          cases q <;> rfl
        · rfl
      · rfl
    · rfl
theorem canonsK_eq (h hk : H) (tk : List Nat) : ∀ (l : List Sh) (vs : List V) (nh : H) (us : List Nat) (k : List V → H → List Nat → R), canonsK h hk tk l vs nh us k = (canons h hk tk l vs nh us).bind fun r => k r.1 r.2.1 r.2.2
  | [], [], nh, us, k => rfl
  | s :: l, v :: cs, nh, us, k => by
    unfold canonsK canons
    rw [canonK_eq h hk tk s]
    cases canon h hk tk s v nh us with
    | none => rfl
    | some r =>
      simp only [Option.bind_some]
      rw [canonsK_eq h hk tk l]
      cases canons h hk tk l cs r.2.1 r.2.2 <;> rfl
  | [], _ :: _, _, _, _ => rfl
  | _ :: _, [], _, _, _ => rfl
end
mutual
theorem sameF_eq : ∀ (x y : F), sameF x y = true → x = y
  | .lst n cs, .lst m ds, h => by
    simp only [sameF, Bool.and_eq_true, decide_eq_true_eq] at h
    rw [h.1, sameFs_eq cs ds h.2]
  | .fp cs, .fp ds, h => by
    simp only [sameF] at h
    rw [sameFs_eq cs ds h]
  | .s x, .s y, h => by
    unfold sameF at h
    split at h <;> simp_all
  | .s _, .lst .., h => by unfold sameF at h; simp at h
  | .s _, .fp _, h => by unfold sameF at h; simp at h
  | .lst .., .s _, h => by unfold sameF at h; simp at h
  | .lst .., .fp _, h => by unfold sameF at h; simp at h
  | .fp _, .s _, h => by unfold sameF at h; simp at h
  | .fp _, .lst .., h => by unfold sameF at h; simp at h
theorem sameFs_eq : ∀ (l m : List F), sameFs l m = true → l = m
  | [], [], _ => rfl
  | x :: l, y :: m, h => by
    simp only [sameFs, Bool.and_eq_true] at h
    rw [sameF_eq x y h.1, sameFs_eq l m h.2]
  | [], _ :: _, h => by simp [sameFs] at h
  | _ :: _, [], h => by simp [sameFs] at h
end
mutual
theorem sameV_eq : ∀ (x y : V), sameV x y = true → x = y
  | .f x, .f y, h => by simp only [sameV] at h; rw [sameF_eq x y h]
  | .ref .., .ref .., h => by simp only [sameV, Bool.and_eq_true, decide_eq_true_eq] at h; obtain ⟨⟨⟨rfl, rfl⟩, rfl⟩, rfl⟩ := h; rfl
  | .ptr .., .ptr .., h => by simp only [sameV, Bool.and_eq_true, decide_eq_true_eq] at h; obtain ⟨rfl, rfl⟩ := h; rfl
  | .mp _, .mp _, h => by simp only [sameV, decide_eq_true_eq] at h; rw [h]
  | .agg l, .agg m, h => by simp only [sameV] at h; rw [sameVs_eq l m h]
  | .tup l, .tup m, h => by simp only [sameV] at h; rw [sameVs_eq l m h]
  | .lit a l, .lit b m, h => by simp only [sameV, Bool.and_eq_true, decide_eq_true_eq] at h; rw [h.1, sameVs_eq l m h.2]
  | .un, .un, _ => rfl
  | .any, _, h => by simp [sameV] at h
  | .tf, _, h => by simp [sameV] at h
  | .fn .., _, h => by simp [sameV] at h
  | .f _, .ref .., h | .f _, .ptr .., h | .f _, .mp _, h | .f _, .fn .., h | .f _, .agg _, h | .f _, .tup _, h | .f _, .lit .., h | .f _, .un, h | .f _, .any, h | .f _, .tf, h => by simp [sameV] at h
  | .ref .., .f _, h | .ref .., .ptr .., h | .ref .., .mp _, h | .ref .., .fn .., h | .ref .., .agg _, h | .ref .., .tup _, h | .ref .., .lit .., h | .ref .., .un, h | .ref .., .any, h | .ref .., .tf, h => by simp [sameV] at h
  | .ptr .., .f _, h | .ptr .., .ref .., h | .ptr .., .mp _, h | .ptr .., .fn .., h | .ptr .., .agg _, h | .ptr .., .tup _, h | .ptr .., .lit .., h | .ptr .., .un, h | .ptr .., .any, h | .ptr .., .tf, h => by simp [sameV] at h
  | .mp _, .f _, h | .mp _, .ref .., h | .mp _, .ptr .., h | .mp _, .fn .., h | .mp _, .agg _, h | .mp _, .tup _, h | .mp _, .lit .., h | .mp _, .un, h | .mp _, .any, h | .mp _, .tf, h => by simp [sameV] at h
  | .agg _, .f _, h | .agg _, .ref .., h | .agg _, .ptr .., h | .agg _, .mp _, h | .agg _, .fn .., h | .agg _, .tup _, h | .agg _, .lit .., h | .agg _, .un, h | .agg _, .any, h | .agg _, .tf, h => by simp [sameV] at h
  | .tup _, .f _, h | .tup _, .ref .., h | .tup _, .ptr .., h | .tup _, .mp _, h | .tup _, .fn .., h | .tup _, .agg _, h | .tup _, .lit .., h | .tup _, .un, h | .tup _, .any, h | .tup _, .tf, h => by simp [sameV] at h
  | .lit .., .f _, h | .lit .., .ref .., h | .lit .., .ptr .., h | .lit .., .mp _, h | .lit .., .fn .., h | .lit .., .agg _, h | .lit .., .tup _, h | .lit .., .un, h | .lit .., .any, h | .lit .., .tf, h => by simp [sameV] at h
  | .un, .f _, h | .un, .ref .., h | .un, .ptr .., h | .un, .mp _, h | .un, .fn .., h | .un, .agg _, h | .un, .tup _, h | .un, .lit .., h | .un, .any, h | .un, .tf, h => by simp [sameV] at h
theorem sameVs_eq : ∀ (l m : List V), sameVs l m = true → l = m
  | [], [], _ => rfl
  | x :: l, y :: m, h => by
    simp only [sameVs, Bool.and_eq_true] at h
    rw [sameV_eq x y h.1, sameVs_eq l m h.2]
  | [], _ :: _, h => by simp [sameVs] at h
  | _ :: _, [], h => by simp [sameVs] at h
end
theorem sameO_eq {x y : Ob} (h : sameO x y = true) : x = y := by
  unfold sameO at h
  split at h
  · rw [sameVs_eq _ _ h]
  · rw [sameFs_eq _ _ h]
  · rfl
  · cases h
theorem sameH_eq : ∀ {l m : H}, sameH l m = true → l = m
  | [], [], _ => rfl
  | x :: l, y :: m, h => by
    simp only [sameH, Bool.and_eq_true] at h
    rw [sameO_eq h.1, sameH_eq h.2]
  | [], _ :: _, h => by simp [sameH] at h
  | _ :: _, [], h => by simp [sameH] at h
theorem sameR_eq {x y : Out × H} (h : sameR x y = true) : x = y := by
  unfold sameR at h
  split at h
  · simp only [Bool.and_eq_true] at h
    rw [sameV_eq _ _ h.1, sameH_eq h.2]
  · cases h
theorem Ch.both {f f' : Nat → R} {g g' : R} (h : Ch f g) (h' : Ch f' g') : Ch (fun n => Go.Abs.both (f n) (f' n)) (Go.Abs.both g g') := by
  have spec : ∀ {a b : R} {r}, Go.Abs.both a b = some r → a = some r ∧ b = some r := by
    intro a b r e
    unfold Go.Abs.both at e
    split at e
    · split at e
      · rename_i hxy; cases e; rw [sameR_eq hxy]; exact ⟨rfl, rfl⟩
      · split at e
        · rename_i hxy; cases e; subst hxy; exact ⟨rfl, rfl⟩
        · cases e
    · cases e
  have mk : ∀ {a b : R} {r}, a = some r → b = some r → Go.Abs.both a b = some r := by
    rintro a b r rfl rfl
    unfold Go.Abs.both; simp
  refine ⟨fun n r hr => ?_, fun n r hr => ?_, fun r hr => ?_⟩
  · obtain ⟨h1, h2⟩ := spec hr; exact mk (h.up n _ h1) (h'.up n _ h2)
  · obtain ⟨h1, h2⟩ := spec hr; exact mk (h.le n _ h1) (h'.le n _ h2)
  · obtain ⟨h1, h2⟩ := spec hr
    obtain ⟨n, hn⟩ := h.ex _ h1
    obtain ⟨m, hm⟩ := h'.ex _ h2
    exact ⟨max n m, mk (h.mono (Nat.le_max_left n m) _ hn) (h'.mono (Nat.le_max_right n m) _ hm)⟩
theorem opsP_ch (cx : Cx) {call : Nat → CallF} {call' : CallF} {L : Nat → LF} {L' : LF} (hc : ChCall call call') {k : Nat → K} {k' : K} (hk : ChK k k') :
    ∀ (l : List Oper) (fr : Fr) (h : H), Ch (fun n => (cx.with (call n) (L n)).opsP (k n) l fr h) ((cx.with call' L').opsP k' l fr h) := by
  intro l
  induction l with
  | nil => intro fr h; exact hk _ fr h
  | cons o rest ih =>
    intro fr h
    unfold Cx.opsP
    refine Ch.ite ((okDst cx.N o.dst && o.guard.isNone) = true) ?_ (Ch.const _)
    exact exec_ch cx (L := L) (L' := L') hc o fr h (k := fun n v h' => (cx.with (call n) (L n)).opsP (k n) rest (put fr o.dst v) h') (fun v h' => ih _ _) (kp := fun _ _ _ => none) (fun _ _ => Ch.const _)
theorem canonAllK_eq (h hk : H) (tk : List Nat) (fr : Fr) : ∀ (l : List (Nat × Sh)) (nh : H) (us : List Nat) (k : List (Nat × V) → H → R), canonAllK h hk tk fr l nh us k = (canonAll h hk tk fr l nh us).bind fun r => k r.1 r.2
  | [], nh, us, k => rfl
  | (i, s) :: l, nh, us, k => by
    unfold canonAllK canonAll
    rw [canonK_eq]
    cases canon h hk tk s (fr i) nh us with
    | none => rfl
    | some r =>
      simp only [Option.bind_some]
      rw [canonAllK_eq h hk tk fr l]
      cases canonAll h hk tk fr l r.2.1 r.2.2 <;> rfl
theorem cut_ch (an : Ann) (p : Nat) (fr : Fr) (h : H) {k : Nat → Fr → H → R} {k' : Fr → H → R} (hk : ChFH k k') {kj : Nat → Fr → H → R} {kj' : Fr → H → R} (hkj : ChFH kj kj') : Ch (fun n => cut an p fr h (k n) (kj n)) (cut an p fr h k' kj') := by
  unfold cut
  simp only [canonAllK_eq]
  cases an p with
  | none => exact hk _ _
  | some l => exact Ch.ite _ (hkj _ _) (Ch.ite _ (Ch.bind _ fun r => hkj _ _) (Ch.const _))
theorem thenK_ch (cx : Cx) {call : Nat → CallF} {call' : CallF} {L : Nat → LF} {L' : LF} (hl : ChL L L') (p : Nat) (b : Code) {go : Nat → Fr → H → R} {go' : Fr → H → R} (hg : ChFH go go') {k : Nat → K} {k' : K} (hk : ChK k k') :
    ChK (fun n => thenK (cx.with (call n) (L n)) p b (go n) (k n)) (thenK (cx.with call' L') p b go' k') := by
  intro e fr h
  cases e with
  | normal => exact cut_ch _ _ _ _ hg fun fr h => go_ch cx hl _ _ fr h hk
  | exit i => exact hk _ _ _
  | ret => exact hk _ _ _
  | pan v => exact hk _ _ _
theorem blockK_ch (id : Nat) {k : Nat → K} {k' : K} (hk : ChK k k') : ChK (fun n => blockK id (k n)) (blockK id k') := by
  intro e fr h
  cases e with
  | normal => exact hk _ _ _
  | exit i => exact Ch.ite _ (hk _ _ _) (hk _ _ _)
  | ret => exact hk _ _ _
  | pan v => exact hk _ _ _
theorem loopK_ch (cx : Cx) {call : Nat → CallF} {call' : CallF} {L : Nat → LF} {L' : LF} (hl : ChL L L') (p : Nat) (b : Code) {k : Nat → K} {k' : K} (hk : ChK k k') :
    ChK (fun n => loopK (cx.with (call n) (L n)) p b (k n)) (loopK (cx.with call' L') p b k') := by
  intro e fr h
  cases e with
  | normal => exact cut_ch _ _ _ _ (fun fr h => go_ch cx hl _ _ fr h hk) (fun fr h => go_ch cx hl _ _ fr h hk)
  | exit i => exact hk _ _ _
  | ret => exact hk _ _ _
  | pan v => exact hk _ _ _
theorem code_ch (cx : Cx) {call : Nat → CallF} {call' : CallF} {L : Nat → LF} {L' : LF} (hc : ChCall call call') (hl : ChL L L') (c : Code) :
    ∀ (p : Nat) (fr : Fr) (h : H) {k : Nat → K} {k' : K}, ChK k k' → Ch (fun n => code (cx.with (call n) (L n)) c p (k n) fr h) (code (cx.with call' L') c p k' fr h) := by
  induction c with
  | skip => intro p fr h k k' hk; exact hk _ _ _
  | region id all draw =>
    intro p fr h k k' hk
    have hd : Ch (fun n => (cx.with (call n) (L n)).draw all (k n) fr h) ((cx.with call' L').draw all k' fr h) := by
      unfold Cx.draw
      refine Ch.ite ((cx.P.follows .mixedOrders) = true) (Ch.ite ((all.size == 4 && twoWay all) = true) ?_ (Ch.ite (statOk all (befs all.toList []) = true) (opsD_ch cx (L := L) (L' := L') hc all _ hk _ 0 [] fr h) (Ch.const _))) (Ch.const _)
      split
      · exact Ch.both (opsP_ch cx hc hk _ _ _) (opsP_ch cx hc hk _ _ _)
      · exact Ch.const _
    exact Ch.ite _ hd (ops_ch cx hc hl all p hk _ 0 fr h)
  | seq a b iha ihb =>
    intro p fr h k k' hk
    exact iha _ fr h (k := fun n => thenK (cx.with (call n) (L n)) (2 * p + 1) b (code (cx.with (call n) (L n)) b (2 * p + 1) (k n)) (k n)) (thenK_ch cx hl _ b (fun fr h => ihb _ fr h hk) hk)
  | cond x a b iha ihb =>
    intro p fr h k k' hk
    simp only [code, with_ev]
    have ca : ∀ fr h, Ch (fun n => cut (cx.with (call n) (L n)).an (2 * p) fr h (code (cx.with (call n) (L n)) a (2 * p) (k n)) ((cx.with (call n) (L n)).go (.code a) (2 * p) (k n))) (cut (cx.with call' L').an (2 * p) fr h (code (cx.with call' L') a (2 * p) k') ((cx.with call' L').go (.code a) (2 * p) k')) := fun fr h => cut_ch _ _ _ _ (fun fr h => iha _ fr h hk) fun fr h => go_ch cx hl _ _ fr h hk
    have cb : ∀ fr h, Ch (fun n => cut (cx.with (call n) (L n)).an (2 * p + 1) fr h (code (cx.with (call n) (L n)) b (2 * p + 1) (k n)) ((cx.with (call n) (L n)).go (.code b) (2 * p + 1) (k n))) (cut (cx.with call' L').an (2 * p + 1) fr h (code (cx.with call' L') b (2 * p + 1) k') ((cx.with call' L').go (.code b) (2 * p + 1) k')) := fun fr h => cut_ch _ _ _ _ (fun fr h => ihb _ fr h hk) fun fr h => go_ch cx hl _ _ fr h hk
    generalize cx.ev fr x = y
    cases y with
    | tf => exact Ch.both (ca fr h) (cb fr h)
    | _ => exact Ch.bind _ fun q => Ch.ite (q = true) (ca fr h) (cb fr h)
  | block id b ih =>
    intro p fr h k k' hk
    exact ih _ fr h (k := fun n => blockK id (k n)) (blockK_ch id hk)
  | loop b ih =>
    intro p fr h k k' hk
    exact cut_ch _ _ _ _ (fun fr h => go_ch cx hl _ _ fr h hk) fun fr h => go_ch cx hl _ _ fr h hk
  | exit id => intro p fr h k k' hk; exact hk _ _ _
  | ret => intro p fr h k k' hk; exact hk _ _ _
  | rangeFunc => intro p fr h k k' hk; exact Ch.const _
  | scope => intro p fr h k k' hk; exact Ch.const _
  | label => intro p fr h k k' hk; exact Ch.const _
  | goto => intro p fr h k k' hk; exact Ch.const _
  | refuse => intro p fr h k k' hk; exact Ch.const _
theorem Ch.withH {f : Nat → R} {g : R} (all : Bool) (h0 : H) (h : Ch f g) : Ch (fun n => Go.Abs.withH all h0 (f n)) (Go.Abs.withH all h0 g) := by
  have e : ∀ r : R, Go.Abs.withH all h0 r = r.bind fun x => match x with | (.ret v, _) => if all || scal v then some (.ret v, h0) else none | _ => none := by
    intro r; cases r with
    | none => rfl
    | some q => obtain ⟨o, g⟩ := q; cases o <;> rfl
  simp only [e]; exact Ch.bindR h _
theorem Ch.withG {f : Nat → R} {g : R} (all : Bool) (h0 : H) (h : Ch f g) : Ch (fun n => Go.Abs.withG all h0 (f n)) (Go.Abs.withG all h0 g) := by
  have e : ∀ r : R, Go.Abs.withG all h0 r = r.bind fun x => match x with | (.ret v, _) => if all then some (.ret v, h0) else some (.ret v, deadAll h0) | _ => none := by
    intro r; cases r with
    | none => rfl
    | some q => obtain ⟨o, g⟩ := q; cases o <;> rfl
  simp only [e]; exact Ch.bindR h _

section
variable (w : World0) {call : Nat → CallF} {call' : CallF} {L : Nat → LF} {L' : LF} (hc : ChCall call call') (hl : ChL L L')
include hc hl
theorem core_ch (f : FuncId) (fn : Func) (c : Code) (rs : List Sh) (pin : Option (List Sh)) (args : List V) (h : H) : Ch (fun n => core w.P w.an w.po (call n) (L n) f fn c rs pin args h) (core w.P w.an w.po call' L' f fn c rs pin args h) :=
  code_ch ⟨w.P, fn.ntmps, (w.an f).an pin.isSome, (w.an f).lit, call', L', w.po⟩ hc hl c 1 (entry args) h (k := fun _ => finO w.P fn rs pin) (fun _ _ _ => Ch.const _)
theorem hdl_ch (g : FuncId) (caps : List V) (x : Value) (h : H) {k : H → R} : Ch (fun n => hdl w.P w.an w.po (call n) (L n) g caps x h k) (hdl w.P w.an w.po call' L' g caps x h k) := by
  unfold hdl
  cases hdlOf w.P g with
  | none => exact Ch.const _
  | some q =>
    obtain ⟨fg, d, cg⟩ := q
    dsimp only
    cases (w.an g).pol with
    | keep =>
      exact Ch.ite _ (code_ch ⟨w.P, fg.ntmps, (w.an g).an false, (w.an g).lit, call', L', w.po⟩ hc hl cg 3 _ h (k := fun _ => fun e _ h => match e with
          | .normal => k h
          | .ret => k h
          | _ => none) (fun _ _ _ => Ch.const _)) (Ch.const _)
    | _ => exact Ch.const _
theorem dfrK_ch (fn : Func) (g : FuncId) (caps : List V) : ChK (fun n => dfrK w.P w.an w.po (call n) (L n) fn g caps) (dfrK w.P w.an w.po call' L' fn g caps) := by
  intro e fr h
  unfold dfrK
  cases e with
  | normal => exact hdl_ch w hc hl g caps _ h
  | ret => exact hdl_ch w hc hl g caps _ h
  | exit i => exact Ch.const _
  | pan v =>
    dsimp only
    split
    · rename_i q; cases q
    · rename_i q; cases q
    · exact hdl_ch w hc hl g caps _ h
    · exact Ch.const _
theorem keepF_ch (f : FuncId) (fn : Func) (c : Code) (args : List V) (h : H) : Ch (fun n => keepF w.P w.an w.po (call n) (L n) f fn c args h) (keepF w.P w.an w.po call' L' f fn c args h) := by
  unfold keepF
  cases dfrOf c with
  | none => exact code_ch ⟨w.P, fn.ntmps, (w.an f).an false, (w.an f).lit, call', L', w.po⟩ hc hl c 1 _ _ (k := fun _ => finH w.P fn) (fun _ _ _ => Ch.const _)
  | some q =>
    obtain ⟨r0, g, caps, d, rest⟩ := q
    let cx : Cx := ⟨w.P, fn.ntmps, (w.an f).an false, (w.an f).lit, call', L', w.po⟩
    refine code_ch cx hc hl r0 2 _ _ (k := fun n => fun e fr h => match e with
      | .normal => if d < fn.ntmps then code (cx.with (call n) (L n)) rest 7 (dfrK w.P w.an w.po (call n) (L n) fn g (caps.toList.map (cx.ev fr))) (upd fr d (.fn g (caps.toList.map (cx.ev fr)))) h else none
      | _ => none) (k' := fun e fr h => match e with
      | .normal => if d < fn.ntmps then code cx rest 7 (dfrK w.P w.an w.po call' L' fn g (caps.toList.map (cx.ev fr))) (upd fr d (.fn g (caps.toList.map (cx.ev fr)))) h else none
      | _ => none) ?_
    intro e fr h
    cases e with
    | normal => exact Ch.ite _ (code_ch cx hc hl rest 7 _ _ (dfrK_ch w hc hl fn g _)) (Ch.const _)
    | _ => exact Ch.const _
theorem runF_ch : ChCall (fun n => runF w.P w.an w.po w.ext (call n) (L n)) (runF w.P w.an w.po w.ext call' L') := by
  intro f args h
  simp only [runF]
  cases he : w.ext f with
  | some e => exact Ch.const _
  | none =>
    cases hf : w.P.funcs[f]? with
    | none => exact Ch.const _
    | some fn =>
      cases hb : fn.body with
      | none => simp only [hb]; exact Ch.const _
      | some c =>
        simp only [hb]
        refine Ch.ite _ (Ch.const _) (Ch.ite _ ?_ (Ch.const _))
        cases (w.an f).pol with
        | keep => exact keepF_ch w hc hl f fn c args h
        | pure =>
          simp only [frzArgsK_eq]
          exact Ch.bind _ fun args' => Ch.withH _ h (code_ch ⟨w.P, fn.ntmps, (w.an f).an false, (w.an f).lit, call', L', w.po⟩ hc hl c 1 _ _ (k := fun _ => finP w.P fn) (fun _ _ _ => Ch.const _))
        | give =>
          simp only [frzArgsK_eq]
          exact Ch.bind _ fun args' => Ch.withG _ h (code_ch ⟨w.P, fn.ntmps, (w.an f).an false, (w.an f).lit, call', L', w.po⟩ hc hl c 1 _ _ (k := fun _ => finP w.P fn) (fun _ _ _ => Ch.const _))
        | own sh rs zp zr =>
          simp only [canonsK_eq]
          exact Ch.bind _ fun q => Ch.graft _ _ (core_ch w hc hl f fn c rs ((pinOf sh args).map (·.1)) q.1 q.2.1)
theorem runL_ch : ChL (fun n => runL w.P w.po (call n) (L n)) (runL w.P w.po call' L') := by
  intro N an lit j p kn k' fr h hk
  cases j with
  | loop b => exact code_ch ⟨w.P, N, an, lit, call', L', w.po⟩ hc hl b _ fr h (k := fun n => loopK ⟨w.P, N, an, lit, call n, L n, w.po⟩ p b (kn n)) (loopK_ch ⟨w.P, N, an, lit, call', L', w.po⟩ hl p b hk)
  | code c => exact code_ch ⟨w.P, N, an, lit, call', L', w.po⟩ hc hl c _ fr h hk
  | ops all i => exact ops_ch ⟨w.P, N, an, lit, call', L', w.po⟩ hc hl all p hk _ i fr h
end

/-- first nothing, then that -/
def two {α : Type} (a b : α) : Nat → α
  | 0 => a
  | _ + 1 => b
theorem lvl_const (w : World0) : ∀ n, ChL (fun _ => (lvl w n).2) (lvl w n).2
  | 0 => fun _ _ _ _ _ _ _ _ _ _ => Ch.const _
  | n + 1 => runL_ch w (call := fun _ => (lvl w n).1) (L := fun _ => (lvl w n).2) (fun _ _ _ => Ch.const _) (lvl_const w n)
theorem ch_two_none {f : Nat → R} {g : R} (h : Ch f g) : Ch (fun n => match n with | 0 => none | n + 1 => f (n + 1)) g :=
  ⟨fun n r hr => by cases n with
    | zero => cases hr
    | succ n => exact h.up _ r hr,
   fun n r hr => by cases n with
    | zero => cases hr
    | succ n => exact h.le _ r hr,
   fun r hr => by obtain ⟨n, hn⟩ := h.ex r hr; exact ⟨n + 1, h.up n r hn⟩⟩
theorem ch_congr {f f' : Nat → R} {g : R} (h : Ch f g) (e : ∀ n, f n = f' n) : Ch f' g := by
  have : f = f' := funext e
  exact this ▸ h
theorem lvl_two (w : World0) : ∀ n, ChCall (two (lvl w n).1 (lvl w (n + 1)).1) (lvl w (n + 1)).1 ∧ ChL (two (lvl w n).2 (lvl w (n + 1)).2) (lvl w (n + 1)).2
  | 0 => ⟨fun f a h => ch_congr (ch_two_none (Ch.const ((lvl w 1).1 f a h))) fun n => by cases n <;> rfl,
      fun N an lit j p kn k' fr h hk => ch_congr (ch_two_none (lvl_const w 1 N an lit j p kn k' fr h hk)) fun n => by cases n <;> rfl⟩
  | n + 1 => by
    obtain ⟨hc, hl⟩ := lvl_two w n
    refine ⟨fun f a h => ch_congr (runF_ch w hc hl f a h) fun n => by cases n <;> rfl, fun N an lit j p kn k' fr h hk => ch_congr (runL_ch w hc hl N an lit j p kn k' fr h hk) fun n => by cases n <;> rfl⟩
theorem lvl_up (w : World0) (n : Nat) (f : FuncId) (a : List V) (h : H) : Le ((lvl w n).1 f a h) ((lvl w (n + 1)).1 f a h) := ((lvl_two w n).1 f a h).up 0
theorem lim_some {f : Nat → R} (h : ∀ n, Le (f n) (f (n + 1))) {r : Out × H} : lim f = some r ↔ ∃ n, f n = some r := by
  have mono : ∀ n m, n ≤ m → Le (f n) (f m) := by
    intro n m hnm
    induction hnm with
    | refl => exact Le.rfl_ _
    | step _ ih => exact ih.trans (h _)
  unfold lim
  constructor
  · intro hr
    split at hr
    · exact ⟨_, hr⟩
    · cases hr
  · rintro ⟨n, hn⟩
    have hex : ∃ n, (f n).isSome := ⟨n, by rw [hn]; rfl⟩
    rw [dif_pos hex]
    have hs := hex.choose_spec
    cases hq : f hex.choose with
    | none => rw [hq] at hs; cases hs
    | some q =>
      have h1 := mono _ _ (Nat.le_max_left n hex.choose) _ hn
      have h2 := mono _ _ (Nat.le_max_right n hex.choose) _ hq
      rw [h1] at h2
      exact h2.symm
theorem run_ch (w : World0) : ChCall (fun n => (lvl w n).1) (run w) := fun f a h =>
  ⟨fun n => lvl_up w n f a h, fun n r hr => (lim_some fun n => lvl_up w n f a h).2 ⟨n, hr⟩, fun r hr => (lim_some fun n => lvl_up w n f a h).1 hr⟩
theorem runLoop_ch (w : World0) : ChL (fun n => (lvl w n).2) (runLoop w) := by
  intro N an lit j p kn k' fr h hk
  have step : ∀ (n : Nat) (kn : Nat → K) (k' : K), ChK kn k' → Le ((lvl w n).2 N an lit j p (kn 0) fr h) ((lvl w (n + 1)).2 N an lit j p (kn 1) fr h) := fun n kn k' hk => ((lvl_two w n).2 N an lit j p kn k' fr h hk).up 0
  have shift : ∀ n, ChK (fun k => kn (n + k)) k' := fun n e fr h =>
    ⟨fun k => (hk e fr h).up _, fun k => (hk e fr h).le _, fun r hr => by obtain ⟨m, hm⟩ := (hk e fr h).ex r hr; exact ⟨m, (hk e fr h).mono (Nat.le_add_left m n) r hm⟩⟩
  have fixed : ∀ n, Le ((lvl w n).2 N an lit j p k' fr h) ((lvl w (n + 1)).2 N an lit j p k' fr h) := fun n => step n (fun _ => k') k' fun _ _ _ => Ch.const _
  have up : ∀ n, Le ((lvl w n).2 N an lit j p (kn n) fr h) ((lvl w (n + 1)).2 N an lit j p (kn (n + 1)) fr h) := fun n => step n _ _ (shift n)
  refine ⟨up, fun n r hr => ?_, fun r hr => ?_⟩
  · exact (lim_some fixed).2 ⟨n, (lvl_const w n N an lit j p kn k' fr h hk).le n r hr⟩
  · obtain ⟨n, hn⟩ := (lim_some fixed).1 hr
    obtain ⟨m, hm⟩ := (lvl_const w n N an lit j p kn k' fr h hk).ex r hn
    have mono : ∀ a c, a ≤ c → Le ((lvl w a).2 N an lit j p (kn a) fr h) ((lvl w c).2 N an lit j p (kn c) fr h) := by
      intro a c hac
      induction hac with
      | refl => exact Le.rfl_ _
      | step _ ih => exact ih.trans (up _)
    have h1 := (lvl_const w n N an lit j p kn k' fr h hk).mono (Nat.le_max_right n m) r hm
    -- at the level of the greater
    have lev : ∀ c, n ≤ c → Le ((lvl w n).2 N an lit j p (kn (max n m)) fr h) ((lvl w c).2 N an lit j p (kn (max n m)) fr h) := by
      intro c hc
      induction hc with
      | refl => exact Le.rfl_ _
      | step _ ih => exact ih.trans (step _ (fun _ => kn (max n m)) _ fun _ _ _ => Ch.const _)
    exact ⟨max n m, lev _ (Nat.le_max_left n m) r h1⟩

theorem eq_of_some {a b : R} (h : ∀ r, a = some r ↔ b = some r) : a = b := by
  cases a with
  | none => cases b with
    | none => rfl
    | some r => exact absurd ((h r).2 rfl) (by simp)
  | some r => exact ((h r).1 rfl).symm
theorem Ch.uniq {f : Nat → R} {g g' : R} (h : Ch f g) (h' : Ch f g') : g = g' :=
  eq_of_some fun r => ⟨fun hr => by obtain ⟨n, hn⟩ := h.ex r hr; exact h'.le n r hn, fun hr => by obtain ⟨n, hn⟩ := h'.ex r hr; exact h.le n r hn⟩
theorem Ch.shift {f : Nat → R} {g : R} (h : Ch f g) : Ch (fun n => f (n + 1)) g :=
  ⟨fun n => h.up _, fun n => h.le _, fun r hr => by obtain ⟨n, hn⟩ := h.ex r hr; exact ⟨n, h.up n r hn⟩⟩

theorem run_eq (w : World0) (f : FuncId) (args : List V) (h : H) : run w f args h = runF w.P w.an w.po w.ext (run w) (runLoop w) f args h :=
  (run_ch w f args h).shift.uniq (runF_ch w (run_ch w) (runLoop_ch w) f args h)
theorem runLoop_eq (w : World0) (N : Nat) (an : Ann) (lit : Fx) (j : Jp) (p : Nat) (k : K) (fr : Fr) (h : H) :
    runLoop w N an lit j p k fr h = runL w.P w.po (run w) (runLoop w) N an lit j p k fr h :=
  (runLoop_ch w N an lit j p (fun _ => k) k fr h fun _ _ _ => Ch.const _).shift.uniq (runL_ch w (run_ch w) (runLoop_ch w) N an lit j p (fun _ => k) k fr h fun _ _ _ => Ch.const _)
/-- What comes out comes out at some level. -/
theorem run_some {w : World0} {f : FuncId} {args : List V} {h : H} {r : Out × H} (hr : run w f args h = some r) : ∃ n, (lvl w n).1 f args h = some r := (run_ch w f args h).ex r hr

/-! ### places in code -/
structure Pt where
  p : Nat
  c : Code
  k : K
noncomputable def Pt.step (cx : Cx) (q : Pt) (bit : Bool) : Pt :=
  match q.c with
  | .seq a b => if bit then ⟨2 * q.p + 1, b, q.k⟩ else ⟨2 * q.p, a, thenK cx (2 * q.p + 1) b (code cx b (2 * q.p + 1) q.k) q.k⟩
  | .cond _ a b => if bit then ⟨2 * q.p + 1, b, q.k⟩ else ⟨2 * q.p, a, q.k⟩
  | .block id b => ⟨2 * q.p, b, blockK id q.k⟩
  | .loop b => ⟨2 * q.p, b, loopK cx q.p b q.k⟩
  | _ => q
noncomputable def nav (cx : Cx) (q : Pt) : List Bool → Pt
  | [] => q
  | b :: r => nav cx (q.step cx b) r
noncomputable def nodeAt (cx : Cx) (q : Pt) (fr : Fr) (h : H) : R :=
  match q.c with
  | .loop b => cx.go (.loop b) q.p q.k fr h
  | c => cx.go (.code c) q.p q.k fr h
noncomputable def nodeOf (cx : Cx) (q : Pt) (fr : Fr) (h : H) : R :=
  match q.c with
  | .loop b => code cx b (2 * q.p) (loopK cx q.p b q.k) fr h
  | c => code cx c q.p q.k fr h
noncomputable def cxOf (w : World0) (n : Nat) (f : FuncId) (pin : Bool) : Cx := { P := w.P, N := n, an := (w.an f).an pin, lit := (w.an f).lit, call := run w, L := runLoop w, po := w.po }
/-- a function's code from a place on, with what is still to be read; fin: what is done at its end -/
noncomputable def node (w : World0) (f : FuncId) (fn : Func) (pin : Bool) (fin : K) (path : List Bool) (ins : List (Nat × V)) (h : H) : R :=
  nodeAt (cxOf w fn.ntmps f pin) (nav (cxOf w fn.ntmps f pin) ⟨1, fn.body.getD .skip, fin⟩ path) (mk ins) h
theorem node_eq (w : World0) (f : FuncId) (fn : Func) (pin : Bool) (fin : K) (path : List Bool) (ins : List (Nat × V)) (h : H) :
    node w f fn pin fin path ins h = nodeOf (cxOf w fn.ntmps f pin) (nav (cxOf w fn.ntmps f pin) ⟨1, fn.body.getD .skip, fin⟩ path) (mk ins) h := by
  unfold node nodeAt nodeOf
  split
  · exact runLoop_eq ..
  · rename_i c hc
    refine (runLoop_eq ..).trans ?_
    rfl
/-- from an operation of a region on -/
noncomputable def nodeR (w : World0) (f : FuncId) (fn : Func) (pin : Bool) (fin : K) (path : List Bool) (i : Nat) (ins : List (Nat × V)) (h : H) : R :=
  let cx := cxOf w fn.ntmps f pin
  let q := nav cx ⟨1, fn.body.getD .skip, fin⟩ path
  match q.c with
  | .region _ all _ => cx.go (.ops all i) q.p q.k (mk ins) h
  | _ => none
noncomputable def nodeRof (w : World0) (f : FuncId) (fn : Func) (pin : Bool) (fin : K) (path : List Bool) (i : Nat) (ins : List (Nat × V)) (h : H) : R :=
  let cx := cxOf w fn.ntmps f pin
  let q := nav cx ⟨1, fn.body.getD .skip, fin⟩ path
  match q.c with
  | .region _ all _ => cx.ops all q.k q.p i (all.toList.drop i) (mk ins) h
  | _ => none
theorem nodeR_eq (w : World0) (f : FuncId) (fn : Func) (pin : Bool) (fin : K) (path : List Bool) (i : Nat) (ins : List (Nat × V)) (h : H) :
    nodeR w f fn pin fin path i ins h = nodeRof w f fn pin fin path i ins h := by
  unfold nodeR nodeRof
  dsimp only
  split
  · exact runLoop_eq ..
  · rfl
/-- what an 'own' function makes of the heap that it is handed -/
noncomputable def coreOf (w : World0) (f : FuncId) (fn : Func) (rs : List Sh) (pin : Option (List Sh)) (args : List V) (h : H) : R :=
  code (cxOf w fn.ntmps f pin.isSome) (fn.body.getD .skip) 1 (finO w.P fn rs pin) (entry args) h
/-- what a pure function answers to what is frozen -/
noncomputable def pureOf (w : World0) (f : FuncId) (fn : Func) (args : List V) : R :=
  code (cxOf w fn.ntmps f false) (fn.body.getD .skip) 1 (finP w.P fn) (entry args) []
end Go.Abs
namespace Go.Abs
/-! ### what a call answers, as equations tell it -/
def pI (k : IntKind) (r : R) (K : Int → R) : R := onCall r (fun v _ => (V.int? k v).bind K) fun _ _ => none
def pB (r : R) (K : Bool → R) : R := onCall r (fun v _ => (V.bool? v).bind K) fun _ _ => none
def pS (r : R) (K : ByteArray → R) : R := onCall r (fun v _ => (V.str? v).bind K) fun _ _ => none
def pF (r : R) (K : F → R) : R := onCall r (fun v _ => (V.f? v).bind K) fun _ _ => none
def pA (r : R) (K : List V → R) : R := onCall r (fun v _ => (V.agg? v).bind K) fun _ _ => none
def pT (r : R) (K : List V → R) : R := onCall r (fun v _ => (V.tup? v).bind K) fun _ _ => none
def pO (r : R) (K : V → H → R) : R := onCall r K fun _ _ => none
def cI (k : IntKind) (l : List V) (i : Nat) (K : Int → R) : R := (l[i]?).bind fun v => (V.int? k v).bind K
def cB (l : List V) (i : Nat) (K : Bool → R) : R := (l[i]?).bind fun v => (V.bool? v).bind K
def cS (l : List V) (i : Nat) (K : ByteArray → R) : R := (l[i]?).bind fun v => (V.str? v).bind K
def cF (l : List V) (i : Nat) (K : F → R) : R := (l[i]?).bind fun v => (V.f? v).bind K
def cA (l : List V) (i : Nat) (K : List V → R) : R := (l[i]?).bind fun v => (V.agg? v).bind K
@[simp] theorem pI_some (k : IntKind) (n : Int) (h : H) (K : Int → R) : pI k (some (.ret (.f (.s (.int k n))), h)) K = K n := by simp [pI, onCall, V.int?, V.f?, F.int?]
@[simp] theorem pB_some (n : Bool) (h : H) (K : Bool → R) : pB (some (.ret (.f (.s (.bool n))), h)) K = K n := rfl
@[simp] theorem pS_some (n : ByteArray) (h : H) (K : ByteArray → R) : pS (some (.ret (.f (.s (.string n))), h)) K = K n := rfl
@[simp] theorem pF_some (x : F) (h : H) (K : F → R) : pF (some (.ret (.f x), h)) K = K x := rfl
@[simp] theorem pA_some (l : List V) (h : H) (K : List V → R) : pA (some (.ret (.agg l), h)) K = K l := rfl
@[simp] theorem pT_some (l : List V) (h : H) (K : List V → R) : pT (some (.ret (.tup l), h)) K = K l := rfl
@[simp] theorem pO_some (v : V) (h : H) (K : V → H → R) : pO (some (.ret v, h)) K = K v h := rfl
/-- a whole number, a bool, a string among frozen cells -/
def atI (k : IntKind) (cs : List F) (j : Nat) (K : Int → R) : R := (cs[j]?).bind fun x => (F.int? k x).bind K
def atB (cs : List F) (j : Nat) (K : Bool → R) : R := (cs[j]?).bind fun x => (F.bool? x).bind K
def atS (cs : List F) (j : Nat) (K : ByteArray → R) : R := (cs[j]?).bind fun x => (F.str? x).bind K
def atF (cs : List F) (j : Nat) (K : F → R) : R := (cs[j]?).bind K
def atL (cs : List F) (j : Nat) (K : Nat → List F → R) : R := (cs[j]?).bind fun x => (F.sl? x).bind fun q => K q.1 q.2
def pL (r : R) (K : Nat → List F → R) : R := onCall r (fun v _ => (V.f? v).bind fun x => (F.sl? x).bind fun q => K q.1 q.2) fun _ _ => none
@[simp] theorem pL_some (n : Nat) (c : List F) (h : H) (K : Nat → List F → R) : pL (some (.ret (.f (.lst n c)), h)) K = K n c := rfl
def cL (l : List V) (i : Nat) (K : Nat → List F → R) : R := (l[i]?).bind fun v => (V.lst? v).bind fun q => K q.1 q.2
end Go.Abs
