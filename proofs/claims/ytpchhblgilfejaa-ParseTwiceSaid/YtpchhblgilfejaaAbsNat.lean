/-
  Each operation of the abstract machine is told by what it hands to its continuation.
-/
import Derived.Test.YtpchhblgilfejaaAbs
set_option autoImplicit false
set_option linter.unusedSimpArgs false
set_option linter.unusedVariables false
namespace Go.Abs

/-- what a continuation gets, as a result -/
def idV (v : V) : R := some (.ret v, [])
def idH (h : H) : R := some (.ret .any, h)
def idK (v : V) (h : H) : R := some (.ret v, h)
def idP (v : V) (h : H) : R := some (.pan v, h)
def onV (r : R) (kk : V → R) : R := match r with | some (.ret v, _) => kk v | _ => none
def onH (r : R) (kk : H → R) : R := match r with | some (.ret _, h) => kk h | _ => none

@[simp] theorem onV_none (kk : V → R) : onV none kk = none := rfl
@[simp] theorem onV_id (v : V) (kk : V → R) : onV (idV v) kk = kk v := rfl
@[simp] theorem onH_none (kk : H → R) : onH none kk = none := rfl
@[simp] theorem onH_id (v : H) (kk : H → R) : onH (idH v) kk = kk v := rfl
@[simp] theorem onCall_none (k kp : V → H → R) : onCall none k kp = none := rfl
@[simp] theorem onCall_id (v : V) (h : H) (k kp : V → H → R) : onCall (idK v h) k kp = k v h := rfl
@[simp] theorem onCall_idP (v : V) (h : H) (k kp : V → H → R) : onCall (idP v h) k kp = kp v h := rfl

/-- natural in a continuation of values -/
structure NatV (f : (V → R) → R) : Prop where out : ∀ kk, f kk = onV (f idV) kk
structure NatH (f : (H → R) → R) : Prop where out : ∀ kk, f kk = onH (f idH) kk
structure NatK (f : (V → H → R) → R) : Prop where out : ∀ kk kp, f kk = onCall (f idK) kk kp
theorem NatV.none : NatV fun _ => none := ⟨fun _ => rfl⟩
theorem NatV.ret (v : V) : NatV fun kk => kk v := ⟨fun _ => rfl⟩
theorem NatV.bind {α : Type} (o : Option α) {f : α → (V → R) → R} (h : ∀ a, NatV (f a)) : NatV fun kk => o.bind fun a => f a kk := by
  constructor; intro kk; cases o with
  | none => rfl
  | some a => exact (h a).out kk
theorem NatV.ite (c : Prop) [Decidable c] {f g : (V → R) → R} (hf : NatV f) (hg : NatV g) : NatV fun kk => if c then f kk else g kk := by
  constructor; intro kk; split
  · exact hf.out kk
  · exact hg.out kk
theorem NatV.dite (c : Prop) [Decidable c] {f : c → (V → R) → R} {g : (V → R) → R} (hf : ∀ h, NatV (f h)) (hg : NatV g) : NatV fun kk => if h : c then f h kk else g kk := by
  constructor; intro kk; split
  · exact (hf _).out kk
  · exact hg.out kk
theorem NatH.none : NatH fun _ => none := ⟨fun _ => rfl⟩
theorem NatH.ret (v : H) : NatH fun kk => kk v := ⟨fun _ => rfl⟩
theorem NatH.bindK (o : Option H) : NatH fun kk => o.bind kk := by
  constructor; intro kk; cases o <;> rfl
theorem NatH.bind {α : Type} (o : Option α) {f : α → (H → R) → R} (h : ∀ a, NatH (f a)) : NatH fun kk => o.bind fun a => f a kk := by
  constructor; intro kk; cases o with
  | none => rfl
  | some a => exact (h a).out kk
theorem NatH.ite (c : Prop) [Decidable c] {f g : (H → R) → R} (hf : NatH f) (hg : NatH g) : NatH fun kk => if c then f kk else g kk := by
  constructor; intro kk; split
  · exact hf.out kk
  · exact hg.out kk
theorem NatK.none : NatK fun _ => none := ⟨fun _ _ => rfl⟩
theorem NatK.ret (v : V) (h : H) : NatK fun kk => kk v h := ⟨fun _ _ => rfl⟩
theorem NatK.bind {α : Type} (o : Option α) {f : α → (V → H → R) → R} (h : ∀ a, NatK (f a)) : NatK fun kk => o.bind fun a => f a kk := by
  constructor; intro kk kp; cases o with
  | none => rfl
  | some a => exact (h a).out kk kp
theorem NatK.ite (c : Prop) [Decidable c] {f g : (V → H → R) → R} (hf : NatK f) (hg : NatK g) : NatK fun kk => if c then f kk else g kk := by
  constructor; intro kk kp; split
  · exact hf.out kk kp
  · exact hg.out kk kp
theorem NatK.ofV {f : (V → R) → R} (hf : NatV f) (h : H) : NatK fun kk => f fun v => kk v h := by
  constructor; intro kk kp
  rw [hf.out (fun v => kk v h), hf.out (fun v => idK v h)]
  cases f idV with
  | none => rfl
  | some r => obtain ⟨o, _⟩ := r; cases o <;> rfl
theorem NatK.ofH {f : (H → R) → R} (hf : NatH f) (v : V) : NatK fun kk => f fun h => kk v h := by
  constructor; intro kk kp
  rw [hf.out (fun h => kk v h), hf.out (fun h => idK v h)]
  cases f idH with
  | none => rfl
  | some r => obtain ⟨o, _⟩ := r; cases o <;> rfl

theorem coeF_nat (z : Value) (x : F) : NatV (coeF z x) := by
  unfold coeF; split <;> first | exact NatV.bind _ fun _ => NatV.ret _ | exact NatV.ret _
theorem coe_nat (z : Value) (v : V) : NatV (coe z v) := by
  unfold coe; split <;> first | exact NatV.bind _ fun _ => NatV.ret _ | exact NatV.ret _ | (split <;> first | exact NatV.bind _ fun _ => NatV.ret _ | exact NatV.ret _)
theorem coeU_nat (z : Value) (v : V) : NatV (coeU z v) := by
  unfold coeU; split
  · split
    · exact NatV.ret _
    · exact coe_nat _ _
  · exact coe_nat _ _
theorem coeS_nat (z : Value) (x : F) : NatV (coeS z x) := by
  unfold coeS; split <;> first | exact NatV.bind _ fun _ => NatV.ret _ | exact NatV.none
theorem load1_nat (z : Value) (h : H) (k off : Nat) : NatV (load1 z h k off) := by
  unfold load1; split
  · exact NatV.bind _ fun v => coe_nat z v
  · exact NatV.bind _ fun v => coeF_nat z v
  · exact NatV.bind _ fun v => coeS_nat z v
  · exact NatV.none
theorem intBin_nat (op : BinOp) (k : IntKind) (a b : Int) : NatV (intBin op k a b) := by
  unfold intBin; split <;> first | exact NatV.ret _ | exact NatV.none | exact NatV.ite _ NatV.none (NatV.ret _)
theorem shiftBin_nat (op : BinOp) (k : IntKind) (a b : Int) : NatV (shiftBin op k a b) := by
  unfold shiftBin; refine NatV.ite _ NatV.none ?_; split <;> first | exact NatV.ret _ | exact NatV.none
theorem strBin_nat (op : BinOp) (a b : ByteArray) : NatV (strBin op a b) := by
  unfold strBin; split <;> first | exact NatV.ret _ | exact NatV.none | exact NatV.ite _ NatV.none (NatV.ret _)
structure NatB (f : (Bool → R) → R) : Prop where out : ∀ g : Bool → V, NatV fun kk => f fun b => kk (g b)
theorem eq1_nat (P : Program) (t : TypeId) (x y : V) (k : Bool → (V → R) → R) (hk : ∀ b, NatV (k b)) : NatV fun kk => eq1 P t x y fun b => k b kk := by
  unfold eq1; split
  · exact NatV.bind _ fun _ => NatV.bind _ fun _ => hk _
  · exact NatV.bind _ fun _ => NatV.bind _ fun _ => hk _
  · exact NatV.bind _ fun _ => NatV.bind _ fun _ => hk _
  · exact NatV.none
theorem eqFs_nat (P : Program) : ∀ (fs : List Field) (xs ys : List V) (k : Bool → (V → R) → R) (hk : ∀ b, NatV (k b)), NatV fun kk => eqFs P fs xs ys fun b => k b kk
  | [], xs, ys, k, hk => hk true
  | f :: fs, xs, ys, k, hk => by
    unfold eqFs
    exact NatV.ite _ NatV.none (NatV.bind _ fun x => NatV.bind _ fun y => eq1_nat P f.type x y (fun b kk => eqFs P fs xs ys fun c => k (b && c) kk) fun b => eqFs_nat P fs xs ys (fun c => k (b && c)) fun c => hk _)
theorem eqS_nat (P : Program) (t : TypeId) (xs ys : List V) (g : Bool → V) : NatV fun kk => eqS P t xs ys fun b => kk (g b) := by
  unfold eqS; split
  · exact NatV.ite _ (eqFs_nat P _ xs ys (fun b kk => kk (g b)) fun b => NatV.ret _) NatV.none
  · exact NatV.none
theorem eqP_nat (P : Program) (t : TypeId) (x y : V) (g : Bool → V) : NatV fun kk => eqP P t x y fun b => kk (g b) := by
  unfold eqP; split
  · exact NatV.bind _ fun a => NatV.bind _ fun b => NatV.ite _ (NatV.ret _) NatV.none
  · exact NatV.none
theorem eqL_nat (neg : Bool) (x y : V) : NatV (eqL neg x y) := by
  unfold eqL; split
  · split <;> first | exact NatV.ret _ | exact NatV.none | exact NatV.ite _ (NatV.ret _) (NatV.ret _)
  · exact NatV.none
theorem eqN_nat (P : Program) (t : TypeId) (neg : Bool) (x y : V) : NatV (eqN P t neg x y) := by
  unfold eqN; split
  · exact eqL_nat ..
  · unfold eqM; exact NatV.bind _ fun a => NatV.bind _ fun b => NatV.ite _ (NatV.ret _) NatV.none
  · refine NatV.ite _ ?_ NatV.none
    unfold eqIf; split <;> first | exact NatV.ret _ | exact NatV.none
  · exact eqP_nat P t _ _ fun b => B (neg ^^ b)
theorem binOp_nat (P : Program) (op : BinOp) (t : TypeId) (x y : V) : NatV (binOp P op t x y) := by
  unfold binOp; split
  · split
    · exact shiftBin_nat ..
    · exact shiftBin_nat ..
    · exact NatV.ite _ (intBin_nat ..) NatV.none
  · exact strBin_nat ..
  · split <;> first | exact NatV.ret _ | exact NatV.none
  · split
    · exact eqS_nat P t _ _ fun b => B b
    · exact eqS_nat P t _ _ fun b => B (!b)
    · exact NatV.none
  · split
    · exact eqN_nat ..
    · exact eqN_nat ..
    · exact NatV.none
theorem unOp_nat (op : UnOp) (x : V) : NatV (unOp op x) := by
  unfold unOp; split <;> first | exact NatV.ret _ | exact NatV.none
theorem convert_nat (P : Program) (s d : TypeId) (x : V) (h : H) : NatV (convert P s d x h) := by
  unfold convert; split
  · exact NatV.ret _
  · exact NatV.ret _
  · exact NatV.ite _ (NatV.ret _) NatV.none
  · split
    · exact NatV.bind _ fun _ => NatV.ret _
    · exact NatV.none
  · exact NatV.none
  · exact NatV.none
theorem elem_nat (x : F) (i : Int) (es : Nat) : NatV fun kk => elem x i es fun cs => kk (.f (.fp cs)) := by
  unfold elem; split
  · exact NatV.ite _ (NatV.ret _) NatV.none
  · exact NatV.none
theorem idx_nat (P : Program) (t : TypeId) (x : V) (i : Int) : NatV (idx P t x i) := by
  unfold idx; split
  · refine NatV.bind _ fun es => ?_
    split
    · exact elem_nat _ _ _
    · exact NatV.ite _ (NatV.ret _) NatV.none
    · exact NatV.none
  · refine NatV.bind _ fun es => ?_
    split
    · exact NatV.ite _ (NatV.ret _) NatV.none
    · exact NatV.ite _ (NatV.ret _) NatV.none
    · exact NatV.none
  · exact NatV.none
theorem ldF_nat (z : Value) (p : F) : NatV (ldF z p) := by
  unfold ldF; split
  · exact NatV.bind _ fun x => coeF_nat z x
  · exact NatV.none
theorem rdK_eq (h : H) (k off n : Nat) (kk : List V → R) : rdK h k off n kk = (rd h k off n).bind kk := by
  unfold rdK rd
  split
  · split <;> rfl
  · split <;> rfl
  · rfl
theorem wrK_eq (h : H) (k off : Nat) (v : List V) (kk : H → R) : wrK h k off v kk = (wr h k off v).bind kk := by
  unfold wrK wr
  split
  · split <;> rfl
  · split <;> rfl
  · rfl
theorem frzK_eq (h : H) (d : Nat) (v : V) (k : F → R) : frzK h d v k = (frz h d v).bind k := by
  unfold frzK
  split
  · split
    · simp [frz]
    · simp [frz]
  · rename_i i off n es
    split
    · simp [frz]
    · split
      · rename_i cs hc
        simp only [frz, hc]
        split <;> rfl
      · rfl
  · rfl
theorem frzsK_eq (h : H) : ∀ (d : Nat) (l : List V) (k : List F → R), frzsK h d l k = (frzs h d l).bind k
  | 0, l, k => by simp [frzsK, frzs]
  | d + 1, [], k => by simp [frzsK, frzs]
  | d + 1, v :: r, k => by
    unfold frzsK frzs
    rw [frzK_eq]
    cases frz h d v with
    | none => rfl
    | some x =>
      simp only [Option.bind_some]
      rw [frzsK_eq h d r]
      cases frzs h d r <;> rfl
theorem frz1K_eq (h : H) (v : V) (k : V → R) : frz1K h v k = (frzArg h v).bind k := by
  unfold frz1K
  split
  · rename_i cs
    rw [frzsK_eq, show frzArg h (.agg cs) = (frzs h 1000000 cs).map fun l => .agg (l.map .f) from rfl]
    cases frzs h 1000000 cs <;> rfl
  · rename_i n cs
    have e : frz h 1000000 (.lit n cs) = (frzs h 999999 cs).map (.lst n) := by
      rw [show (1000000 : Nat) = 999999 + 1 from rfl, frz]
    rw [frzsK_eq, show frzArg h (.lit n cs) = (frz h 1000000 (.lit n cs)).map .f from rfl, e]
    cases frzs h 999999 cs <;> rfl
  · rename_i i off n es
    split
    · rename_i cs hc
      unfold frzArg deep
      simp only [frz, hc]
      split <;> rfl
    · rfl
  · rfl
theorem frzArgsK_eq (h : H) : ∀ (l : List V) (k : List V → R), frzArgsK h l k = (frzArgs h l).bind k
  | [], k => rfl
  | v :: r, k => by
    unfold frzArgsK frzArgs
    rw [frz1K_eq]
    cases frzArg h v with
    | none => rfl
    | some x =>
      simp only [Option.bind_some]
      rw [frzArgsK_eq h r]
      cases frzArgs h r <;> rfl
theorem frzResK_eq (h : H) (v : V) (k : V → R) : frzResK h v k = (frzRes h v).bind k := by
  unfold frzResK frzRes
  split
  · rw [frzArgsK_eq]; cases frzArgs h _ <;> rfl
  · exact frz1K_eq h v k
/-- natural in a continuation of lists; of lists and heaps -/
structure NatL (f : (List V → R) → R) : Prop where out : ∀ kk, f kk = onV (f fun l => idV (.tup l)) fun v => (match v with | .tup l => kk l | _ => none)
structure NatLH (f : (List V → H → R) → R) : Prop where out : ∀ kk kp, f kk = onCall (f fun l h => idK (.tup l) h) (fun v h => (match v with | .tup l => kk l h | _ => none)) kp
theorem coe1_nat (z : Value) (v : V) : NatV (coe1 z v) := by
  unfold coe1; split <;> exact NatV.bind _ fun _ => NatV.ret _
theorem NatV.chain {f : (V → R) → R} (hf : NatV f) {g : V → (V → R) → R} (hg : ∀ v, NatV (g v)) : NatV fun kk => f fun v => g v kk := by
  constructor; intro kk
  rw [hf.out (fun v => g v kk), hf.out (fun v => g v idV)]
  cases f idV with
  | none => rfl
  | some r => obtain ⟨o, _⟩ := r; cases o with
    | ret v => exact (hg v).out kk
    | pan v => rfl
theorem coeN_nat : ∀ (zs : List Value) (i : Nat) (cs : List V), NatL (coeN zs i cs)
  | [], i, cs => ⟨fun kk => by unfold coeN; split <;> rfl⟩
  | z :: zs, i, cs => ⟨fun kk => by
      unfold coeN
      cases cs[i]? with
      | none => rfl
      | some v =>
        simp only [Option.bind_some]
        rw [(coe1_nat z v).out (fun v' => coeN zs (i + 1) cs fun l => kk (v' :: l)), (coe1_nat z v).out (fun v' => coeN zs (i + 1) cs fun l => idV (.tup (v' :: l)))]
        cases coe1 z v idV with
        | none => rfl
        | some r => obtain ⟨o, _⟩ := r; cases o with
          | pan v => rfl
          | ret v' =>
            simp only [onV]
            rw [(coeN_nat zs (i + 1) cs).out (fun l => kk (v' :: l)), (coeN_nat zs (i + 1) cs).out (fun l => idV (.tup (v' :: l)))]
            cases coeN zs (i + 1) cs (fun l => idV (.tup l)) with
            | none => rfl
            | some r => obtain ⟨o, _⟩ := r; cases o with
              | pan v => rfl
              | ret u => simp only [onV]; cases u <;> rfl⟩
theorem NatL.toV {f : (List V → R) → R} (hf : NatL f) (c : List V → V) : NatV fun kk => f fun l => kk (c l) := by
  constructor; intro kk
  rw [hf.out (fun l => kk (c l)), hf.out (fun l => idV (c l))]
  cases f (fun l => idV (.tup l)) with
  | none => rfl
  | some r => obtain ⟨o, _⟩ := r; cases o with
    | pan v => rfl
    | ret u => simp only [onV]; cases u <;> rfl
theorem NatL.ret (l : List V) : NatL fun kk => kk l := ⟨fun _ => rfl⟩
theorem coeFN_nat : ∀ (zs : List Value) (i : Nat) (cs : List F), NatL (coeFN zs i cs)
  | [], i, cs => ⟨fun kk => rfl⟩
  | z :: zs, i, cs => ⟨fun kk => by
      unfold coeFN
      cases cs[i]? with
      | none => rfl
      | some x =>
        simp only [Option.bind_some]
        rw [(coeF_nat z x).out (fun v' => coeFN zs (i + 1) cs fun l => kk (v' :: l)), (coeF_nat z x).out (fun v' => coeFN zs (i + 1) cs fun l => idV (.tup (v' :: l)))]
        cases coeF z x idV with
        | none => rfl
        | some r => obtain ⟨o, _⟩ := r; cases o with
          | pan v => rfl
          | ret v' =>
            simp only [onV]
            rw [(coeFN_nat zs (i + 1) cs).out (fun l => kk (v' :: l)), (coeFN_nat zs (i + 1) cs).out (fun l => idV (.tup (v' :: l)))]
            cases coeFN zs (i + 1) cs (fun l => idV (.tup l)) with
            | none => rfl
            | some r => obtain ⟨o, _⟩ := r; cases o with
              | pan v => rfl
              | ret u => simp only [onV]; cases u <;> rfl⟩
theorem coeFA_nat (z : Value) (n off : Nat) (cs : List F) : NatV fun kk => coeFA z n off cs fun l => kk (.agg l) := by
  unfold coeFA
  split
  · exact NatV.ite _ ((coeFN_nat _ _ _).toV _) NatV.none
  · exact NatV.none
theorem load_nat (P : Program) (t : TypeId) (a : V) (h : H) : NatV (load P t a h) := by
  unfold load; refine NatV.bind _ fun ag => NatV.ite _ ?_ ?_
  · refine NatV.bind _ fun n => ?_
    split
    · split
      · exact NatV.ite _ (NatV.ret _) NatV.none
      · exact coeFA_nat ..
      · exact NatV.none
    · exact coeFA_nat ..
    · exact NatV.none
  · split
    · exact load1_nat ..
    · exact ldF_nat ..
    · exact NatV.none
theorem store_nat (P : Program) (t : TypeId) (a v : V) (h : H) : NatH (store P t a v h) := by
  unfold store; refine NatH.bind _ fun n => NatH.bind _ fun cs => ?_
  split
  · simp only [wrK_eq]; exact NatH.ite _ (NatH.bindK _) NatH.none
  · exact NatH.none
theorem part_nat (P : Program) (t : TypeId) (cs : List V) (off : Nat) : NatV (part P t cs off) := by
  unfold part; refine NatV.bind _ fun ag => NatV.ite _ (NatV.bind _ fun _ => NatV.ret _) (NatV.bind _ fun v => coe_nat _ v)
theorem field_nat (P : Program) (t : TypeId) (x : V) (i : Nat) : NatV (field P t x i) := by
  unfold field; refine NatV.bind _ fun f => ?_
  split
  · exact part_nat ..
  · exact NatV.none
theorem build_nat (P : Program) (t : TypeId) (ps : List (Nat × V)) : NatV (build P t ps) := by
  unfold build; refine NatV.bind _ fun z => ?_
  split
  · exact NatV.bind _ fun _ => NatV.bind _ fun _ => NatV.ret _
  · exact NatV.bind _ fun _ => NatV.bind _ fun _ => NatV.ret _
  · exact NatV.none
theorem buildSlice_nat (P : Program) (t : TypeId) (n : Nat) (ps : List (Nat × V)) (ob : Bool) (h : H) : NatK (buildSlice P t n ps ob h) := by
  unfold buildSlice
  exact NatK.bind _ fun e => NatK.bind _ fun es => NatK.bind _ fun _ => NatK.bind _ fun cs => NatK.ite _ (NatK.ite _ (NatK.ret _ _) (NatK.ret _ _)) NatK.none
theorem app_nat (es b : Nat) (s : V) (n : Nat) (xs : List V) (h : H) : NatK (app es b s n xs h) := by
  unfold app; refine NatK.ite _ ?_ NatK.none
  split
  · exact NatK.ite _ (NatK.ret _ _) NatK.none
  · exact NatK.ite _ (NatK.ret _ _) (NatK.ite _ (NatK.ret _ _) NatK.none)
  · refine NatK.ite _ ?_ NatK.none
    split
    · refine NatK.ite _ ?_ NatK.none
      split <;> exact NatK.ret _ _
    · exact NatK.ite _ (NatK.ret _ _) NatK.none
    · exact NatK.none
  · exact NatK.none
theorem appF_nat (es b : Nat) (s : V) (n : Nat) (xs : List F) (h : H) : NatK (appF es b s n xs h) := by
  unfold appF; refine NatK.ite _ ?_ NatK.none
  split
  · exact NatK.ite _ (NatK.ret _ _) NatK.none
  · exact NatK.ite _ (NatK.ret _ _) (NatK.ite _ (NatK.ret _ _) NatK.none)
  · refine NatK.ite _ ?_ NatK.none
    split
    · exact NatK.ite _ (NatK.ret _ _) NatK.none
    · exact NatK.ite _ (NatK.ret _ _) NatK.none
    · exact NatK.none
  · exact NatK.none
theorem append_nat (P : Program) (st xt : TypeId) (s x : V) (h : H) : NatK (append P st xt s x h) := by
  unfold append; refine NatK.bind _ fun e => NatK.bind _ fun es => NatK.bind _ fun b => NatK.bind _ fun _ => ?_
  split
  · exact NatK.ite _ (appF_nat ..) NatK.none
  · exact appF_nat ..
  · split
    · exact NatK.ite _ (appF_nat ..) NatK.none
    · exact NatK.bind _ fun q => app_nat ..
  · exact NatK.bind _ fun q => app_nat ..
  · exact NatK.none
theorem len_nat (P : Program) (t : TypeId) (x : V) (h : H) : NatV (len P t x h) := by
  unfold len; split
  · exact NatV.bind _ fun _ => NatV.ret _
  · exact NatV.ret _
  · split
    · exact NatV.bind _ fun _ => NatV.ret _
    · exact NatV.ret _
    · exact NatV.ret _
    · exact NatV.none
  · split
    · split
      · exact NatV.ret _
      · exact NatV.none
    · exact NatV.ret _
    · exact NatV.none
  · exact NatV.none
theorem makeSlice_nat (P : Program) (t : TypeId) (l c : V) (ob : Bool) (h : H) : NatK (makeSlice P t l c ob h) := by
  unfold makeSlice
  exact NatK.bind _ fun _ => NatK.bind _ fun _ => NatK.bind _ fun _ => NatK.bind _ fun _ => NatK.bind _ fun _ => NatK.ite _ (NatK.ite _ (NatK.bind _ fun _ => NatK.ret _ _) (NatK.bind _ fun _ => NatK.ret _ _)) NatK.none
theorem sliceStr_nat (b : ByteArray) (lo hi : Option V) : NatV (sliceStr b lo hi) := by
  unfold sliceStr; exact NatV.bind _ fun _ => NatV.bind _ fun _ => NatV.ret _
theorem slice_nat (P : Program) (t : TypeId) (x : V) (lo hi mx : Option V) (h : H) : NatV (slice P t x lo hi mx h) := by
  unfold slice; split
  · split
    · unfold slice3
      refine NatV.bind _ fun _ => NatV.bind _ fun _ => NatV.bind _ fun _ => ?_
      split
      · exact NatV.bind _ fun _ => NatV.ite _ (NatV.bind _ fun _ => NatV.ret _) NatV.none
      · exact NatV.bind _ fun _ => NatV.ite _ (NatV.bind _ fun _ => NatV.ret _) NatV.none
      · exact NatV.none
    · exact NatV.none
  · split
    · exact NatV.bind _ fun _ => sliceStr_nat ..
    · refine NatV.bind _ fun es => ?_
      split
      · exact NatV.bind _ fun _ => NatV.bind _ fun _ => NatV.ret _
      · exact NatV.bind _ fun _ => NatV.bind _ fun _ => NatV.ret _
      · exact NatV.ite _ (NatV.bind _ fun _ => NatV.bind _ fun _ => NatV.ret _) NatV.none
      · exact NatV.none
    · refine NatV.bind _ fun es => ?_
      split
      · exact NatV.bind _ fun _ => NatV.bind _ fun _ => NatV.bind _ fun _ => NatV.ret _
      · exact NatV.none
    · exact NatV.none
theorem index_nat (P : Program) (t : TypeId) (x : V) (i : Int) : NatV (index P t x i) := by
  unfold index; split
  · exact NatV.bind _ fun _ => NatV.dite _ (fun _ => NatV.ret _) NatV.none
  · split
    · exact NatV.ite _ (NatV.bind _ fun _ => part_nat ..) NatV.none
    · exact NatV.none
  · exact NatV.none
theorem lookup_nat (P : Program) (t : TypeId) (m i : V) (ok : Bool) (h : H) : NatV (lookup P t m i ok h) := by
  unfold lookup; split
  · refine NatV.bind _ fun q => NatV.bind _ fun key => NatV.bind _ fun z => NatV.ite _ ?_ NatV.none
    dsimp only
    have go : ∀ es : List (Value × F), NatV fun kk => if ok then (match mfind key es with | some x => kk (.tup [.f x, B true]) | none => kk (.tup [vs z, B false])) else coeF z ((mfind key es).getD (.s z)) kk := by
      intro es
      refine NatV.ite _ ?_ (coeF_nat ..)
      split <;> exact NatV.ret _
    split
    · split
      · exact NatV.ite _ (go _) NatV.none
      · exact NatV.none
    · exact go _
    · exact NatV.none
  · exact NatV.none
theorem mapEntry_nat (P : Program) (t : TypeId) (m i : V) (h : H) : NatK (mapEntry P t m i h) := by
  unfold mapEntry; split
  · refine NatK.bind _ fun q => NatK.bind _ fun key => NatK.bind _ fun z => NatK.ite _ ?_ NatK.none
    split
    · split
      · refine NatK.ite _ ?_ NatK.none
        split
        · exact NatK.ret _ _
        · exact NatK.ret _ _
      · exact NatK.none
    · exact NatK.none
  · exact NatK.none
theorem entryStore_nat (m st x : V) (h : H) : NatH (entryStore m st x h) := by
  unfold entryStore; split
  · split
    · exact NatH.bind _ fun _ => NatH.bind _ fun _ => NatH.ite _ (NatH.ret _) NatH.none
    · exact NatH.none
  · exact NatH.none
theorem mapUpdate_nat (P : Program) (t : TypeId) (m i x : V) (h : H) : NatH (mapUpdate P t m i x h) := by
  unfold mapUpdate; split
  · refine NatH.bind _ fun q => NatH.bind _ fun key => NatH.bind _ fun z => ?_
    split
    · split
      · exact NatH.ite _ (NatH.ret _) NatH.none
      · exact NatH.none
    · exact NatH.none
  · exact NatH.none
theorem bytesNew_nat (P : Program) (s d : TypeId) (x : V) (h : H) : NatK (bytesNew P s d x h) := by
  unfold bytesNew; split
  · split
    · exact NatK.ret _ _
    · exact NatK.none
  · exact NatK.ret _ _
  · split
    · refine NatK.ite _ ?_ NatK.none
      split
      · exact NatK.ret _ _
      · exact NatK.none
    · exact NatK.none
  · exact NatK.none
theorem makeMap_nat (P : Program) (t : TypeId) (h : H) : NatK (makeMap P t h) := by
  unfold makeMap; split
  · exact NatK.bind _ fun q => NatK.ret _ _
  · exact NatK.none
theorem clearS_nat (P : Program) (t : TypeId) (x : V) (h : H) : NatK (clearS P t x h) := by
  unfold clearS; refine NatK.bind _ fun e => NatK.bind _ fun es => NatK.bind _ fun z => ?_
  split
  · exact NatK.ret _ _
  · refine NatK.ite _ (NatK.ret _ _) (NatK.ite _ ?_ NatK.none)
    simp only [wrK_eq]
    exact NatK.ofH (NatH.bindK _) (.tup [])
  · exact NatK.none
theorem builtin_nat (P : Program) (b : Builtin) (at_ : Array TypeId) (xs : List V) (h : H) : NatK (builtin P b at_ xs h) := by
  unfold builtin; split
  · exact clearS_nat ..
  · exact NatK.ofV (len_nat ..) _
  · exact append_nat ..
  · exact NatK.ret _ _
  · exact NatK.ret _ _
  · exact NatK.none

theorem coeZ_nat (z : Value) (v : V) : NatV (coeZ z v) := by
  unfold coeZ; split
  · exact NatV.bind _ fun cs => (coeN_nat _ _ _).toV _
  · exact coe1_nat _ _
theorem coeM_nat : ∀ (zs : List Value) (i : Nat) (cs : List V), NatL (coeM zs i cs)
  | [], i, cs => ⟨fun kk => by unfold coeM; split <;> rfl⟩
  | z :: zs, i, cs => ⟨fun kk => by
      unfold coeM
      cases cs[i]? with
      | none => rfl
      | some v =>
        simp only [Option.bind_some]
        rw [(coeZ_nat z v).out (fun v' => coeM zs (i + 1) cs fun l => kk (v' :: l)), (coeZ_nat z v).out (fun v' => coeM zs (i + 1) cs fun l => idV (.tup (v' :: l)))]
        cases coeZ z v idV with
        | none => rfl
        | some r => obtain ⟨o, _⟩ := r; cases o with
          | pan v => rfl
          | ret v' =>
            simp only [onV]
            rw [(coeM_nat zs (i + 1) cs).out (fun l => kk (v' :: l)), (coeM_nat zs (i + 1) cs).out (fun l => idV (.tup (v' :: l)))]
            cases coeM zs (i + 1) cs (fun l => idV (.tup l)) with
            | none => rfl
            | some r => obtain ⟨o, _⟩ := r; cases o with
              | pan v => rfl
              | ret u => simp only [onV]; cases u <;> rfl⟩
theorem coeT_nat (z : Value) (v : V) : NatV (coeT z v) := by
  unfold coeT; split
  · exact NatV.bind _ fun cs => (coeM_nat _ _ _).toV _
  · exact NatV.bind _ fun _ => NatV.bind _ fun _ => NatV.ret _
  · exact coeZ_nat _ _
theorem NatK.no_pan {f : (V → H → R) → R} (hf : NatK f) {v : V} {h : H} (e : f idK = some (.pan v, h)) : False := by
  have := hf.out idK fun _ _ => Option.none
  rw [e] at this; cases this
theorem NatK.chain {f : (V → H → R) → R} (hf : NatK f) {g : V → H → (V → H → R) → R} (hg : ∀ v h, NatK (g v h)) : NatK fun kk => f fun v h => g v h kk := by
  constructor; intro kk kp
  rw [hf.out (fun v h => g v h kk) kp, hf.out (fun v h => g v h idK) idP]
  cases e : f idK with
  | none => rfl
  | some r => obtain ⟨o, h⟩ := r; cases o with
    | ret v => exact (hg v h).out kk kp
    | pan v => exact (hf.no_pan e).elim
theorem NatLH.no_pan {f : (List V → H → R) → R} (hf : NatLH f) {v : V} {h : H} (e : (f fun l h => idK (.tup l) h) = some (.pan v, h)) : False := by
  have := hf.out (fun l h => idK (.tup l) h) fun _ _ => Option.none
  rw [e] at this; cases this
theorem NatLH.toK {f : (List V → H → R) → R} (hf : NatLH f) {g : List V → H → (V → H → R) → R} (hg : ∀ v h, NatK (g v h)) : NatK fun kk => f fun l h => g l h kk := by
  constructor; intro kk kp
  rw [hf.out (fun l h => g l h kk) kp, hf.out (fun l h => g l h idK) idP]
  cases e : f (fun l h => idK (.tup l) h) with
  | none => rfl
  | some r => obtain ⟨o, h⟩ := r; cases o with
    | pan v => exact (hf.no_pan e).elim
    | ret u =>
      simp only [onCall]
      cases u with
      | tup l => exact (hg l h).out kk kp
      | _ => rfl
theorem NatLH.none : NatLH fun _ => none := ⟨fun _ _ => rfl⟩
theorem NatLH.ret (l : List V) (h : H) : NatLH fun kk => kk l h := ⟨fun _ _ => rfl⟩
theorem NatLH.bind {α : Type} (o : Option α) {f : α → (List V → H → R) → R} (h : ∀ a, NatLH (f a)) : NatLH fun kk => o.bind fun a => f a kk := by
  constructor; intro kk kp; cases o with
  | none => rfl
  | some a => exact (h a).out kk kp
theorem NatLH.ite (c : Prop) [Decidable c] {f g : (List V → H → R) → R} (hf : NatLH f) (hg : NatLH g) : NatLH fun kk => if c then f kk else g kk := by
  constructor; intro kk kp; split
  · exact hf.out kk kp
  · exact hg.out kk kp
/-- one more ahead of a list -/
theorem NatLH.cons {f : (V → H → R) → R} (hf : NatK f) {g : H → (List V → H → R) → R} (hg : ∀ h, NatLH (g h)) : NatLH fun kk => f fun v h => g h fun l h' => kk (v :: l) h' := by
  constructor; intro kk kp
  rw [hf.out (fun v h => g h fun l h' => kk (v :: l) h') kp, hf.out (fun v h => g h fun l h' => idK (.tup (v :: l)) h') idP]
  cases e : f idK with
  | none => rfl
  | some r => obtain ⟨o, h⟩ := r; cases o with
    | pan v => exact (hf.no_pan e).elim
    | ret v =>
      simp only [onCall]
      rw [(hg h).out (fun l h' => kk (v :: l) h') kp, (hg h).out (fun l h' => idK (.tup (v :: l)) h') idP]
      cases e : g h (fun l h => idK (.tup l) h) with
      | none => rfl
      | some r => obtain ⟨o, h2⟩ := r; cases o with
        | pan v => exact ((hg h).no_pan e).elim
        | ret u => simp only [onCall]; cases u <;> rfl
theorem NatK.of_eq {f g : (V → H → R) → R} (h : NatK g) (e : ∀ k, f k = g k) : NatK f := by
  have : f = g := funext e
  exact this ▸ h
theorem NatLH.of_eq {f g : (List V → H → R) → R} (h : NatLH g) (e : ∀ k, f k = g k) : NatLH f := by
  have : f = g := funext e
  exact this ▸ h
mutual
theorem reS_nat (n : Nat) (g : H) : ∀ (s : Sh) (z : Value) (v : V) (acc : H), NatK (reS n g s z v acc)
  | .val, z, v, acc => NatK.of_eq (NatK.ofV (coeZ_nat z v) acc) fun k => by unfold reS; rfl
  | .own es, z, v, acc => NatK.of_eq (NatK.bind _ fun _ => NatK.bind _ fun _ => NatK.ret _ _) fun k => by unfold reS; rfl
  | .vec, z, v, acc => NatK.of_eq (NatK.bind _ fun _ => NatK.bind _ fun _ => NatK.ret _ _) fun k => by unfold reS; rfl
  | .mp, z, v, acc => NatK.of_eq (NatK.bind _ fun _ => NatK.bind _ fun _ => NatK.ret _ _) fun k => by unfold reS; rfl
  | .box l, z, v, acc => NatK.of_eq (NatK.bind (asPtr (n + acc.length) v) fun _ => NatK.bind (asCells g (n + acc.length)) fun cs => (reM_nat n g l (zsOf z) 0 cs (acc ++ [Ob.dead])).toK fun cs' acc' => NatK.ret (.ptr (n + acc.length) 0) (acc'.set acc.length (.cells cs'))) fun k => by rw [reS]
  | .st l, z, v, acc => NatK.of_eq (NatK.bind v.agg? fun cs => (reM_nat n g l (zsOf z) 0 cs acc).toK fun cs' acc' => NatK.ret (.agg cs') acc') fun k => by rw [reS]
  | .pin l, z, v, acc => NatK.of_eq (NatK.none) fun k => by unfold reS; rfl
  | .raw, z, v, acc => NatK.of_eq (NatK.none) fun k => by unfold reS; rfl
  | .rows l, z, v, acc => NatK.of_eq (NatK.none) fun k => by unfold reS; rfl
  | .lend l, z, v, acc => NatK.of_eq (NatK.none) fun k => by unfold reS; rfl
  | .lnt, z, v, acc => NatK.of_eq (NatK.none) fun k => by unfold reS; rfl
  | .apin l, z, v, acc => NatK.of_eq (NatK.none) fun k => by unfold reS; rfl
  | .pbox l, z, v, acc => NatK.of_eq (NatK.none) fun k => by unfold reS; rfl
theorem reM_nat (n : Nat) (g : H) : ∀ (l : List Sh) (zs : List Value) (i : Nat) (cs : List V) (acc : H), NatLH (reM n g l zs i cs acc)
  | [], [], i, cs, acc => NatLH.of_eq (NatLH.ite _ (NatLH.ret _ _) NatLH.none) fun k => by unfold reM; rfl
  | s :: l, z :: zs, i, cs, acc => NatLH.of_eq (NatLH.bind cs[i]? fun v => NatLH.cons (reS_nat n g s z v acc) fun acc' => reM_nat n g l zs (i + 1) cs acc') fun k => by rw [reM]
  | [], _ :: _, _, _, _ => NatLH.of_eq (NatLH.none) fun k => by unfold reM; rfl
  | _ :: _, [], _, _, _ => NatLH.of_eq (NatLH.none) fun k => by unfold reM; rfl
end
theorem reR_nat (n : Nat) (g : H) (rs : List Sh) (zs : List Value) (v : V) (acc : H) : NatK (reR n g rs zs v acc) := by
  unfold reR; split
  · exact reS_nat _ _ _ _ _ _
  · exact NatK.ret _ _
  · exact NatK.bind _ fun cs => (reM_nat _ _ _ _ _ _ _).toK fun _ _ => NatK.ret _ _
theorem tidy_nat (po : Pol) (z : Value) (args : List V) (h : H) (v : V) (g : H) : NatK (tidy po z args h v g) := by
  unfold tidy; split
  · exact NatK.ofV (coeU_nat z v) g
  · exact NatK.ofV (coeT_nat z v) h
  · exact NatK.ofV (coeT_nat z v) _
  · split
    · exact (reR_nat _ _ _ _ _ _).chain fun _ _ => NatK.ite _ (NatK.ret _ _) NatK.none
    · exact NatK.bind _ fun cs => (reM_nat _ _ _ _ _ _ _).toK fun _ _ => (reR_nat _ _ _ _ _ _).chain fun _ _ => NatK.ite _ (NatK.ret _ _) NatK.none

/-- An operation, by what it hands on. -/
theorem loadN_nat (P : Program) (keep : Bool) (t : TypeId) (a : V) (h : H) : NatV (loadN P keep t a h) := ⟨fun kk => by
  unfold loadN
  have e1 : load P t a h (fun v => kk (if (keep && isNilSl P t h a) = true then nilS else v)) = onV (load P t a h idV) (fun v => kk (if (keep && isNilSl P t h a) = true then nilS else v)) := (load_nat P t a h).out _
  have e2 : load P t a h (fun v => idV (if (keep && isNilSl P t h a) = true then nilS else v)) = onV (load P t a h idV) (fun v => idV (if (keep && isNilSl P t h a) = true then nilS else v)) := (load_nat P t a h).out _
  rw [e1, e2]
  cases load P t a h idV with
  | none => rfl
  | some q => obtain ⟨o, g⟩ := q; cases o <;> rfl⟩
theorem mkIface_nat (P : Program) (t : TypeId) (v : V) : NatV (mkIface P t v) := by
  unfold mkIface; split
  · exact NatV.ret _
  · exact NatV.ret _
  · exact NatV.none
theorem assertI_nat (P : Program) (t : TypeId) (ok : Bool) (v : V) : NatV (assertI P t ok v) := by
  unfold assertI; split
  · exact NatV.ite _ (NatV.ret _) NatV.none
  · exact NatV.none
theorem goPan_nat (v : V) (h : H) (k kp : V → H → R) : goPan v h kp = onCall (goPan v h idP) k kp := by
  unfold goPan; split <;> rfl
theorem exec_nat (cx : Cx) (o : Oper) (fr : Fr) (h : H) (k kp : V → H → R) : cx.exec o fr h k kp = onCall (cx.exec o fr h idK idP) k kp := by
  unfold Cx.exec
  split
  case h_26 c hop =>
    split
    · split
      · rename_i g cap heq
        cases cx.call g (List.map (cx.ev fr) c.args.toList ++ cap) h with
        | none => rfl
        | some r =>
          obtain ⟨o', h'⟩ := r
          cases o' with
          | pan v => rfl
          | ret v => exact (tidy_nat _ _ _ _ _ _).out k kp
      · rfl
    · exact (builtin_nat _ _ _ _ _).out k kp
    · rfl
  all_goals first
    | rfl
    | exact (NatK.bind _ (fun q => NatK.ite _ (NatK.ret _ _) (NatK.ret _ _))).out k kp
    | exact (NatK.bind _ (fun _ => NatK.ret _ _)).out k kp
    | exact (NatK.ofV (build_nat ..) h).out k kp
    | exact (buildSlice_nat _ _ _ _ _ _).out k kp
    | exact (NatK.ofV (loadN_nat ..) h).out k kp
    | exact (NatK.ofH (store_nat ..) _).out k kp
    | exact (NatK.ofV (binOp_nat ..) h).out k kp
    | exact (NatK.ofV (unOp_nat ..) h).out k kp
    | exact (NatK.ite _ (bytesNew_nat ..) (NatK.ofV (convert_nat ..) h)).out k kp
    | exact (makeSlice_nat _ _ _ _ _ _).out k kp
    | exact (makeMap_nat _ _ _).out k kp
    | exact (NatK.ofV (slice_nat ..) h).out k kp
    | exact (NatK.ofV (field_nat ..) h).out k kp
    | exact (NatK.bind _ (fun _ => NatK.ofV (idx_nat ..) h)).out k kp
    | exact (NatK.bind _ (fun _ => NatK.ofV (index_nat ..) h)).out k kp
    | exact (NatK.ofV (lookup_nat ..) h).out k kp
    | exact (NatK.ofH (mapUpdate_nat ..) _).out k kp
    | exact (mapEntry_nat _ _ _ _ _).out k kp
    | exact (NatK.ofH (entryStore_nat ..) _).out k kp
    | exact (NatK.ofV (mkIface_nat ..) h).out k kp
    | exact goPan_nat _ _ k kp
    | exact (NatK.ofV (assertI_nat ..) h).out k kp
    | exact (NatK.bind _ (fun f => NatK.bind _ fun n => NatK.ite _ NatK.none (NatK.bind _ fun v => NatK.ret _ _))).out k kp
    | exact (NatK.ite _ (NatK.ret _ _) NatK.none).out k kp
    | (split <;> first | rfl | exact (NatK.bind _ (fun _ => NatK.ofV (coe_nat ..) h)).out k kp)
end Go.Abs
