/-
  Each operation of the abstract machine is told by what it hands to its continuation.
-/
import Derived.Test.YtjhojfedimbpiaaAbs
set_option autoImplicit false
set_option linter.unusedSimpArgs false
set_option linter.unusedVariables false
namespace Go.Abs

/-- what a continuation gets, as a result -/
def idV (v : V) : R := some (.ret v, [])
def idH (h : H) : R := some (.ret .any, h)
def idK (v : V) (h : H) : R := some (.ret v, h)
def idP (v : V) (h : H) : R := some (.pan v, h)
def onV (r : R) (kk : V → R) : R := match r with | some (.ret v, _) => kk v | _ => none
def onH (r : R) (kk : H → R) : R := match r with | some (.ret _, h) => kk h | _ => none

@[simp] theorem onV_none (kk : V → R) : onV none kk = none := rfl
@[simp] theorem onV_id (v : V) (kk : V → R) : onV (idV v) kk = kk v := rfl
@[simp] theorem onH_none (kk : H → R) : onH none kk = none := rfl
@[simp] theorem onH_id (v : H) (kk : H → R) : onH (idH v) kk = kk v := rfl
@[simp] theorem onCall_none (k kp : V → H → R) : onCall none k kp = none := rfl
@[simp] theorem onCall_id (v : V) (h : H) (k kp : V → H → R) : onCall (idK v h) k kp = k v h := rfl
@[simp] theorem onCall_idP (v : V) (h : H) (k kp : V → H → R) : onCall (idP v h) k kp = kp v h := rfl

/-- natural in a continuation of values -/
structure NatV (f : (V → R) → R) : Prop where out : ∀ kk, f kk = onV (f idV) kk
structure NatH (f : (H → R) → R) : Prop where out : ∀ kk, f kk = onH (f idH) kk
structure NatK (f : (V → H → R) → R) : Prop where out : ∀ kk kp, f kk = onCall (f idK) kk kp
theorem NatV.none : NatV fun _ => none := ⟨fun _ => rfl⟩
theorem NatV.ret (v : V) : NatV fun kk => kk v := ⟨fun _ => rfl⟩
theorem NatV.bind {α : Type} (o : Option α) {f : α → (V → R) → R} (h : ∀ a, NatV (f a)) : NatV fun kk => o.bind fun a => f a kk := by
  constructor; intro kk; cases o with
  | none => rfl
  | some a => exact (h a).out kk
theorem NatV.ite (c : Prop) [Decidable c] {f g : (V → R) → R} (hf : NatV f) (hg : NatV g) : NatV fun kk => if c then f kk else g kk := by
  constructor; intro kk; split
  · exact hf.out kk
  · exact hg.out kk
theorem NatV.dite (c : Prop) [Decidable c] {f : c → (V → R) → R} {g : (V → R) → R} (hf : ∀ h, NatV (f h)) (hg : NatV g) : NatV fun kk => if h : c then f h kk else g kk := by
  constructor; intro kk; split
  · exact (hf _).out kk
  · exact hg.out kk
theorem NatH.none : NatH fun _ => none := ⟨fun _ => rfl⟩
theorem NatH.ret (v : H) : NatH fun kk => kk v := ⟨fun _ => rfl⟩
theorem NatH.bindK (o : Option H) : NatH fun kk => o.bind kk := by
  constructor; intro kk; cases o <;> rfl
theorem NatH.bind {α : Type} (o : Option α) {f : α → (H → R) → R} (h : ∀ a, NatH (f a)) : NatH fun kk => o.bind fun a => f a kk := by
  constructor; intro kk; cases o with
  | none => rfl
  | some a => exact (h a).out kk
theorem NatH.ite (c : Prop) [Decidable c] {f g : (H → R) → R} (hf : NatH f) (hg : NatH g) : NatH fun kk => if c then f kk else g kk := by
  constructor; intro kk; split
  · exact hf.out kk
  · exact hg.out kk
theorem NatK.none : NatK fun _ => none := ⟨fun _ _ => rfl⟩
theorem NatK.ret (v : V) (h : H) : NatK fun kk => kk v h := ⟨fun _ _ => rfl⟩
theorem NatK.bind {α : Type} (o : Option α) {f : α → (V → H → R) → R} (h : ∀ a, NatK (f a)) : NatK fun kk => o.bind fun a => f a kk := by
  constructor; intro kk kp; cases o with
  | none => rfl
  | some a => exact (h a).out kk kp
theorem NatK.ite (c : Prop) [Decidable c] {f g : (V → H → R) → R} (hf : NatK f) (hg : NatK g) : NatK fun kk => if c then f kk else g kk := by
  constructor; intro kk kp; split
  · exact hf.out kk kp
  · exact hg.out kk kp
theorem NatK.ofV {f : (V → R) → R} (hf : NatV f) (h : H) : NatK fun kk => f fun v => kk v h := by
  constructor; intro kk kp
  rw [hf.out (fun v => kk v h), hf.out (fun v => idK v h)]
  cases f idV with
  | none => rfl
  | some r => obtain ⟨o, _⟩ := r; cases o <;> rfl
theorem NatK.ofH {f : (H → R) → R} (hf : NatH f) (v : V) : NatK fun kk => f fun h => kk v h := by
  constructor; intro kk kp
  rw [hf.out (fun h => kk v h), hf.out (fun h => idK v h)]
  cases f idH with
  | none => rfl
  | some r => obtain ⟨o, _⟩ := r; cases o <;> rfl

theorem coeF_nat (z : Value) (x : F) : NatV (coeF z x) := by
  unfold coeF; split <;> first | exact NatV.bind _ fun _ => NatV.ret _ | exact NatV.ret _
theorem coe_nat (z : Value) (v : V) : NatV (coe z v) := by
  unfold coe; split <;> first | exact NatV.bind _ fun _ => NatV.ret _ | exact NatV.ret _
theorem load1_nat (z : Value) (h : H) (k off : Nat) : NatV (load1 z h k off) := by
  unfold load1; split
  · exact NatV.bind _ fun v => coe_nat z v
  · exact NatV.bind _ fun v => coeF_nat z v
  · exact NatV.none
theorem intBin_nat (op : BinOp) (k : IntKind) (a b : Int) : NatV (intBin op k a b) := by
  unfold intBin; split <;> first | exact NatV.ret _ | exact NatV.none | exact NatV.ite _ NatV.none (NatV.ret _)
theorem shiftBin_nat (op : BinOp) (k : IntKind) (a b : Int) : NatV (shiftBin op k a b) := by
  unfold shiftBin; refine NatV.ite _ NatV.none ?_; split <;> first | exact NatV.ret _ | exact NatV.none
theorem strBin_nat (op : BinOp) (a b : ByteArray) : NatV (strBin op a b) := by
  unfold strBin; split <;> first | exact NatV.ret _ | exact NatV.none | exact NatV.ite _ NatV.none (NatV.ret _)
theorem binOp_nat (P : Program) (op : BinOp) (t : TypeId) (x y : V) : NatV (binOp P op t x y) := by
  unfold binOp; split
  · split
    · exact shiftBin_nat ..
    · exact shiftBin_nat ..
    · exact NatV.ite _ (intBin_nat ..) NatV.none
  · exact strBin_nat ..
  · split <;> first | exact NatV.ret _ | exact NatV.none
  · exact NatV.none
theorem unOp_nat (op : UnOp) (x : V) : NatV (unOp op x) := by
  unfold unOp; split <;> first | exact NatV.ret _ | exact NatV.none
theorem convert_nat (P : Program) (s d : TypeId) (x : V) (h : H) : NatV (convert P s d x h) := by
  unfold convert; split
  · exact NatV.ret _
  · exact NatV.ret _
  · split
    · exact NatV.bind _ fun _ => NatV.ret _
    · exact NatV.none
  · exact NatV.none
  · exact NatV.none
theorem elem_nat (x : F) (i : Int) (es : Nat) : NatV fun kk => elem x i es fun cs => kk (.f (.fp cs)) := by
  unfold elem; split
  · exact NatV.ite _ (NatV.ret _) NatV.none
  · exact NatV.none
theorem idx_nat (P : Program) (t : TypeId) (x : V) (i : Int) : NatV (idx P t x i) := by
  unfold idx; split
  · refine NatV.bind _ fun es => ?_
    split
    · exact elem_nat _ _ _
    · exact NatV.ite _ (NatV.ret _) NatV.none
    · exact NatV.none
  · refine NatV.bind _ fun es => ?_
    split
    · exact NatV.ite _ (NatV.ret _) NatV.none
    · exact NatV.none
  · exact NatV.none
theorem ldF_nat (z : Value) (p : F) : NatV (ldF z p) := by
  unfold ldF; split
  · exact NatV.bind _ fun x => coeF_nat z x
  · exact NatV.none
theorem rdK_eq (h : H) (k off n : Nat) (kk : List V → R) : rdK h k off n kk = (rd h k off n).bind kk := by
  unfold rdK rd
  split
  · split <;> rfl
  · split <;> rfl
  · rfl
theorem wrK_eq (h : H) (k off : Nat) (v : List V) (kk : H → R) : wrK h k off v kk = (wr h k off v).bind kk := by
  unfold wrK wr
  split
  · split <;> rfl
  · split
    · cases toFs v <;> rfl
    · rfl
  · rfl
theorem frz1K_eq (h : H) (v : V) (k : V → R) : frz1K h v k = (frzArg h v).bind k := by
  unfold frz1K
  split
  · rename_i i off n es
    split
    · rename_i cs hc
      unfold frzArg deep
      simp only [frz, hc]
      split <;> rfl
    · rfl
  · rfl
theorem frzArgsK_eq (h : H) : ∀ (l : List V) (k : List V → R), frzArgsK h l k = (frzArgs h l).bind k
  | [], k => rfl
  | v :: r, k => by
    unfold frzArgsK frzArgs
    rw [frz1K_eq]
    cases frzArg h v with
    | none => rfl
    | some x =>
      simp only [Option.bind_some]
      rw [frzArgsK_eq h r]
      cases frzArgs h r <;> rfl
theorem frzResK_eq (h : H) (v : V) (k : V → R) : frzResK h v k = (frzRes h v).bind k := by
  unfold frzResK frzRes
  split
  · rw [frzArgsK_eq]; cases frzArgs h _ <;> rfl
  · exact frz1K_eq h v k
theorem load_nat (P : Program) (t : TypeId) (a : V) (h : H) : NatV (load P t a h) := by
  unfold load; refine NatV.bind _ fun ag => NatV.ite _ ?_ ?_
  · refine NatV.bind _ fun n => ?_
    split
    · simp only [rdK_eq]; exact NatV.bind _ fun _ => NatV.ret _
    · exact NatV.bind _ fun _ => NatV.ret _
    · exact NatV.none
  · split
    · exact load1_nat ..
    · exact ldF_nat ..
    · exact NatV.none
theorem store_nat (P : Program) (t : TypeId) (a v : V) (h : H) : NatH (store P t a v h) := by
  unfold store; refine NatH.bind _ fun n => NatH.bind _ fun cs => ?_
  split
  · simp only [wrK_eq]; exact NatH.ite _ (NatH.bindK _) NatH.none
  · exact NatH.none
theorem part_nat (P : Program) (t : TypeId) (cs : List V) (off : Nat) : NatV (part P t cs off) := by
  unfold part; refine NatV.bind _ fun ag => NatV.ite _ (NatV.bind _ fun _ => NatV.ret _) (NatV.bind _ fun v => coe_nat _ v)
theorem field_nat (P : Program) (t : TypeId) (x : V) (i : Nat) : NatV (field P t x i) := by
  unfold field; refine NatV.bind _ fun f => ?_
  split
  · exact part_nat ..
  · exact NatV.none
theorem build_nat (P : Program) (t : TypeId) (ps : List (Nat × V)) : NatV (build P t ps) := by
  unfold build; refine NatV.bind _ fun z => ?_
  split
  · exact NatV.bind _ fun _ => NatV.bind _ fun _ => NatV.ret _
  · exact NatV.bind _ fun _ => NatV.bind _ fun _ => NatV.ret _
  · exact NatV.none
theorem buildSlice_nat (P : Program) (t : TypeId) (n : Nat) (ps : List (Nat × V)) (ob : Bool) (h : H) : NatK (buildSlice P t n ps ob h) := by
  unfold buildSlice
  exact NatK.bind _ fun e => NatK.bind _ fun es => NatK.bind _ fun _ => NatK.bind _ fun cs => NatK.ite _ (NatK.ite _ (NatK.ret _ _) (NatK.ret _ _)) NatK.none
theorem app_nat (es b : Nat) (s : V) (n : Nat) (xs : List V) (h : H) : NatK (app es b s n xs h) := by
  unfold app; refine NatK.ite _ ?_ NatK.none
  split
  · exact NatK.ite _ (NatK.ret _ _) NatK.none
  · refine NatK.ite _ ?_ NatK.none
    split
    · refine NatK.ite _ ?_ NatK.none
      split <;> exact NatK.ret _ _
    · exact NatK.ite _ (NatK.ret _ _) NatK.none
    · exact NatK.none
  · exact NatK.none
theorem appF_nat (es b : Nat) (s : V) (n : Nat) (xs : List F) (h : H) : NatK (appF es b s n xs h) := by
  unfold appF; refine NatK.ite _ ?_ NatK.none
  split
  · exact NatK.ite _ (NatK.ret _ _) NatK.none
  · refine NatK.ite _ ?_ NatK.none
    split
    · exact NatK.ite _ (NatK.ret _ _) NatK.none
    · exact NatK.ite _ (NatK.ret _ _) NatK.none
    · exact NatK.none
  · exact NatK.none
theorem append_nat (P : Program) (st xt : TypeId) (s x : V) (h : H) : NatK (append P st xt s x h) := by
  unfold append; refine NatK.bind _ fun e => NatK.bind _ fun es => NatK.bind _ fun b => NatK.bind _ fun _ => ?_
  split
  · exact NatK.ite _ (appF_nat ..) NatK.none
  · exact appF_nat ..
  · split
    · exact NatK.ite _ (appF_nat ..) NatK.none
    · exact NatK.bind _ fun q => app_nat ..
  · exact NatK.bind _ fun q => app_nat ..
  · exact NatK.none
theorem len_nat (P : Program) (t : TypeId) (x : V) (h : H) : NatV (len P t x h) := by
  unfold len; split
  · exact NatV.bind _ fun _ => NatV.ret _
  · exact NatV.ret _
  · split
    · exact NatV.bind _ fun _ => NatV.ret _
    · exact NatV.ret _
    · exact NatV.ret _
    · exact NatV.none
  · split
    · split
      · exact NatV.ret _
      · exact NatV.none
    · exact NatV.ret _
    · exact NatV.none
  · exact NatV.none
theorem makeSlice_nat (P : Program) (t : TypeId) (l c : V) (ob : Bool) (h : H) : NatK (makeSlice P t l c ob h) := by
  unfold makeSlice
  exact NatK.bind _ fun _ => NatK.bind _ fun _ => NatK.bind _ fun _ => NatK.bind _ fun _ => NatK.bind _ fun _ => NatK.ite _ (NatK.ite _ (NatK.bind _ fun _ => NatK.ret _ _) (NatK.bind _ fun _ => NatK.ret _ _)) NatK.none
theorem sliceStr_nat (b : ByteArray) (lo hi : Option V) : NatV (sliceStr b lo hi) := by
  unfold sliceStr; exact NatV.bind _ fun _ => NatV.bind _ fun _ => NatV.ret _
theorem slice_nat (P : Program) (t : TypeId) (x : V) (lo hi mx : Option V) (h : H) : NatV (slice P t x lo hi mx h) := by
  unfold slice; split
  · exact NatV.none
  · split
    · exact NatV.bind _ fun _ => sliceStr_nat ..
    · refine NatV.bind _ fun es => ?_
      split
      · exact NatV.bind _ fun _ => NatV.bind _ fun _ => NatV.ret _
      · exact NatV.bind _ fun _ => NatV.bind _ fun _ => NatV.ret _
      · exact NatV.ite _ (NatV.bind _ fun _ => NatV.bind _ fun _ => NatV.ret _) NatV.none
      · exact NatV.none
    · refine NatV.bind _ fun es => ?_
      split
      · exact NatV.bind _ fun _ => NatV.bind _ fun _ => NatV.bind _ fun _ => NatV.ret _
      · exact NatV.none
    · exact NatV.none
theorem index_nat (P : Program) (t : TypeId) (x : V) (i : Int) : NatV (index P t x i) := by
  unfold index; split
  · exact NatV.bind _ fun _ => NatV.dite _ (fun _ => NatV.ret _) NatV.none
  · split
    · exact NatV.ite _ (NatV.bind _ fun _ => part_nat ..) NatV.none
    · exact NatV.none
  · exact NatV.none
theorem lookup_nat (P : Program) (t : TypeId) (m i : V) (ok : Bool) (h : H) : NatV (lookup P t m i ok h) := by
  unfold lookup; split
  · refine NatV.bind _ fun q => NatV.bind _ fun key => NatV.bind _ fun z => NatV.ite _ ?_ NatV.none
    dsimp only
    have go : ∀ es : List (Value × F), NatV fun kk => if ok then (match mfind key es with | some x => kk (.tup [.f x, B true]) | none => kk (.tup [vs z, B false])) else coeF z ((mfind key es).getD (.s z)) kk := by
      intro es
      refine NatV.ite _ ?_ (coeF_nat ..)
      split <;> exact NatV.ret _
    split
    · split
      · exact NatV.ite _ (go _) NatV.none
      · exact NatV.none
    · exact go _
    · exact NatV.none
  · exact NatV.none
theorem mapUpdate_nat (P : Program) (t : TypeId) (m i x : V) (h : H) : NatH (mapUpdate P t m i x h) := by
  unfold mapUpdate; split
  · refine NatH.bind _ fun q => NatH.bind _ fun key => NatH.bind _ fun z => ?_
    split
    · split
      · exact NatH.ite _ (NatH.ret _) NatH.none
      · exact NatH.none
    · exact NatH.none
  · exact NatH.none
theorem makeMap_nat (P : Program) (t : TypeId) (h : H) : NatK (makeMap P t h) := by
  unfold makeMap; split
  · exact NatK.bind _ fun q => NatK.ret _ _
  · exact NatK.none
theorem builtin_nat (P : Program) (b : Builtin) (at_ : Array TypeId) (xs : List V) (h : H) : NatK (builtin P b at_ xs h) := by
  unfold builtin; split
  · exact NatK.ofV (len_nat ..) _
  · exact append_nat ..
  · exact NatK.ret _ _
  · exact NatK.ret _ _
  · exact NatK.none

/-- An operation, by what it hands on. -/
theorem exec_nat (cx : Cx) (o : Oper) (fr : Fr) (h : H) (k kp : V → H → R) : cx.exec o fr h k kp = onCall (cx.exec o fr h idK idP) k kp := by
  unfold Cx.exec
  split
  case h_24 c hop =>
    split
    · split
      · rename_i g cap heq
        cases cx.call g (List.map (cx.ev fr) c.args.toList ++ cap) h with
        | none => rfl
        | some r =>
          obtain ⟨o', h'⟩ := r
          cases o' with
          | pan v => rfl
          | ret v => exact (NatK.ofV (coe_nat _ v) h').out k kp
      · rfl
    · exact (builtin_nat _ _ _ _ _).out k kp
    · rfl
  all_goals first
    | rfl
    | exact (NatK.bind _ (fun q => NatK.ite _ (NatK.ret _ _) (NatK.ret _ _))).out k kp
    | exact (NatK.bind _ (fun _ => NatK.ret _ _)).out k kp
    | exact (NatK.ofV (build_nat ..) h).out k kp
    | exact (buildSlice_nat _ _ _ _ _ _).out k kp
    | exact (NatK.ofV (load_nat ..) h).out k kp
    | exact (NatK.ofH (store_nat ..) _).out k kp
    | exact (NatK.ofV (binOp_nat ..) h).out k kp
    | exact (NatK.ofV (unOp_nat ..) h).out k kp
    | exact (NatK.ofV (convert_nat ..) h).out k kp
    | exact (makeSlice_nat _ _ _ _ _ _).out k kp
    | exact (makeMap_nat _ _ _).out k kp
    | exact (NatK.ofV (slice_nat ..) h).out k kp
    | exact (NatK.ofV (field_nat ..) h).out k kp
    | exact (NatK.bind _ (fun _ => NatK.ofV (idx_nat ..) h)).out k kp
    | exact (NatK.bind _ (fun _ => NatK.ofV (index_nat ..) h)).out k kp
    | exact (NatK.ofV (lookup_nat ..) h).out k kp
    | exact (NatK.ofH (mapUpdate_nat ..) _).out k kp
    | exact (NatK.bind _ (fun f => NatK.bind _ fun n => NatK.ite _ NatK.none (NatK.bind _ fun v => NatK.ret _ _))).out k kp
    | (split <;> first | rfl | exact (NatK.bind _ (fun _ => NatK.ofV (coe_nat ..) h)).out k kp)
end Go.Abs
