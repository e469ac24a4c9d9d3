/-
  A given row 'it returns true; its arguments read as they did', from what the abstract machine says.
-/
import Derived.Test.YtpchhblgilfejaaAbsRow
set_option autoImplicit false
set_option linter.unusedVariables false
set_option linter.unusedSimpArgs false
namespace Go.Abs
open Go Go.ChangeShapes Go.WideShapes Go.RowKit

/-- an argument of a type, of these cells -/
def argV (P : Program) (t : TypeId) (xs : List F) : V :=
  match agg? P t with
  | some true => .agg (xs.map .f)
  | _ => match xs with
    | [x] => .f x
    | _ => .any
section
variable {H : Type} {enc : TypeId × Value → H} {P : Program} {W W' : World} {ro : Ro}

theorem arg_ok {n base : Nat} {t : TypeId} {v : Value} {d : DataW H} {ps : List MemPlace} (hs : simpleT P n t = true) (hok : Value.okWide P W .any base t v) (hd : DataW.Trod enc P W 0 (fun _ => true) true t v d ps) :
    ∃ xs, Ty P t xs ∧ VRel (fun _ => none) (roOf W) (argV P t xs) v := by
  obtain ⟨fuel, hd⟩ := hd
  obtain ⟨xs, hty, hrel⟩ := trod_ty fuel n hs hd
  refine ⟨xs, hty, ?_⟩
  have one : v.oneCell' = true → agg? P t ≠ some true → VRel (fun _ => none) (roOf W) (argV P t xs) v := by
    intro h1 h2
    have hc : v.cells.toList = [v] := by cases v <;> first | rfl | cases h1
    rw [hc] at hrel
    unfold argV
    split
    · rename_i h3; exact absurd h3 h2
    · have := hrel.len
      split
      · exact hrel.1
      · trivial
  have agg : ∀ cs, v = .agg cs → agg? P t = some true → VRel (fun _ => none) (roOf W) (argV P t xs) v := by
    rintro cs rfl h2
    unfold argV
    rw [h2]
    refine ⟨cs, rfl, hrel, fun x hx => ?_⟩
    obtain ⟨j, hj⟩ := List.getElem?_of_mem hx
    have hlt : j < xs.length := by
      rw [hrel.len]; exact (List.getElem?_eq_some_iff.1 hj).1
    obtain ⟨c, h3, h4⟩ := FRels.get hrel (List.getElem?_eq_getElem hlt)
    have : c = x := by
      have h5 : cs.toList[j]? = some c := h3
      rw [hj] at h5; exact (Option.some.inj h5).symm
    subst this; exact h4.one
  unfold Value.okWide at hok
  split at hok
  · rename_i fs hu
    obtain ⟨cs, rfl, _⟩ := hok
    exact agg cs rfl (by simp [agg?, hu])
  · rename_i k e hu
    obtain ⟨cs, rfl, _⟩ := hok
    exact agg cs rfl (by simp [agg?, hu])
  · rename_i hn1 hn2
    refine one ?_ ?_
    · cases v with
      | agg cs =>
        unfold Cell.okWide Cell.ok at hok
        cases hu : P.underlying t with
        | none => simp [hu] at hok
        | some q => cases q <;> simp [hu] at hok
      | tuple cs =>
        unfold Cell.okWide Cell.ok at hok
        cases hu : P.underlying t with
        | none => simp [hu] at hok
        | some q => cases q <;> simp [hu] at hok
      | _ => rfl
    · intro h2
      simp only [agg?, Option.map_eq_some_iff] at h2
      obtain ⟨d', h3, h4⟩ := h2
      split at h4
      · exact hn1 _ h3
      · exact hn2 _ _ h3
      · cases h4

/-- the arguments -/
inductive Args (P : Program) : List TypeId → List (List F) → Prop
  | nil : Args P [] []
  | cons {t : TypeId} {ts : List TypeId} {xs : List F} {l : List (List F)} : Ty P t xs → Args P ts l → Args P (t :: ts) (xs :: l)
def argVs (P : Program) : List TypeId → List (List F) → List V
  | t :: ts, xs :: l => argV P t xs :: argVs P ts l
  | _, _ => []
theorem args_ok {n base : Nat} : ∀ {ts : List TypeId} {vs : List Value} {ds : List (DataW H)} {ps : List MemPlace}, (∀ t ∈ ts, simpleT P n t = true) → (∀ (j : Nat) t v, ts[j]? = some t → vs[j]? = some v → Value.okWide P W .any base t v) →
    DataW.TrodAll enc P W 0 (fun _ => true) true ts vs ds ps → ∃ l, Args P ts l ∧ VRels (fun _ => none) (roOf W) (argVs P ts l) vs
  | [], [], [], _, _, _, _ => ⟨[], .nil, trivial⟩
  | t :: ts, v :: vs, d :: ds, ps, hs, hok, ⟨p, q, h1, h2, _⟩ => by
    obtain ⟨xs, g1, g2⟩ := arg_ok (hs t (by simp)) (hok 0 t v rfl rfl) h1
    obtain ⟨l, g3, g4⟩ := args_ok (fun t ht => hs t (by simp [ht])) (fun j t v h3 h4 => hok (j + 1) t v (by simpa using h3) (by simpa using h4)) h2
    exact ⟨xs :: l, .cons g1 g3, g2, g4⟩
  | [], _ :: _, _, _, _, _, h => by cases h
  | [], [], _ :: _, _, _, _, h => by cases h
  | _ :: _, [], _, _, _, _, h => by cases h
  | _ :: _, _ :: _, [], _, _, _, h => by cases h

/-- behind the call the arguments read as they did -/
theorem stay_all (hl : laidOutB P = true) (hold : ∀ b, b < W.heap.size → W'.heap[b]? = W.heap[b]?) {sp' : Nat → Bool} : ∀ {ts : List TypeId} {vs : List Value} {ds : List (DataW H)} {ps : List MemPlace},
    (∀ t ∈ ts, P.readableRec t = true ∧ t < P.types.size) → (∀ p ∈ ps, p.block < W.heap.size) → (∀ p ∈ ps, sp' p.block = true) → DataW.TrodAll enc P W 0 (fun _ => true) true ts vs ds ps → DataW.TrodAll enc P W' 0 sp' true ts vs ds ps
  | [], [], [], _, _, _, _, h => h
  | t :: ts, v :: vs, d :: ds, ps, hs, hlt, hsp, ⟨p, q, h1, h2, h3⟩ => by
    subst h3
    refine ⟨p, q, ?_, ?_, rfl⟩
    · refine WideElems.Trod_stays hl (hs t (by simp)).1 (hs t (by simp)).2 h1 (fun x hx => ?_) (fun x hx => hsp x (by simp [hx]))
      have hb := hold x.block (hlt x (by simp [hx]))
      cases x with
      | cell b o => exact World.cell?_heap hb
      | map b => exact hb
    · exact stay_all hl hold (fun t ht => hs t (by simp [ht])) (fun p hp => hlt p (by simp [hp])) (fun p hp => hsp p (by simp [hp])) h2
  | [], _ :: _, _, _, _, _, _, h => by cases h
  | [], [], _ :: _, _, _, _, _, h => by cases h
  | _ :: _, [], _, _, _, _, _, h => by cases h
  | _ :: _, _ :: _, [], _, _, _, _, h => by cases h

theorem keptBut_old (hold : ∀ b, b < W.heap.size → W'.heap[b]? = W.heap[b]?) (hos : W'.os = W.os) (hout : W'.output = W.output) (may : MemPlace → Prop) : W.keptBut W' may := by
  refine ⟨hos, hout, fun i hi => ?_⟩
  rw [hold i hi]
  cases W.heap[i]? with
  | none => rfl
  | some o => cases o <;> simp
/-- THE ROW's OWN: it returns true, and what was there is as it was. -/
theorem post_true {f : Func} {s : ChangeSpec} {apart fresh handsOn again : Bool} {args : Array Value} {ds gs : List (DataW H)} {before : List MemPlace}
    (hW : DataW.Whole enc P f.params.toList s.vars apart W args.toList ds gs before) (hv : s.vars = []) (hl : laidOutB P = true) (hts : ∀ t ∈ f.params.toList, P.readableRec t = true ∧ t < P.types.size)
    {tb : TypeId} (hres : f.resultTypes = #[tb]) (htb : P.underlying tb = some .bool) (hfn : s.fn H (ds ++ gs) = { results := [.lit (.bool true)], args := ds })
    (hold : ∀ b, b < W.heap.size → W'.heap[b]? = W.heap[b]?) (hos : W'.os = W.os) (hout : W'.output = W.output) :
    s.post enc P f apart fresh handsOn again W args (.bool true) W' := by
  have hlt := hW.lt
  have hW0 := hW
  obtain ⟨pa, pv, hA, hV, hps, hz, hn⟩ := hW0
  have hvv : gs = [] ∧ pv = [] := by
    rw [hv] at hV
    cases gs with
    | nil => exact ⟨rfl, hV⟩
    | cons g gs => cases hV
  obtain ⟨rfl, rfl⟩ := hvv
  rw [List.append_nil] at hps
  subst hps
  have res : ∀ (b : Nat) (sp : Nat → Bool) (hd : Bool), DataW.TrodAll enc P W' b sp hd f.resultTypes.toList ((Value.bool true).resultList f.resultTypes.size) [.lit (.bool true)] [] := by
    intro b sp hd
    rw [hres]
    exact ⟨[], [], ⟨1, by simp [DataW.trod, Value.cells, htb]⟩, rfl, rfl⟩
  have arg : ∀ sp : Nat → Bool, (∀ p ∈ before, sp p.block = true) → DataW.TrodAll enc P W' 0 sp true f.params.toList args.toList ds before := fun sp hsp => stay_all hl hold hts hlt hsp hA
  refine ⟨ds, [], before, [], before, [], hW, ?_, ?_, ?_, keptBut_old hold hos hout _, fun _ => ⟨?_, ?_⟩⟩
  · rw [hfn]; exact res _ _ _
  · rw [hfn]; exact arg _ fun p hp => by simpa using hlt p hp
  · rw [hfn, hv]; rfl
  · intro j t r h1 h2
    rw [hres] at h1 h2
    cases j with
    | zero =>
      simp [Value.resultList] at h1 h2
      subst h1; subst h2
      simp [Value.okWide, htb, Cell.okWide, Cell.ok]
    | succ j => simp at h1
  · refine ⟨[.lit (.bool true)] ++ ds, [], [] ++ before, ⟨[] ++ before, [], ?_, ?_, by simp, ?_, ?_⟩, ?_⟩
    · exact trodAll_append (arg _ fun _ _ => rfl) (res _ _ _)
    · rw [hv]; rfl
    · intro b off hp
      have hp' : MemPlace.cell b off ∈ before := by simpa using hp
      have h1 := hz b off hp'
      have h2 := hold b (hlt _ hp')
      unfold World.frozen? at h1 ⊢
      rw [h2]; exact h1
    · intro ha; simpa using hn ha
    · intro p hp _; simpa using hp
end
end Go.Abs
