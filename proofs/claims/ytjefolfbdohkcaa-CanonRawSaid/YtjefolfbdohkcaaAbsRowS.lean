/-
  Rows of laws whose arguments' types hold themselves.
-/
import Derived.Test.YtjefolfbdohkcaaAbsRow3
set_option autoImplicit false
set_option linter.unusedVariables false
set_option linter.unusedSimpArgs false
namespace Go.Abs
open Go Go.ChangeShapes Go.WideShapes Go.RowKit
/-- a type that is read so, where those in it are -/
def simple1 (P : Program) (S : TypeId → Prop) (t : TypeId) : Prop :=
  match P.underlying t with
  | some .bool => True
  | some (.int _) => True
  | some .string => True
  | some (.slice e) => 0 < P.cellsOf e ∧ S e
  | some (.struct fs) => tiles P 0 fs.toList = some (P.cellsOf t) ∧ ∀ f ∈ fs.toList, S f.type
  | some (.array k e) => P.cellsOf t = k * P.cellsOf e ∧ S e
  | _ => False
/-- types that hold one another alone -/
def simpleL (P : Program) (S : List TypeId) : Bool := S.all fun t =>
  match P.underlying t with
  | some .bool => true
  | some (.int _) => true
  | some .string => true
  | some (.slice e) => decide (0 < P.cellsOf e) && S.contains e
  | some (.struct fs) => decide (tiles P 0 fs.toList = some (P.cellsOf t)) && fs.toList.all fun f => S.contains f.type
  | some (.array k e) => decide (P.cellsOf t = k * P.cellsOf e) && S.contains e
  | _ => false
theorem simpleL_ok {P : Program} {S : List TypeId} (h : simpleL P S = true) : ∀ t, t ∈ S → simple1 P (fun t => t ∈ S) t := by
  intro t ht
  have hs := List.all_eq_true.1 h t ht
  unfold simple1
  cases hu : P.underlying t with
  | none => rw [hu] at hs; cases hs
  | some d =>
    rw [hu] at hs
    cases d <;> simp_all
    intro f hf
    obtain ⟨i, hi, rfl⟩ := Array.getElem_of_mem hf
    exact hs.2 i hi
section
variable {H : Type} {enc : TypeId × Value → H} {P : Program} {w W W' : World} {ro : Ro}
theorem trod_tyS {S : TypeId → Prop} (hS : ∀ t, S t → simple1 P S t) : ∀ (fuel : Nat) {t : TypeId} {cs : List Value} {d : DataW H} {ps : List MemPlace}, S t → DataW.trod enc P w 0 (fun _ => true) true fuel t cs = some (d, ps) → ∃ xs, Ty P t xs ∧ FRels (roOf w) xs cs := by
  intro fuel
  induction fuel with
  | zero => intro t cs d ps _ h; simp [DataW.trod] at h
  | succ fuel ih =>
    intro t cs d ps hs h
    · replace hs := hS t hs
      unfold simple1 at hs
      split at hs
      · rename_i hu
        obtain ⟨b, rfl, _⟩ := DataW.trod_bool hu h
        exact ⟨_, .bool b hu, FRels.s rfl⟩
      · rename_i k hu
        obtain ⟨m, rfl, _, hw⟩ := DataW.trod_int hu h
        exact ⟨_, .int m hu hw, FRels.s rfl⟩
      · rename_i hu
        obtain ⟨s, rfl, _, hw⟩ := DataW.trod_string hu h
        exact ⟨_, .str s hu hw, FRels.s rfl⟩
      · rename_i e hu
        skip
        rcases DataW.trod_slice hu h with ⟨rfl, _⟩ | ⟨a, len, cap, elems, rest, m, hm, rfl, _, h1, h2, h3, h4, h5, _, _⟩
        · exact ⟨_, .slice (e := e) [] hu (by simp) (by simp) (by simp), FRels.one ⟨none, 0, rfl, Nat.le_refl _, .inl ⟨rfl, rfl⟩⟩⟩
        · cases hm
          have each : ∀ i, i < len → ∃ xs cs', w.cells? 0 (a.add (i * P.cellsOf e)) (P.cellsOf e) = some cs' ∧ Ty P e xs ∧ FRels (roOf w) xs cs' := by
            intro i hi
            have he := h5 i hi
            obtain ⟨y, hy⟩ : ∃ y, elems[i]? = some y := ⟨_, List.getElem?_eq_getElem (by omega)⟩
            rw [hy, Option.bind_eq_some_iff] at he
            obtain ⟨cs', hc, he⟩ := he
            obtain ⟨xs, g1, g2⟩ := ih hs.2 he
            exact ⟨xs, cs', hc, g1, g2⟩
          obtain ⟨g, hg⟩ : ∃ g : Nat → List F, ∀ i, i < len → ∃ cs', w.cells? 0 (a.add (i * P.cellsOf e)) (P.cellsOf e) = some cs' ∧ Ty P e (g i) ∧ FRels (roOf w) (g i) cs' := by
            refine ⟨fun i => if hi : i < len then (each i hi).choose else [], fun i hi => ?_⟩
            dsimp only; rw [dif_pos hi]; exact (each i hi).choose_spec
          have hlen : ∀ i, i < len → (g i).length = P.cellsOf e := fun i hi => by
            obtain ⟨cs', c1, _, c3⟩ := hg i hi
            rw [c3.len]; exact (cells_get c1).1
          refine ⟨[.lst ((List.range len).map g).length ((List.range len).map g).flatten], .slice _ hu (by simp; omega) (fun p hp => ?_) (fun p hp => ?_), FRels.one ?_⟩
          · obtain ⟨i, hi, rfl⟩ := List.mem_map.1 hp
            exact hlen i (List.mem_range.1 hi)
          · obtain ⟨i, hi, rfl⟩ := List.mem_map.1 hp
            obtain ⟨_, _, c2, _⟩ := hg i (List.mem_range.1 hi)
            exact c2
          · rw [List.length_map, List.length_range]
            refine ⟨some a, cap, rfl, h2, ?_⟩
            by_cases h0 : len = 0
            · left; subst h0; simp
            · right
              obtain ⟨cs0, c1, _, _⟩ := hg 0 (by omega)
              have hsp : a.spot = none := by
                obtain ⟨e1, e2⟩ := cells_get c1
                have := e2 0 hs.1
                rw [Nat.zero_mul] at this
                have h6 : (a.add 0).add 0 = a := by simp [Addr.add]
                rw [h6] at this
                have h7 : cs0[0]?.isSome := by simp [e1, hs.1]
                rw [this] at h7
                unfold World.cell? at h7
                split at h7
                · split at h7
                  · cases h7
                  · rename_i hh; simpa using hh
                · cases h7
              obtain ⟨b, o, sp⟩ := a
              simp only at hsp
              subst hsp
              refine ⟨b, o, rfl, ?_⟩
              have key : ∀ m k, k + m ≤ len → FCells (roOf w) ((List.range' k m).map g).flatten b (o + k * P.cellsOf e) := by
                intro m
                induction m with
                | zero => intro k _; exact trivial
                | succ m ihm =>
                  intro k hk
                  rw [List.range'_succ, List.map_cons, List.flatten_cons]
                  refine FCells.append ?_ ?_
                  · obtain ⟨cs', c1, c2, c3⟩ := hg k (by omega)
                    obtain ⟨e1, e2⟩ := cells_get c1
                    refine FCells.mk fun j x hx => ?_
                    obtain ⟨c, d1, d2⟩ := FRels.get c3 hx
                    refine ⟨c, ?_, d2⟩
                    have hj : j < P.cellsOf e := by rw [← e1]; exact (List.getElem?_eq_some_iff.1 d1).1
                    have := e2 j hj
                    rw [d1, add_at, add_at] at this
                    exact this.symm
                  · rw [hlen k (by omega)]
                    have := ihm (k + 1) (by omega)
                    rw [show o + k * P.cellsOf e + P.cellsOf e = o + (k + 1) * P.cellsOf e by rw [Nat.add_mul]; omega]
                    exact this
              have := key len 0 (by omega)
              rw [List.range_eq_range']
              simpa using this
      · rename_i fs hu
        skip
        obtain ⟨xs, m, hm, _, hl, hlen, hf⟩ := DataW.trod_struct hu h
        cases hm
        have each : ∀ i, i < fs.size → ∃ ys, ∀ f, fs[i]? = some f → Ty P f.type ys ∧ FRels (roOf w) ys ((cs.drop f.offset).take (P.cellsOf f.type)) := by
          intro i hi
          have hf1 := hf i fs[i] (by simp [hi])
          obtain ⟨y, hy⟩ : ∃ y, xs[i]? = some y := ⟨_, List.getElem?_eq_getElem (by omega)⟩
          rw [hy] at hf1
          have hsi := hs.2 fs[i] (by simp)
          obtain ⟨ys, g1, g2⟩ := ih hsi hf1
          refine ⟨ys, fun f hff => ?_⟩
          have : fs[i] = f := by simpa [hi] using hff
          subst this; exact ⟨g1, g2⟩
        obtain ⟨g, hg⟩ : ∃ g : Nat → List F, ∀ i, i < fs.size → ∀ f, fs[i]? = some f → Ty P f.type (g i) ∧ FRels (roOf w) (g i) ((cs.drop f.offset).take (P.cellsOf f.type)) := by
          refine ⟨fun i => if hi : i < fs.size then (each i hi).choose else [], fun i hi => ?_⟩
          dsimp only; rw [dif_pos hi]; exact (each i hi).choose_spec
        -- where the fields stand
        have til : ∀ (l : List Field) (o q : Nat), tiles P o l = some q → ∀ i, i ≤ l.length → ((l[i]?.map (·.offset)).getD q) = o + ((l.take i).map fun f => P.cellsOf f.type).sum ∧ q = o + (l.map fun f => P.cellsOf f.type).sum := by
          intro l
          induction l with
          | nil => intro o q hq i hi; simp [tiles] at hq; subst hq; simp
          | cons f l ihl =>
            intro o q hq i hi
            unfold tiles at hq
            split at hq
            · rename_i ho
              obtain ⟨_, g2⟩ := ihl _ _ hq 0 (Nat.zero_le _)
              cases i with
              | zero => simp [ho]; rw [g2]; omega
              | succ i =>
                obtain ⟨g1, g2⟩ := ihl _ _ hq i (by simpa using hi)
                simp only [List.getElem?_cons_succ, List.take_succ_cons, List.map_cons, List.sum_cons]
                exact ⟨by rw [g1]; omega, by rw [g2]; omega⟩
            · cases hq
        let off : Nat → Nat := fun i => ((fs.toList.take i).map fun f => P.cellsOf f.type).sum
        have hoff : ∀ i (hi : i < fs.size), fs[i].offset = off i := fun i hi => by
          have := (til _ _ _ hs.1 i (by simp; omega)).1
          simp only [off]; rw [List.map_take]; simpa [hi] using this
        have hplen : ∀ (i : Nat) f p, fs[i]? = some f → ((List.range fs.size).map g)[i]? = some p → i < fs.size ∧ p = g i := by
          intro i f p h1 h2
          have hi : i < fs.size := (Array.getElem?_eq_some_iff.1 h1).1
          simp [hi] at h2
          exact ⟨hi, h2.symm⟩
        have hfull : FRels (roOf w) ((List.range fs.size).map g).flatten cs := by
          refine pieces (off := off) (len := fun i => ((fs[i]?).map fun f => P.cellsOf f.type).getD 0) (N := 0) rfl ?_ ?_ ?_
          · intro i hi
            simp only [List.length_map, List.length_range] at hi
            simp only [off]
            have h8 : fs.toList.take (i + 1) = fs.toList.take i ++ [fs[i]] := by
              rw [List.take_add_one]; simp [hi]
            rw [h8, List.map_append, List.sum_append]
            simp [hi]
          · simp only [List.length_map, List.length_range, off]
            rw [hl]
            have := (til _ _ _ hs.1 0 (Nat.zero_le _)).2
            rw [this, List.take_of_length_le (by simp)]; simp
          · intro i p hp
            have hi : i < fs.size := by
              have := (List.getElem?_eq_some_iff.1 hp).1
              simpa using this
            simp [hi] at hp
            subst hp
            have := (hg i hi fs[i] (by simp [hi])).2
            rw [hoff i hi] at this
            simpa [hi] using this
        refine ⟨_, .struct ((List.range fs.size).map g) hu (by simp) (fun i f p h1 h2 => ?_) (fun i f p h1 h2 => ?_), hfull⟩
        · obtain ⟨hi, rfl⟩ := hplen i f p h1 h2
          obtain ⟨_, g2⟩ := hg i hi f h1
          have hl2 := g2.len
          rw [hl2, List.length_take, List.length_drop]
          have hfi : fs[i] = f := by simpa [hi] using h1
          have h9 := hoff i hi
          rw [hfi] at h9
          have h10 := (til _ _ _ hs.1 0 (Nat.zero_le _)).2
          have h11 : off (i + 1) = off i + P.cellsOf f.type := by
            simp only [off]
            have h8 : fs.toList.take (i + 1) = fs.toList.take i ++ [fs[i]] := by
              rw [List.take_add_one]; simp [hi]
            rw [h8, List.map_append, List.sum_append, hfi]
            simp
          have h12 : off (i + 1) ≤ P.cellsOf t := by
            rw [h10]
            have : (fs.toList.map fun f => P.cellsOf f.type).sum = off (i + 1) + ((fs.toList.drop (i + 1)).map fun f => P.cellsOf f.type).sum := by
              simp only [off]
              rw [← List.sum_append, ← List.map_append, List.take_append_drop]
            omega
          omega
        · obtain ⟨hi, rfl⟩ := hplen i f p h1 h2
          exact (hg i hi f h1).1
      · rename_i k e hu
        skip
        obtain ⟨xs, m, hm, _, hl, hlen, hf⟩ := DataW.trod_array hu h
        cases hm
        have each : ∀ i, i < k → ∃ ys, Ty P e ys ∧ FRels (roOf w) ys ((cs.drop (i * P.cellsOf e)).take (P.cellsOf e)) := by
          intro i hi
          have hf1 := hf i hi
          obtain ⟨y, hy⟩ : ∃ y, xs[i]? = some y := ⟨_, List.getElem?_eq_getElem (by omega)⟩
          rw [hy] at hf1
          exact ih hs.2 hf1
        obtain ⟨g, hg⟩ : ∃ g : Nat → List F, ∀ i, i < k → Ty P e (g i) ∧ FRels (roOf w) (g i) ((cs.drop (i * P.cellsOf e)).take (P.cellsOf e)) := by
          refine ⟨fun i => if hi : i < k then (each i hi).choose else [], fun i hi => ?_⟩
          dsimp only; rw [dif_pos hi]; exact (each i hi).choose_spec
        refine ⟨_, .array ((List.range k).map g) hu (by simp) (fun p hp => ?_) (fun p hp => ?_), pieces (off := fun i => i * P.cellsOf e) (len := fun _ => P.cellsOf e) (N := 0) (Nat.zero_mul _) (fun i _ => by rw [Nat.add_mul]; omega) (by simp [hl, hs.1]) fun i p hp => ?_⟩
        · obtain ⟨i, hi, rfl⟩ := List.mem_map.1 hp
          obtain ⟨_, c3⟩ := hg i (List.mem_range.1 hi)
          have hi' := List.mem_range.1 hi
          have : (i + 1) * P.cellsOf e ≤ k * P.cellsOf e := Nat.mul_le_mul_right _ hi'
          rw [Nat.add_mul] at this
          rw [c3.len, List.length_take, List.length_drop]; omega
        · obtain ⟨i, hi, rfl⟩ := List.mem_map.1 hp
          exact (hg i (List.mem_range.1 hi)).1
        · have hi : i < k := by
            have := (List.getElem?_eq_some_iff.1 hp).1
            simpa using this
          simp [hi] at hp
          subst hp
          exact (hg i hi).2
      · cases hs
theorem arg_okS {S : TypeId → Prop} (hS : ∀ t, S t → simple1 P S t) {base : Nat} {t : TypeId} {v : Value} {d : DataW H} {ps : List MemPlace} (hs : S t) (hok : Value.okWide P W .any base t v) (hd : DataW.Trod enc P W 0 (fun _ => true) true t v d ps) :
    ∃ xs, Ty P t xs ∧ VRel (fun _ => none) (roOf W) (argV P t xs) v := by
  obtain ⟨fuel, hd⟩ := hd
  obtain ⟨xs, hty, hrel⟩ := trod_tyS hS fuel hs hd
  refine ⟨xs, hty, ?_⟩
  have one : v.oneCell' = true → agg? P t ≠ some true → VRel (fun _ => none) (roOf W) (argV P t xs) v := by
    intro h1 h2
    have hc : v.cells.toList = [v] := by cases v <;> first | rfl | cases h1
    rw [hc] at hrel
    unfold argV
    split
    · rename_i h3; exact absurd h3 h2
    · have := hrel.len
      split
      · exact hrel.1
      · trivial
  have agg : ∀ cs, v = .agg cs → agg? P t = some true → VRel (fun _ => none) (roOf W) (argV P t xs) v := by
    rintro cs rfl h2
    unfold argV
    rw [h2]
    refine ⟨cs, rfl, hrel, fun x hx => ?_⟩
    obtain ⟨j, hj⟩ := List.getElem?_of_mem hx
    have hlt : j < xs.length := by
      rw [hrel.len]; exact (List.getElem?_eq_some_iff.1 hj).1
    obtain ⟨c, h3, h4⟩ := FRels.get hrel (List.getElem?_eq_getElem hlt)
    have : c = x := by
      have h5 : cs.toList[j]? = some c := h3
      rw [hj] at h5; exact (Option.some.inj h5).symm
    subst this; exact h4.one
  unfold Value.okWide at hok
  split at hok
  · rename_i fs hu
    obtain ⟨cs, rfl, _⟩ := hok
    exact agg cs rfl (by simp [agg?, hu])
  · rename_i k e hu
    obtain ⟨cs, rfl, _⟩ := hok
    exact agg cs rfl (by simp [agg?, hu])
  · rename_i hn1 hn2
    refine one ?_ ?_
    · cases v with
      | agg cs =>
        unfold Cell.okWide Cell.ok at hok
        cases hu : P.underlying t with
        | none => simp [hu] at hok
        | some q => cases q <;> simp [hu] at hok
      | tuple cs =>
        unfold Cell.okWide Cell.ok at hok
        cases hu : P.underlying t with
        | none => simp [hu] at hok
        | some q => cases q <;> simp [hu] at hok
      | _ => rfl
    · intro h2
      simp only [agg?, Option.map_eq_some_iff] at h2
      obtain ⟨d', h3, h4⟩ := h2
      split at h4
      · exact hn1 _ h3
      · exact hn2 _ _ h3
      · cases h4
theorem args_okS {S : TypeId → Prop} (hS : ∀ t, S t → simple1 P S t) {base : Nat} : ∀ {ts : List TypeId} {vs : List Value} {ds : List (DataW H)} {ps : List MemPlace}, (∀ t ∈ ts, S t) → (∀ (j : Nat) t v, ts[j]? = some t → vs[j]? = some v → Value.okWide P W .any base t v) →
    DataW.TrodAll enc P W 0 (fun _ => true) true ts vs ds ps → ∃ l, Args P ts l ∧ VRels (fun _ => none) (roOf W) (argVs P ts l) vs
  | [], [], [], _, _, _, _ => ⟨[], .nil, trivial⟩
  | t :: ts, v :: vs, d :: ds, ps, hs, hok, ⟨p, q, h1, h2, _⟩ => by
    obtain ⟨xs, g1, g2⟩ := arg_okS hS (hs t (by simp)) (hok 0 t v rfl rfl) h1
    obtain ⟨l, g3, g4⟩ := args_okS hS (fun t ht => hs t (by simp [ht])) (fun j t v h3 h4 => hok (j + 1) t v (by simpa using h3) (by simpa using h4)) h2
    exact ⟨xs :: l, .cons g1 g3, g2, g4⟩
  | [], _ :: _, _, _, _, _, h => by cases h
  | [], [], _ :: _, _, _, _, h => by cases h
  | _ :: _, [], _, _, _, _, h => by cases h
  | _ :: _, _ :: _, [], _, _, _, h => by cases h
end
/-- THE LAW's STEP: out of what the abstract machine answers. -/
theorem law_stepS {w0 : World0} {S : List TypeId} (hS : simpleL w0.P S = true) (hx : ExtSim w0) {H : Type} {enc : TypeId × Value → H} {f : FuncId} {fn : Func} {s : ChangeSpec} {W : World} {base : Nat} {args : Array Value} {ds gs : List (DataW H)} {before : List MemPlace} {apart fresh handsOn again : Bool}
    (hv : s.vars = []) (hl : laidOutB w0.P = true) (hts : ∀ t ∈ fn.params.toList, w0.P.readableRec t = true ∧ t < w0.P.types.size) (hsm : ∀ t ∈ fn.params.toList, t ∈ S)
    {tb : TypeId} (hres : fn.resultTypes = #[tb]) (htb : w0.P.underlying tb = some .bool)
    (hfn : ∀ ds : List (DataW H), ds.length = fn.params.toList.length → s.fn H (ds ++ []) = { results := [.lit (.bool true)], args := ds })
    (hval : ∀ (j : Nat) t v, fn.params[j]? = some t → args[j]? = some v → Value.okWide w0.P W .any base t v)
    (hW : DataW.Whole enc w0.P fn.params.toList s.vars apart W args.toList ds gs before)
    (hg : GOk (roOf W)) (hlaw : ∀ l, Args w0.P fn.params.toList l → ∃ h', run w0 f (argVs w0.P fn.params.toList l) [] = some (.ret (B true), h')) :
    Calls w0.P f args W fun e W' => ∃ v, e = .returned v ∧ s.post enc w0.P fn apart fresh handsOn again W args v W' := by
  have hW0 := hW
  obtain ⟨p, q, hA, hV, _, _, _⟩ := hW0
  have hg : gs = [] := by
    rw [hv] at hV
    cases gs with
    | nil => rfl
    | cons g gs => cases hV
  subst hg
  obtain ⟨l, hl1, hr⟩ := args_okS (simpleL_ok hS) hsm (fun j t v h1 h2 => hval j t v (by simpa using h1) (by simpa using h2)) hA
  obtain ⟨h', e⟩ := hlaw l hl1
  refine (top_ok hx hg e hr).mono ?_
  rintro e W' ⟨η', ro', cv, rfl, hvv, _, _, hold, hos, _, hout⟩
  have hcv : cv = .bool true := rel_s hvv
  subst hcv
  exact ⟨_, rfl, post_true hW hv hl hts hres htb (hfn ds (trodAll_len hA)) hold hos hout⟩
end Go.Abs
