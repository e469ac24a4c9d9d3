/-
  From a given row's reading of its arguments to the abstract machine's values, and back.
-/
import Derived.Test.YtpchhblgilfejaaAbsSound
import Derived.ProofKit
import Derived.OpenShut
set_option autoImplicit false
set_option linter.unusedVariables false
set_option linter.unusedSimpArgs false
namespace Go.Abs
open Go Go.ChangeShapes Go.WideShapes

/-- Frozen cells that are of a type. -/
inductive Ty (P : Program) : TypeId → List F → Prop
  | bool {t : TypeId} (b : Bool) : P.underlying t = some .bool → Ty P t [.s (.bool b)]
  | int {t : TypeId} {k : IntKind} (n : Int) : P.underlying t = some (.int k) → (Lit.int k n).wf = true → Ty P t [.s (.int k n)]
  | str {t : TypeId} (s : ByteArray) : P.underlying t = some .string → s.size ≤ maxLen → Ty P t [.s (.string s)]
  | slice {t e : TypeId} (parts : List (List F)) : P.underlying t = some (.slice e) → parts.length ≤ maxLen → (∀ p ∈ parts, p.length = P.cellsOf e) → (∀ p ∈ parts, Ty P e p) → Ty P t [.lst parts.length parts.flatten]
  | struct {t : TypeId} {fs : Array Field} (parts : List (List F)) : P.underlying t = some (.struct fs) → parts.length = fs.size → (∀ (i : Nat) f p, fs[i]? = some f → parts[i]? = some p → p.length = P.cellsOf f.type) →
      (∀ (i : Nat) f p, fs[i]? = some f → parts[i]? = some p → Ty P f.type p) → Ty P t parts.flatten
  | array {t e : TypeId} {n : Nat} (parts : List (List F)) : P.underlying t = some (.array n e) → parts.length = n → (∀ p ∈ parts, p.length = P.cellsOf e) → (∀ p ∈ parts, Ty P e p) → Ty P t parts.flatten

/-- fields one behind the other, from off on; where they end -/
def tiles (P : Program) : Nat → List Field → Option Nat
  | off, [] => some off
  | off, f :: fs => if f.offset = off then tiles P (off + P.cellsOf f.type) fs else none
/-- types that are read so: no pointers, maps, interfaces, floats -/
def simpleT (P : Program) : Nat → TypeId → Bool
  | 0, _ => false
  | n + 1, t =>
    match P.underlying t with
    | some .bool => true
    | some (.int _) => true
    | some .string => true
    | some (.slice e) => decide (0 < P.cellsOf e) && simpleT P n e
    | some (.struct fs) => decide (tiles P 0 fs.toList = some (P.cellsOf t)) && fs.toList.all fun f => simpleT P n f.type
    | some (.array k e) => decide (P.cellsOf t = k * P.cellsOf e) && simpleT P n e
    | _ => false

section
variable {H : Type} {enc : TypeId × Value → H} {P : Program} {w : World} {ro : Ro}

abbrev FRels (ro : Ro) (xs : List F) (cs : List Value) : Prop := VRels (fun _ => none) ro (xs.map .f) cs
theorem FRels.len {xs : List F} {cs : List Value} (h : FRels ro xs cs) : xs.length = cs.length := by have := VRels.len h; simpa using this
theorem FRels.get {xs : List F} {cs : List Value} (h : FRels ro xs cs) {j : Nat} {x : F} (hx : xs[j]? = some x) : ∃ c, cs[j]? = some c ∧ FRel ro x c :=
  VRels.get h (v := .f x) (by simp [hx])
theorem FRels.one {x : F} {c : Value} (h : FRel ro x c) : FRels ro [x] [c] := ⟨h, trivial⟩
theorem FRels.append {xs ys : List F} {cs ds : List Value} (h : FRels ro xs cs) (h' : FRels ro ys ds) : FRels ro (xs ++ ys) (cs ++ ds) := by
  unfold FRels; rw [List.map_append]; exact VRels.append h h'
theorem FCells.append : ∀ {l m : List F} {b o : Nat}, FCells ro l b o → FCells ro m b (o + l.length) → FCells ro (l ++ m) b o
  | [], m, b, o, _, h => by simpa using h
  | x :: l, m, b, o, ⟨h1, h2⟩, h => ⟨h1, FCells.append h2 (by rw [List.length_cons] at h; rw [show o + 1 + l.length = o + (l.length + 1) by omega]; exact h)⟩
theorem FRels.s {v : Value} (h : v.oneCell' = true) : FRels ro [.s v] [v] := FRels.one ⟨rfl, h⟩

theorem mapM_range {α : Type} {n : Nat} {f : Nat → Option α} {l : List α} (h : (List.range n).mapM f = some l) : l.length = n ∧ ∀ i, i < n → l[i]? = f i := by
  induction n generalizing l with
  | zero => simp at h; subst h; simp
  | succ n ih =>
    rw [List.range_succ, List.mapM_append] at h
    cases hl : (List.range n).mapM f with
    | none => rw [hl] at h; simp at h
    | some l' =>
      rw [hl] at h
      cases hf : f n with
      | none => simp [hf] at h
      | some x =>
        simp [hf] at h
        subst h
        obtain ⟨h1, h2⟩ := ih hl
        refine ⟨by simp [h1], fun i hi => ?_⟩
        by_cases hin : i = n
        · subst hin; rw [List.getElem?_append_right (by omega), h1]; simp [hf]
        · rw [List.getElem?_append_left (by omega)]; exact h2 i (by omega)
theorem cells_get {base n : Nat} {a : Addr} {cs : List Value} (h : w.cells? base a n = some cs) : cs.length = n ∧ ∀ i, i < n → cs[i]? = w.cell? (a.add i) := by
  unfold World.cells? at h
  split at h
  · exact mapM_range h
  · cases h
/-- pieces of a row, one behind the other -/
theorem pieces {cs : List Value} {len : Nat → Nat} {parts : List (List F)} {off : Nat → Nat} {N : Nat} (h0 : off 0 = 0) (hs : ∀ i, i < parts.length → off (i + 1) = off i + len i) (hN : off parts.length = cs.length)
    (hp : ∀ (i : Nat) p, parts[i]? = some p → FRels ro p ((cs.drop (off i)).take (len i))) : FRels ro parts.flatten cs := by
  have key : ∀ (k : Nat) (l : List (List F)), parts.drop k = l → k ≤ parts.length → FRels ro l.flatten (cs.drop (off k)) := by
    intro k l
    induction l generalizing k with
    | nil =>
      intro hk hle
      have : parts.length ≤ k := by
        have := congrArg List.length hk
        simp at this; omega
      have hkk : k = parts.length := by omega
      subst hkk
      rw [hN, List.drop_length]; exact trivial
    | cons p l ih =>
      intro hk hle
      have hkl : k < parts.length := by
        have := congrArg List.length hk
        simp at this; omega
      have hpk : parts[k]? = some p := by
        have : (parts.drop k)[0]? = some p := by rw [hk]; rfl
        simpa using this
      have h1 := hp k p hpk
      have h2 := ih (k + 1) (by rw [← List.drop_drop, hk]; rfl) (by omega)
      rw [hs k hkl] at h2
      have h3 : cs.drop (off k) = (cs.drop (off k)).take (len k) ++ cs.drop (off k + len k) := by
        rw [← List.drop_drop]; exact (List.take_append_drop _ _).symm
      rw [List.flatten_cons, h3]
      exact h1.append h2
  have := key 0 parts rfl (Nat.zero_le _)
  rwa [h0] at this

theorem trod_ty : ∀ (fuel n : Nat) {t : TypeId} {cs : List Value} {d : DataW H} {ps : List MemPlace}, simpleT P n t = true → DataW.trod enc P w 0 (fun _ => true) true fuel t cs = some (d, ps) → ∃ xs, Ty P t xs ∧ FRels (roOf w) xs cs := by
  intro fuel
  induction fuel with
  | zero => intro n t cs d ps _ h; simp [DataW.trod] at h
  | succ fuel ih =>
    intro n t cs d ps hs h
    cases n with
    | zero => cases hs
    | succ n =>
      unfold simpleT at hs
      split at hs
      · rename_i hu
        obtain ⟨b, rfl, _⟩ := DataW.trod_bool hu h
        exact ⟨_, .bool b hu, FRels.s rfl⟩
      · rename_i k hu
        obtain ⟨m, rfl, _, hw⟩ := DataW.trod_int hu h
        exact ⟨_, .int m hu hw, FRels.s rfl⟩
      · rename_i hu
        obtain ⟨s, rfl, _, hw⟩ := DataW.trod_string hu h
        exact ⟨_, .str s hu hw, FRels.s rfl⟩
      · rename_i e hu
        simp only [Bool.and_eq_true, decide_eq_true_eq] at hs
        rcases DataW.trod_slice hu h with ⟨rfl, _⟩ | ⟨a, len, cap, elems, rest, m, hm, rfl, _, h1, h2, h3, h4, h5, _, _⟩
        · exact ⟨_, .slice (e := e) [] hu (by simp) (by simp) (by simp), FRels.one ⟨none, 0, rfl, Nat.le_refl _, .inl ⟨rfl, rfl⟩⟩⟩
        · cases hm
          have each : ∀ i, i < len → ∃ xs cs', w.cells? 0 (a.add (i * P.cellsOf e)) (P.cellsOf e) = some cs' ∧ Ty P e xs ∧ FRels (roOf w) xs cs' := by
            intro i hi
            have he := h5 i hi
            obtain ⟨y, hy⟩ : ∃ y, elems[i]? = some y := ⟨_, List.getElem?_eq_getElem (by omega)⟩
            rw [hy, Option.bind_eq_some_iff] at he
            obtain ⟨cs', hc, he⟩ := he
            obtain ⟨xs, g1, g2⟩ := ih n hs.2 he
            exact ⟨xs, cs', hc, g1, g2⟩
          obtain ⟨g, hg⟩ : ∃ g : Nat → List F, ∀ i, i < len → ∃ cs', w.cells? 0 (a.add (i * P.cellsOf e)) (P.cellsOf e) = some cs' ∧ Ty P e (g i) ∧ FRels (roOf w) (g i) cs' := by
            refine ⟨fun i => if hi : i < len then (each i hi).choose else [], fun i hi => ?_⟩
            dsimp only; rw [dif_pos hi]; exact (each i hi).choose_spec
          have hlen : ∀ i, i < len → (g i).length = P.cellsOf e := fun i hi => by
            obtain ⟨cs', c1, _, c3⟩ := hg i hi
            rw [c3.len]; exact (cells_get c1).1
          refine ⟨[.lst ((List.range len).map g).length ((List.range len).map g).flatten], .slice _ hu (by simp; omega) (fun p hp => ?_) (fun p hp => ?_), FRels.one ?_⟩
          · obtain ⟨i, hi, rfl⟩ := List.mem_map.1 hp
            exact hlen i (List.mem_range.1 hi)
          · obtain ⟨i, hi, rfl⟩ := List.mem_map.1 hp
            obtain ⟨_, _, c2, _⟩ := hg i (List.mem_range.1 hi)
            exact c2
          · rw [List.length_map, List.length_range]
            refine ⟨some a, cap, rfl, h2, ?_⟩
            by_cases h0 : len = 0
            · left; subst h0; simp
            · right
              obtain ⟨cs0, c1, _, _⟩ := hg 0 (by omega)
              have hsp : a.spot = none := by
                obtain ⟨e1, e2⟩ := cells_get c1
                have := e2 0 hs.1
                rw [Nat.zero_mul] at this
                have h6 : (a.add 0).add 0 = a := by simp [Addr.add]
                rw [h6] at this
                have h7 : cs0[0]?.isSome := by simp [e1, hs.1]
                rw [this] at h7
                unfold World.cell? at h7
                split at h7
                · split at h7
                  · cases h7
                  · rename_i hh; simpa using hh
                · cases h7
              obtain ⟨b, o, sp⟩ := a
              simp only at hsp
              subst hsp
              refine ⟨b, o, rfl, ?_⟩
              have key : ∀ m k, k + m ≤ len → FCells (roOf w) ((List.range' k m).map g).flatten b (o + k * P.cellsOf e) := by
                intro m
                induction m with
                | zero => intro k _; exact trivial
                | succ m ihm =>
                  intro k hk
                  rw [List.range'_succ, List.map_cons, List.flatten_cons]
                  refine FCells.append ?_ ?_
                  · obtain ⟨cs', c1, c2, c3⟩ := hg k (by omega)
                    obtain ⟨e1, e2⟩ := cells_get c1
                    refine FCells.mk fun j x hx => ?_
                    obtain ⟨c, d1, d2⟩ := FRels.get c3 hx
                    refine ⟨c, ?_, d2⟩
                    have hj : j < P.cellsOf e := by rw [← e1]; exact (List.getElem?_eq_some_iff.1 d1).1
                    have := e2 j hj
                    rw [d1, add_at, add_at] at this
                    exact this.symm
                  · rw [hlen k (by omega)]
                    have := ihm (k + 1) (by omega)
                    rw [show o + k * P.cellsOf e + P.cellsOf e = o + (k + 1) * P.cellsOf e by rw [Nat.add_mul]; omega]
                    exact this
              have := key len 0 (by omega)
              rw [List.range_eq_range']
              simpa using this
      · rename_i fs hu
        simp only [Bool.and_eq_true, decide_eq_true_eq] at hs
        obtain ⟨xs, m, hm, _, hl, hlen, hf⟩ := DataW.trod_struct hu h
        cases hm
        have each : ∀ i, i < fs.size → ∃ ys, ∀ f, fs[i]? = some f → Ty P f.type ys ∧ FRels (roOf w) ys ((cs.drop f.offset).take (P.cellsOf f.type)) := by
          intro i hi
          have hf1 := hf i fs[i] (by simp [hi])
          obtain ⟨y, hy⟩ : ∃ y, xs[i]? = some y := ⟨_, List.getElem?_eq_getElem (by omega)⟩
          rw [hy] at hf1
          have hsi := List.all_eq_true.1 hs.2 fs[i] (by simp)
          obtain ⟨ys, g1, g2⟩ := ih n hsi hf1
          refine ⟨ys, fun f hff => ?_⟩
          have : fs[i] = f := by simpa [hi] using hff
          subst this; exact ⟨g1, g2⟩
        obtain ⟨g, hg⟩ : ∃ g : Nat → List F, ∀ i, i < fs.size → ∀ f, fs[i]? = some f → Ty P f.type (g i) ∧ FRels (roOf w) (g i) ((cs.drop f.offset).take (P.cellsOf f.type)) := by
          refine ⟨fun i => if hi : i < fs.size then (each i hi).choose else [], fun i hi => ?_⟩
          dsimp only; rw [dif_pos hi]; exact (each i hi).choose_spec
        -- where the fields stand
        have til : ∀ (l : List Field) (o q : Nat), tiles P o l = some q → ∀ i, i ≤ l.length → ((l[i]?.map (·.offset)).getD q) = o + ((l.take i).map fun f => P.cellsOf f.type).sum ∧ q = o + (l.map fun f => P.cellsOf f.type).sum := by
          intro l
          induction l with
          | nil => intro o q hq i hi; simp [tiles] at hq; subst hq; simp
          | cons f l ihl =>
            intro o q hq i hi
            unfold tiles at hq
            split at hq
            · rename_i ho
              obtain ⟨_, g2⟩ := ihl _ _ hq 0 (Nat.zero_le _)
              cases i with
              | zero => simp [ho]; rw [g2]; omega
              | succ i =>
                obtain ⟨g1, g2⟩ := ihl _ _ hq i (by simpa using hi)
                simp only [List.getElem?_cons_succ, List.take_succ_cons, List.map_cons, List.sum_cons]
                exact ⟨by rw [g1]; omega, by rw [g2]; omega⟩
            · cases hq
        let off : Nat → Nat := fun i => ((fs.toList.take i).map fun f => P.cellsOf f.type).sum
        have hoff : ∀ i (hi : i < fs.size), fs[i].offset = off i := fun i hi => by
          have := (til _ _ _ hs.1 i (by simp; omega)).1
          simp only [off]; rw [List.map_take]; simpa [hi] using this
        have hplen : ∀ (i : Nat) f p, fs[i]? = some f → ((List.range fs.size).map g)[i]? = some p → i < fs.size ∧ p = g i := by
          intro i f p h1 h2
          have hi : i < fs.size := (Array.getElem?_eq_some_iff.1 h1).1
          simp [hi] at h2
          exact ⟨hi, h2.symm⟩
        have hfull : FRels (roOf w) ((List.range fs.size).map g).flatten cs := by
          refine pieces (off := off) (len := fun i => ((fs[i]?).map fun f => P.cellsOf f.type).getD 0) (N := 0) rfl ?_ ?_ ?_
          · intro i hi
            simp only [List.length_map, List.length_range] at hi
            simp only [off]
            have h8 : fs.toList.take (i + 1) = fs.toList.take i ++ [fs[i]] := by
              rw [List.take_add_one]; simp [hi]
            rw [h8, List.map_append, List.sum_append]
            simp [hi]
          · simp only [List.length_map, List.length_range, off]
            rw [hl]
            have := (til _ _ _ hs.1 0 (Nat.zero_le _)).2
            rw [this, List.take_of_length_le (by simp)]; simp
          · intro i p hp
            have hi : i < fs.size := by
              have := (List.getElem?_eq_some_iff.1 hp).1
              simpa using this
            simp [hi] at hp
            subst hp
            have := (hg i hi fs[i] (by simp [hi])).2
            rw [hoff i hi] at this
            simpa [hi] using this
        refine ⟨_, .struct ((List.range fs.size).map g) hu (by simp) (fun i f p h1 h2 => ?_) (fun i f p h1 h2 => ?_), hfull⟩
        · obtain ⟨hi, rfl⟩ := hplen i f p h1 h2
          obtain ⟨_, g2⟩ := hg i hi f h1
          have hl2 := g2.len
          rw [hl2, List.length_take, List.length_drop]
          have hfi : fs[i] = f := by simpa [hi] using h1
          have h9 := hoff i hi
          rw [hfi] at h9
          have h10 := (til _ _ _ hs.1 0 (Nat.zero_le _)).2
          have h11 : off (i + 1) = off i + P.cellsOf f.type := by
            simp only [off]
            have h8 : fs.toList.take (i + 1) = fs.toList.take i ++ [fs[i]] := by
              rw [List.take_add_one]; simp [hi]
            rw [h8, List.map_append, List.sum_append, hfi]
            simp
          have h12 : off (i + 1) ≤ P.cellsOf t := by
            rw [h10]
            have : (fs.toList.map fun f => P.cellsOf f.type).sum = off (i + 1) + ((fs.toList.drop (i + 1)).map fun f => P.cellsOf f.type).sum := by
              simp only [off]
              rw [← List.sum_append, ← List.map_append, List.take_append_drop]
            omega
          omega
        · obtain ⟨hi, rfl⟩ := hplen i f p h1 h2
          exact (hg i hi f h1).1
      · rename_i k e hu
        simp only [Bool.and_eq_true, decide_eq_true_eq] at hs
        obtain ⟨xs, m, hm, _, hl, hlen, hf⟩ := DataW.trod_array hu h
        cases hm
        have each : ∀ i, i < k → ∃ ys, Ty P e ys ∧ FRels (roOf w) ys ((cs.drop (i * P.cellsOf e)).take (P.cellsOf e)) := by
          intro i hi
          have hf1 := hf i hi
          obtain ⟨y, hy⟩ : ∃ y, xs[i]? = some y := ⟨_, List.getElem?_eq_getElem (by omega)⟩
          rw [hy] at hf1
          exact ih n hs.2 hf1
        obtain ⟨g, hg⟩ : ∃ g : Nat → List F, ∀ i, i < k → Ty P e (g i) ∧ FRels (roOf w) (g i) ((cs.drop (i * P.cellsOf e)).take (P.cellsOf e)) := by
          refine ⟨fun i => if hi : i < k then (each i hi).choose else [], fun i hi => ?_⟩
          dsimp only; rw [dif_pos hi]; exact (each i hi).choose_spec
        refine ⟨_, .array ((List.range k).map g) hu (by simp) (fun p hp => ?_) (fun p hp => ?_), pieces (off := fun i => i * P.cellsOf e) (len := fun _ => P.cellsOf e) (N := 0) (Nat.zero_mul _) (fun i _ => by rw [Nat.add_mul]; omega) (by simp [hl, hs.1]) fun i p hp => ?_⟩
        · obtain ⟨i, hi, rfl⟩ := List.mem_map.1 hp
          obtain ⟨_, c3⟩ := hg i (List.mem_range.1 hi)
          have hi' := List.mem_range.1 hi
          have : (i + 1) * P.cellsOf e ≤ k * P.cellsOf e := Nat.mul_le_mul_right _ hi'
          rw [Nat.add_mul] at this
          rw [c3.len, List.length_take, List.length_drop]; omega
        · obtain ⟨i, hi, rfl⟩ := List.mem_map.1 hp
          exact (hg i (List.mem_range.1 hi)).1
        · have hi : i < k := by
            have := (List.getElem?_eq_some_iff.1 hp).1
            simpa using this
          simp [hi] at hp
          subst hp
          exact (hg i hi).2
      · cases hs
end
end Go.Abs
