/-
  slices.Sort of strings, as the library's own contract tells it: over the abstract machine. (The contract is handed in as a hypothesis; the seat's text lays it.)
-/
import Derived.Test.YtjefolfbdohkcaaAbsFoldL
import Derived.Sort.Row
import Derived.Sort.EncStr
import Derived.Sort.Grow
set_option autoImplicit false
set_option linter.unusedVariables false
namespace Go.Abs
open Go
def strsF : List F → Option (List (List UInt8))
  | [] => some []
  | .s (.string b) :: r => (strsF r).map (b.data.toList :: ·)
  | _ => none
/-- strings as cells -/
def sLF (l : List (List UInt8)) : List F := l.map fun b => .s (.string ⟨b.toArray⟩)
def sortL (l : List (List UInt8)) : List (List UInt8) := l.mergeSort fun x y => decide (x ≤ y)
def sortE (args : List V) (h : H) : R :=
  match args with
  | [.f (.s (.slice none 0 0))] => some (.ret (.tup []), h)
  | [.ref k off n 1] =>
    if n < 4611686018427387904 then
      if n = 0 then some (.ret (.tup []), h)
      else match h[k]? with
        | some (.fz cs) => if off + n ≤ cs.length then (strsF ((cs.drop off).take n)).bind fun ss => some (.ret (.tup []), h.set k (.fz (splice cs off (sLF (sortL ss))))) else none
        | _ => none
    else none
  | _ => none
/-- what the library says -/
structure SortSays (P : Program) (f : FuncId) : Prop where
  fn : ∃ fn, P.funcs[f]? = some fn ∧ fn.name ≠ "runtime.NumGoroutine" ∧ fn.body.isSome = true
  empty : ∀ (p : Option Addr) (cap : Nat) (w : World), Calls P f #[.slice p 0 cap] w fun e w' => e = .returned (.tuple #[]) ∧ w' = w
  row : ∀ (blk off cap : Nat) (ss : List (List UInt8)) (w : World), Sort.Holds Proofs.encStr w blk off ss.toArray → blk < w.heap.size → ss.length < 4611686018427387904 →
    Calls P f #[.slice (some ⟨blk, off, none⟩) ss.length cap] w fun e w' => e = .returned (.tuple #[]) ∧ ∃ n os, w' = Sort.grow (Sort.putRow Proofs.encStr (Sort.ahead w n) blk off (ss.mergeSort fun x y => decide (x ≤ y)).toArray) os
theorem strsF_spec : ∀ {l : List F} {ss : List (List UInt8)}, strsF l = some ss → l = sLF ss
  | [], ss, h => by cases h; rfl
  | x :: r, ss, h => by
    cases x with
    | s v =>
      cases v with
      | string b =>
        simp only [strsF, Option.map_eq_some_iff] at h
        obtain ⟨s2, h1, rfl⟩ := h
        rw [strsF_spec h1]
        rfl
      | _ => cases h
    | _ => cases h
theorem strsF_sLF (ss : List (List UInt8)) : strsF (sLF ss) = some ss := by
  induction ss with
  | nil => rfl
  | cons a l ih => simp only [sLF, List.map_cons] at ih ⊢; simp [strsF, ih]
section
variable {P : Program} {η : Et} {ro : Ro} {h : H} {w w' : World}
/-- more blocks -/
theorem grow_step (r : Rel η ro h w) {os : Array Obj} (hh : w'.heap = w.heap ++ os) (e1 : w'.os = w.os) (e2 : w'.tape = w.tape) (e3 : w'.output = w.output) : Rel η ro h w' ∧ Stp η ro h w η ro h w' := by
  have hk : ∀ b, b < w.heap.size → w'.heap[b]? = w.heap[b]? := fun b hb => by rw [hh, Array.getElem?_append_left hb]
  refine ⟨r.world (fun b o v hv => hk b (r.ro_lt hv)) fun b hb => hk b (r.block_lt hb), ⟨by rw [hh]; simp, fun b hb _ => hk b hb, fun _ _ h => h, e1, e2, e3, Nat.le_refl _, fun _ _ => rfl, Ro.le_refl _, fun _ _ _ _ => rfl, fun k cs hc => ⟨hc, fun b st sz hp => ⟨hk b (r.block_lt ⟨k, st, sz, _, hp, hc, rfl⟩), fun _ => rfl⟩⟩⟩⟩
theorem sort_sim {f : FuncId} (hS : SortSays P f) (args : List V) (cargs : Array Value) (h : H) (η : Et) (ro : Ro) (w : World) (o : Out) (h' : H) (r : Rel η ro h w) (ha : VRels η ro args cargs.toList) (e : sortE args h = some (o, h')) :
    (∃ fn, P.funcs[f]? = some fn ∧ fn.name ≠ "runtime.NumGoroutine" ∧ fn.body.isSome = true) ∧ Calls P f cargs w (After η ro h w o h') := by
  refine ⟨hS.fn, ?_⟩
  have tup : ∀ {η : Et} {ro : Ro}, VRel η ro (.tup []) (.tuple #[]) := ⟨#[], rfl, trivial⟩
  have still : ∀ (p : Option Addr) (cap : Nat), cargs = #[.slice p 0 cap] → o = .ret (.tup []) → h' = h → Calls P f cargs w (After η ro h w o h') := by
    rintro p cap rfl rfl rfl
    refine (hS.empty p cap w).mono ?_
    rintro e w' ⟨rfl, rfl⟩
    exact ⟨η, ro, r, Stp.refl _ _ _ _, _, rfl, tup⟩
  unfold sortE at e
  split at e
  · cases e
    obtain ⟨c, h1, h2⟩ := ha.one
    have e1 : cargs = #[c] := Array.ext' h1
    cases rel_s h2
    exact still _ _ e1 rfl rfl
  · rename_i k off n
    obtain ⟨c, h1, h2⟩ := ha.one
    have e1 : cargs = #[c] := Array.ext' h1
    split at e
    rotate_left
    · cases e
    rename_i hn
    split at e
    · rename_i hn0
      subst hn0
      cases e
      rcases h2 with ⟨b, st, sz, c, o, q1, rfl, q2, q3⟩ | ⟨_, _, _, rfl⟩ <;> exact still _ _ e1 rfl rfl
    · rename_i hn0
      split at e
      rotate_left
      · cases e
      rename_i cs hk
      split at e
      rotate_left
      · cases e
      rename_i hle
      rw [Option.bind_eq_some_iff] at e
      obtain ⟨ss, hss, e⟩ := e
      cases e
      have hcs := strsF_spec hss
      have hlen : ss.length = n := by
        have := congrArg List.length hcs
        simp [sLF] at this; omega
      rcases h2 with ⟨b, st, sz, c, o, q1, rfl, q2, q3, q4⟩ | ⟨_, q5, _, _⟩
      rotate_left
      · exact absurd q5 hn0
      have ho := q4 (by omega)
      subst ho
      subst e1
      obtain ⟨ca, T, lo, hi, a1, a2, a3, a4, a5⟩ := r.at_ q1 hk (L := cs.map .f) rfl
      simp only [List.length_map] at a4
      have hb : b < w.heap.size := (Array.getElem?_eq_some_iff.1 a1).1
      have hget : ∀ j, (hj : j < ss.length) → ca[st + off + j]? = some (Proofs.encStr ss[j]) := by
        intro j hj
        have h1 : ((cs.drop off).take n)[j]? = some (.s (.string ⟨ss[j].toArray⟩)) := by rw [hcs]; simp [sLF, hj]
        rw [List.getElem?_take, if_pos (by omega), List.getElem?_drop] at h1
        obtain ⟨x, x1, x2, x3⟩ := a5 (off + j) (.f (.s (.string ⟨ss[j].toArray⟩))) (by rw [List.getElem?_map, h1]; rfl)
        rw [Nat.add_assoc, x1, rel_s x3]
      have hH : Sort.Holds Proofs.encStr w b (st + off) ss.toArray := by
        intro j hj
        simp at hj
        refine ⟨?_, ?_⟩
        · simp only [World.cell?, a1]
          rw [getElem!_pos ss.toArray j (by simpa using hj)]
          simpa using hget j hj
        · simp only [World.frozen?, a1]
          have := a3.no (st + off + j) (by omega)
          simp only [Bool.and_eq_false_iff, decide_eq_false_iff_not]
          omega
      have hc := hS.row b (st + off) c ss w hH hb (by omega)
      rw [hlen] at hc
      refine hc.mono ?_
      rintro e w' ⟨rfl, nd, os, rfl⟩
      have hsl : (ss.mergeSort fun x y => decide (x ≤ y)).length = n := by rw [List.length_mergeSort, hlen]
      -- the row
      let w1 : World := Sort.putRow Proofs.encStr (Sort.ahead w nd) b (st + off) (ss.mergeSort fun x y => decide (x ≤ y)).toArray
      have hw1 : w1.heap = w.heap.modify b (Sort.onCells (Sort.putCells Proofs.encStr (st + off) (ss.mergeSort fun x y => decide (x ≤ y)).toArray)) := rfl
      have hb1 : w1.heap[b]? = some (.cells (Sort.putCells Proofs.encStr (st + off) (ss.mergeSort fun x y => decide (x ≤ y)).toArray ca) T (lo, hi)) := by
        rw [hw1, Array.getElem?_modify]; simp [a1, Sort.onCells]
      have hat : CellsAt η ro w1 ((splice cs off (sLF (sortL ss))).map .f) (.at_ b st sz) := by
        refine .inr ⟨b, st, sz, _, T, lo, hi, rfl, hb1, by simp [Sort.putCells, a2], a3, by simp [splice_len]; omega, ?_⟩
        intro j v hj
        rw [List.getElem?_map, Option.map_eq_some_iff] at hj
        obtain ⟨x, hx, rfl⟩ := hj
        have hlt : j < cs.length := by
          have := (List.getElem?_eq_some_iff.1 hx).1
          rwa [splice_len] at this
        have hca : st + j < ca.size := by omega
        have hpc : (Sort.putCells Proofs.encStr (st + off) (ss.mergeSort fun x y => decide (x ≤ y)).toArray ca)[st + j]? = some (if st + off ≤ st + j ∧ st + j < st + off + n then Proofs.encStr (ss.mergeSort fun x y => decide (x ≤ y)).toArray[st + j - (st + off)]! else ca[st + j]) := by
          unfold Sort.putCells
          rw [Array.getElem?_mapIdx, Array.getElem?_eq_getElem hca]
          simp only [Option.map_some, List.size_toArray, hsl]
        rw [splice_get _ _ _ (by simp [sLF, sortL, hsl]; omega)] at hx
        by_cases hin : off ≤ j ∧ j < off + n
        · rw [if_pos ⟨hin.1, by simp [sLF, sortL, hsl]; omega⟩] at hx
          rw [hpc, if_pos ⟨by omega, by omega⟩]
          have hj2 : j - off < (ss.mergeSort fun x y => decide (x ≤ y)).length := by omega
          have e2 : st + j - (st + off) = j - off := by omega
          rw [e2, getElem!_pos _ (j - off) (by simpa using hj2)]
          simp only [sLF, sortL, List.getElem?_map, Option.map_eq_some_iff] at hx
          obtain ⟨y, hy, rfl⟩ := hx
          rw [List.getElem?_eq_getElem hj2] at hy
          cases hy
          refine ⟨_, rfl, rfl, ?_⟩
          simp only [List.getElem_toArray]
          exact rel_s' rfl
        · rw [if_neg (by simp [sLF, sortL, hsl]; omega)] at hx
          rw [hpc, if_neg (by omega)]
          obtain ⟨y, y1, y2, y3⟩ := a5 j (.f x) (by rw [List.getElem?_map, hx]; rfl)
          rw [Array.getElem?_eq_getElem hca] at y1
          cases y1
          exact ⟨_, rfl, y2, y3⟩
      obtain ⟨p1, p2⟩ := upd_step (w' := w1) r q1 hk rfl (o' := .fz (splice cs off (sLF (sortL ss)))) (fun i hi => by rw [hw1, Array.getElem?_modify, if_neg (fun e => hi e.symm)]) (by rw [hw1]; simp) rfl rfl rfl hat
      obtain ⟨p3, p4⟩ := grow_step (w' := Sort.grow w1 os) p1 (os := os) rfl rfl rfl rfl
      exact ⟨η, ro, p3, p2.trans p4, _, rfl, tup⟩
  · cases e
end
end Go.Abs
