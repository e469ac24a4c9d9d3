/-
  The program's own map of a module's names: what its functions answer.
-/
import Derived.Test.YtlddnplflakmiaaGenDef
import Derived.Test.YtlddnplflakmiaaFlatSpec
set_option autoImplicit false
set_option linter.unusedVariables false
set_option linter.unusedSimpArgs false
namespace Go.Proofs.Ytlddnplflakmiaa
open Go Go.Abs
def firstsFrom : Nat → List MFun → List Int
  | _, [] => []
  | o, g :: r => (o : Int) :: firstsFrom (o + szF g) r
def firstsR (m : Mod) : List Int := firstsFrom m.globals.length m.funcs
def allFrom : Nat → List MFun → Nat
  | o, [] => o
  | o, g :: r => allFrom (o + szF g) r
def allR (m : Mod) : Nat := allFrom m.globals.length m.funcs
theorem firsts_len : ∀ (fs : List MFun) (o : Nat), (firstsFrom o fs).length = fs.length
  | [], _ => rfl
  | g :: r, o => by simp [firstsFrom, firsts_len r]
theorem firsts_get : ∀ (fs : List MFun) (o n : Nat), n < fs.length → (firstsFrom o fs)[n]? = some ((o + offF fs n : Nat) : Int)
  | [], _, _, h => by simp at h
  | g :: r, o, 0, h => by simp [firstsFrom, offF]
  | g :: r, o, n + 1, h => by
    rw [firstsFrom, List.getElem?_cons_succ, firsts_get r (o + szF g) n (by simpa using h), offF]
    simp [Nat.add_assoc]
theorem all_len : ∀ (fs : List MFun) (o f : Nat), o + (fromF varsOfF f fs).length = allFrom o fs
  | [], _, _ => rfl
  | g :: r, o, f => by
    rw [fromF, List.length_append, varsOfF_len, allFrom, ← all_len r (o + szF g) (f + 1)]; omega
theorem allR_len (m : Mod) : (varsR m).length = allR m := by
  unfold varsR allR
  rw [List.length_append, blk_len, all_len]
abbrev mapV (m : Mod) : List V := [.f (.lst m.strings.length (sF m.strings)), .f (.lst m.globals.length (kF .i64 m.globals)), .f (.lst m.funcs.length (funsF m.funcs)), .f (.lst m.entries.length (kF .i64 m.entries)), .f (.lst (firstsR m).length (kF .i64 (firstsR m))), .f (.lst (firstsR m).length (kF .i64 (firstsR m))), N .i64 (allR m), N .i64 (allR m)]
section
variable (m : Mod) (hm : okM m)
theorem first_at {n : Nat} (h : n < m.funcs.length) (K : Int → R) : (elem (.lst (firstsR m).length (kF .i64 (firstsR m))) (n : Int) 1 fun c => atI .i64 c 0 K) = K (firstR m n) := by
  have hl : (firstsR m).length = m.funcs.length := firsts_len _ _
  have hg := firsts_get m.funcs m.globals.length n h
  have hn : n < (firstsR m).length := by omega
  have hx : (firstsR m)[n] = (firstR m n : Int) := by
    have : (firstsR m)[n]? = some ((firstR m n : Nat) : Int) := hg
    rw [List.getElem?_eq_getElem hn] at this
    exact Option.some.inj this
  rw [elem_kF (drop_get hn), atI_zero, hx]
include hm in
theorem off_le : ∀ n, offF m.funcs n ≤ n * 201 := by
  have h3 := hm.2.2
  clear hm
  generalize m.funcs = fs at h3
  induction fs with
  | nil => intro n; cases n <;> simp [offF]
  | cons g r ih =>
    intro n
    cases n with
    | zero => simp [offF]
    | succ n =>
      have := ih (fun f hf => h3 f (by simp [hf])) n
      obtain ⟨k1, k2, _⟩ := h3 g (by simp)
      rw [offF]; unfold szF; omega
include hm in
theorem first_le {n : Nat} (h : n ≤ m.funcs.length) : firstR m n ≤ 30000 := by
  have := off_le m hm n
  have h1 := hm.1; have h2 := hm.2.1
  unfold firstR; omega
include hm in
theorem gNewMap_loop : ∀ (rest : List MFun) (f : Nat) (o : Nat) (done : List Int), m.funcs.drop f = rest → f ≤ m.funcs.length → done.length = f → o ≤ 100 + f * 201 →
    gNewMap_1 m.funcs.length (funsF m.funcs) m.funcs.length f 0 0 m.strings.length (sF m.strings) m.globals.length (kF .i64 m.globals) m.funcs.length (funsF m.funcs) m.entries.length (kF .i64 m.entries) done.length done.length o o (kF .i64 done) (kF .i64 done) =
      some (.ret (.agg [.f (.lst m.strings.length (sF m.strings)), .f (.lst m.globals.length (kF .i64 m.globals)), .f (.lst m.funcs.length (funsF m.funcs)), .f (.lst m.entries.length (kF .i64 m.entries)), .f (.lst (done ++ firstsFrom o rest).length (kF .i64 (done ++ firstsFrom o rest))), .f (.lst (done ++ firstsFrom o rest).length (kF .i64 (done ++ firstsFrom o rest))), N .i64 (allFrom o rest), N .i64 (allFrom o rest)]), [])
  | [], f, o, done, hd, hf, hl, ho => by
    have := done_of_drop hd
    rw [gNewMap_1_eq, if_neg (by simp; omega)]
    simp only [Nat.zero_add, Nat.mul_one, List.drop_zero]
    rw [if_pos (by simp), if_pos (by simp), List.take_of_length_le (by simp)]
    simp [firstsFrom, allFrom]
  | g :: rest, f, o, done, hd, hf, hl, ho => by
    have hlt := lt_of_drop hd
    have h2 := hm.2.1
    obtain ⟨k1, k2, _⟩ := hm.2.2 g (mem_of_drop hd)
    rw [gNewMap_1_eq, if_pos (by simp; omega), elem_next MFun.F_len hd]
    simp only [MFun.F, List.cons_append, atI_zero, atI_succ, atL_zero, atL_succ]
    rw [wrap_i64 (n := (g.locals.length : Int) + 1) (by omega) (by omega), wrap_i64 (n := (g.locals.length : Int) + 1 + g.sites.length) (by omega) (by omega), wrap_i64 (n := (o : Int) + ((g.locals.length : Int) + 1 + g.sites.length)) (by omega) (by omega),
      wrap_i64 (n := 1 + (g.locals.length : Int)) (by omega) (by omega), wrap_i64 (n := 1 + (g.locals.length : Int) + g.sites.length) (by omega) (by omega), wrap_i64 (n := (o : Int) + (1 + (g.locals.length : Int) + g.sites.length)) (by omega) (by omega), wrap_i64 (n := (f : Int) + 1) (by omega) (by omega)]
    have ih := gNewMap_loop rest (f + 1) (o + szF g) (done ++ [(o : Int)]) (drop_next hd) (by omega) (by simp; omega) (by unfold szF; omega)
    simp only [Nat.zero_add, Nat.mul_one, List.drop_zero]
    rw [if_pos ⟨trivial, by omega⟩, if_pos (by simp), if_pos ⟨trivial, by omega⟩, if_pos (by simp), List.take_of_length_le (l := kF .i64 done) (by simp), if_pos (by simp), if_pos (by simp), List.take_of_length_le (by simp)]
    have e1 : (o : Int) + ((g.locals.length : Int) + 1 + g.sites.length) = ((o + szF g : Nat) : Int) := by unfold szF; omega
    have e2 : (o : Int) + (1 + (g.locals.length : Int) + g.sites.length) = ((o + szF g : Nat) : Int) := by unfold szF; omega
    rw [e1, e2, show ((f : Int) + 1) = ((f + 1 : Nat) : Int) by omega]
    rw [kF_append, List.length_append, List.length_singleton] at ih
    refine Eq.trans ih ?_
    simp [firstsFrom, allFrom]
include hm in
theorem gNewMap_spec (h0 : H) : run w0 15 [.agg (modV m)] h0 = some (.ret (.agg (mapV m)), h0) := by
  have h := gNewMap_loop m hm m.funcs 0 m.globals.length [] rfl (by omega) rfl (by have := hm.1; omega)
  rw [gNewMap_run, gNewMap_eq]
  exact (congrArg (withH true h0) h).trans (by rw [withH_true]; rfl)
theorem gmin_spec (fn : Int) (h0 : H) : run w0 39 [.agg (mapV m), I fn] h0 = some (.ret (B (getF m fn).isSome), h0) := by
  rw [gmin_run, gmin_eq]
  unfold getF
  by_cases h : 0 ≤ fn
  · rw [if_pos (by simpa using h), withH_true, if_pos h]
    have : decide (fn < ((m.funcs.length : Nat) : Int)) = (m.funcs[fn.toNat]?).isSome := by
      rw [Bool.eq_iff_iff]; simp; omega
    rw [this]
  · rw [if_neg (by simpa using h), withH_true, if_neg h]; rfl
theorem getF_some {fn : Int} {g : MFun} (h : getF m fn = some g) : ∃ n : Nat, fn = n ∧ m.funcs[n]? = some g ∧ n < m.funcs.length := by
  unfold getF at h
  split at h
  · exact ⟨fn.toNat, by omega, h, (List.getElem?_eq_some_iff.1 h).1⟩
  · cases h
include hm in
theorem gmResult_spec (fn : Int) (h0 : H) : run w0 20 [.agg (mapV m), I fn] h0 = some (.ret (I (posAt (3, fn, 0) 0 (varsR m))), h0) := by
  rw [gmResult_run, gmResult_eq, gmin_spec, pB_some, vars_pos m 3 fn 0 (by omega)]
  cases hg : getF m fn with
  | none => rw [if_pos (by simp), withH_true]
  | some g =>
    obtain ⟨n, rfl, h1, h2⟩ := getF_some m hg
    have := first_le m hm (Nat.le_of_lt h2)
    have k1 := (hm.2.2 g (List.mem_of_getElem? h1)).1
    rw [if_neg (by simp), first_at m h2, fun_l h1, wrap_i64 (by omega) (by omega), withH_true]
    simp [inV]
include hm in
theorem gmContent_spec (fn j : Int) (h0 : H) : run w0 21 [.agg (mapV m), I fn, I j] h0 = some (.ret (I (posAt (4, fn, j) 0 (varsR m))), h0) := by
  rw [gmContent_run, gmContent_eq, gmin_spec, pB_some, vars_pos m 4 fn j (by omega)]
  cases hg : getF m fn with
  | none => rw [if_neg (by simp), withH_true]
  | some g =>
    obtain ⟨n, rfl, h1, h2⟩ := getF_some m hg
    have := first_le m hm (Nat.le_of_lt h2)
    obtain ⟨k1, k2, _⟩ := hm.2.2 g (List.mem_of_getElem? h1)
    rw [if_pos (by simp)]
    by_cases hj : j < 0
    · rw [if_neg (by simpa using hj), withH_true]
      dsimp only
      rw [if_neg (show ¬ 0 ≤ inV g 4 j by unfold inV; rw [if_neg (by omega), if_neg (by omega), if_neg (by omega)]; omega)]
    · rw [if_pos (by simpa using hj), fun_s h1]
      by_cases hs : j < g.sites.length
      · rw [if_neg (by simpa using hs), gmResult_spec m hm, pI_some, vars_pos m 3 n 0 (by omega), hg]
        have e3 : inV g 3 0 = g.locals.length := by simp [inV]
        have e4 : inV g 4 j = g.locals.length + 1 + j := by unfold inV; rw [if_neg (by omega), if_neg (by omega), if_pos (by omega)]
        dsimp only
        rw [e3, e4, if_pos (by omega), if_pos (by omega), Int.toNat_natCast, wrap_i64 (n := (firstR m n : Int) + (g.locals.length : Int) + 1) (by omega) (by omega), wrap_i64 (by omega) (by omega), withH_true]
        congr 4; omega
      · rw [if_pos (by simp; omega), withH_true]
        dsimp only
        rw [if_neg (show ¬ 0 ≤ inV g 4 j by unfold inV; rw [if_neg (by omega), if_neg (by omega), if_neg (by omega)]; omega)]
end
end Go.Proofs.Ytlddnplflakmiaa
