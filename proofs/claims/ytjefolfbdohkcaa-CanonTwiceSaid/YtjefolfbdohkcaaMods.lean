/-
  Modules, as plain data; how they lie among frozen cells.
-/
import Derived.Test.YtjefolfbdohkcaaAbsWords
set_option autoImplicit false
set_option linter.unusedVariables false
namespace Go.Abs
open Go
instance instDecBA : DecidableEq ByteArray := fun a b => decidable_of_iff (a.data = b.data) ⟨fun h => by cases a; cases b; simp_all, fun h => by rw [h]⟩
theorem ba_beq (a b : ByteArray) : (a == b) = decide (a = b) := by
  rw [Bool.eq_iff_iff, decide_eq_true_iff]
  show (a.data == b.data) = true ↔ _
  rw [beq_iff_eq]
  exact ⟨fun h => by cases a; cases b; simp_all, fun h => by rw [h]⟩
instance instLawBA : LawfulBEq ByteArray where
  eq_of_beq h := by rw [ba_beq] at h; exact of_decide_eq_true h
  rfl := by intro a; rw [ba_beq]; simp
structure MRef where
  k : Int
  id : Int
  deriving DecidableEq, Inhabited
inductive MStmt where
  | mk (kind : Int) (a b : MRef) (args : List MRef) (body : List MStmt)
  deriving Inhabited
def MStmt.kind : MStmt → Int | .mk k _ _ _ _ => k
def MStmt.a : MStmt → MRef | .mk _ a _ _ _ => a
def MStmt.b : MStmt → MRef | .mk _ _ b _ _ => b
def MStmt.args : MStmt → List MRef | .mk _ _ _ l _ => l
def MStmt.body : MStmt → List MStmt | .mk _ _ _ _ l => l
structure MFun where
  name : Int
  params : Int
  locals : List Int
  sites : List Int
  body : List MStmt
  deriving Inhabited
structure Mod where
  strings : List ByteArray
  globals : List Int
  funcs : List MFun
  entries : List Int
  deriving Inhabited
structure MItem where
  n : Nat
  deep : Nat
  s : MStmt
/-! ### cells -/
def MRef.F (r : MRef) : List F := [.s (.int .u8 r.k), .s (.int .i64 r.id)]
abbrev refsF (l : List MRef) : List F := l.flatMap MRef.F
def MStmt.F : MStmt → List F
  | .mk k a b args body => [.s (.int .u8 k), .s (.int .u8 a.k), .s (.int .i64 a.id), .s (.int .u8 b.k), .s (.int .i64 b.id), .lst args.length (refsF args), .lst body.length (body.flatMap MStmt.F)]
abbrev stmtsF (l : List MStmt) : List F := l.flatMap MStmt.F
def MFun.F (f : MFun) : List F := [.s (.int .i64 f.name), .s (.int .i64 f.params), .lst f.locals.length (kF .i64 f.locals), .lst f.sites.length (kF .i64 f.sites), .lst f.body.length (stmtsF f.body)]
abbrev funsF (l : List MFun) : List F := l.flatMap MFun.F
def MItem.F (x : MItem) : List F := [.s (.int .i64 x.n), .s (.int .i64 x.deep)] ++ x.s.F
abbrev itemsF (l : List MItem) : List F := l.flatMap MItem.F
abbrev refV (r : MRef) : List V := [N .u8 r.k, N .i64 r.id]
abbrev stmtV (s : MStmt) : List V := [N .u8 s.kind, N .u8 s.a.k, N .i64 s.a.id, N .u8 s.b.k, N .i64 s.b.id, .f (.lst s.args.length (refsF s.args)), .f (.lst s.body.length (stmtsF s.body))]
abbrev funV (f : MFun) : List V := [N .i64 f.name, N .i64 f.params, .f (.lst f.locals.length (kF .i64 f.locals)), .f (.lst f.sites.length (kF .i64 f.sites)), .f (.lst f.body.length (stmtsF f.body))]
abbrev modV (m : Mod) : List V := [.f (.lst m.strings.length (sF m.strings)), .f (.lst m.globals.length (kF .i64 m.globals)), .f (.lst m.funcs.length (funsF m.funcs)), .f (.lst m.entries.length (kF .i64 m.entries))]
theorem MRef.F_len (r : MRef) : r.F.length = 2 := rfl
theorem MStmt.F_eq (s : MStmt) : s.F = [.s (.int .u8 s.kind), .s (.int .u8 s.a.k), .s (.int .i64 s.a.id), .s (.int .u8 s.b.k), .s (.int .i64 s.b.id), .lst s.args.length (refsF s.args), .lst s.body.length (stmtsF s.body)] := by
  cases s; rw [MStmt.F]; rfl
theorem MStmt.F_len (s : MStmt) : s.F.length = 7 := by rw [MStmt.F_eq]; rfl
theorem MFun.F_len (f : MFun) : f.F.length = 5 := rfl
theorem MItem.F_len (x : MItem) : x.F.length = 9 := by simp [MItem.F, MStmt.F_len]
/-! ### rows of things of some cells each -/
section
variable {α : Type} {f : α → List F} {es : Nat}
theorem flat_len (hf : ∀ a, (f a).length = es) (l : List α) : (l.flatMap f).length = l.length * es := by
  induction l with
  | nil => simp
  | cons a l ih => rw [List.flatMap_cons, List.length_append, ih, hf, List.length_cons, Nat.add_mul, Nat.one_mul, Nat.add_comm]
theorem flat_drop (hf : ∀ a, (f a).length = es) : ∀ (i : Nat) (l : List α), (l.flatMap f).drop (i * es) = (l.drop i).flatMap f
  | 0, l => by simp
  | i + 1, [] => by simp
  | i + 1, a :: l => by
    rw [List.flatMap_cons, List.drop_succ_cons, ← flat_drop hf i l, Nat.add_mul, Nat.one_mul, Nat.add_comm, ← List.drop_drop, List.drop_left' (hf a)]
theorem lt_of_drop {l rest : List α} {x : α} {i : Nat} (h : l.drop i = x :: rest) : i < l.length := by
  rcases Nat.lt_or_ge i l.length with h' | h'
  · exact h'
  · have := congrArg List.length h; simp at this; omega
theorem drop_next {l rest : List α} {x : α} {i : Nat} (h : l.drop i = x :: rest) : l.drop (i + 1) = rest := by rw [← List.drop_drop, h]; rfl
theorem done_of_drop {l : List α} {i : Nat} (h : l.drop i = []) : l.length ≤ i := by
  rcases Nat.lt_or_ge i l.length with h' | h'
  · have := congrArg List.length h; simp at this; omega
  · exact h'
theorem drop_get {l : List α} {i : Nat} (h : i < l.length) : l.drop i = l[i] :: l.drop (i + 1) := List.drop_eq_getElem_cons h
theorem elem_next (hf : ∀ a, (f a).length = es) {l rest : List α} {x : α} {i : Nat} (h : l.drop i = x :: rest) (K : List F → R) : elem (.lst l.length (l.flatMap f)) (i : Int) es K = K (f x ++ rest.flatMap f) := by
  have := lt_of_drop h
  rw [elem_in (by omega) (by omega), Int.toNat_natCast, flat_drop hf, h, List.flatMap_cons]
end
theorem kF_cons (k : IntKind) (n : Int) (l : List Int) : kF k (n :: l) = .s (.int k n) :: kF k l := rfl
theorem kF_append (k : IntKind) (l m : List Int) : kF k (l ++ m) = kF k l ++ kF k m := by simp [kF]
theorem sF_append (l m : List ByteArray) : sF (l ++ m) = sF l ++ sF m := by simp [sF]
theorem kF_drop (k : IntKind) (l : List Int) (i : Nat) : (kF k l).drop i = kF k (l.drop i) := by simp [kF]
theorem sF_drop (l : List ByteArray) (i : Nat) : (sF l).drop i = sF (l.drop i) := by simp [sF]
theorem elem_kF {k : IntKind} {l rest : List Int} {x : Int} {i : Nat} (h : l.drop i = x :: rest) (K : List F → R) : elem (.lst l.length (kF k l)) (i : Int) 1 K = K (.s (.int k x) :: kF k rest) := by
  have := lt_of_drop h
  rw [elem_in (by omega) (by omega), Int.toNat_natCast, Nat.mul_one, kF_drop, h]; rfl
theorem elem_sF {l rest : List ByteArray} {x : ByteArray} {i : Nat} (h : l.drop i = x :: rest) (K : List F → R) : elem (.lst l.length (sF l)) (i : Int) 1 K = K (.s (.string x) :: sF rest) := by
  have := lt_of_drop h
  rw [elem_in (by omega) (by omega), Int.toNat_natCast, Nat.mul_one, sF_drop, h]; rfl
@[simp] theorem atI_zero (k : IntKind) (n : Int) (r : List F) (K : Int → R) : atI k (.s (.int k n) :: r) 0 K = K n := by simp [atI, F.int?]
@[simp] theorem atS_zero (s : ByteArray) (r : List F) (K : ByteArray → R) : atS (.s (.string s) :: r) 0 K = K s := by simp [atS, F.str?]
@[simp] theorem atB_zero (s : Bool) (r : List F) (K : Bool → R) : atB (.s (.bool s) :: r) 0 K = K s := by simp [atB, F.bool?]
@[simp] theorem atL_zero (n : Nat) (cs r : List F) (K : Nat → List F → R) : atL (.lst n cs :: r) 0 K = K n cs := by simp [atL, F.sl?]
@[simp] theorem atI_succ (k : IntKind) (x : F) (r : List F) (j : Nat) (K : Int → R) : atI k (x :: r) (j + 1) K = atI k r j K := by simp [atI]
@[simp] theorem atS_succ (x : F) (r : List F) (j : Nat) (K : ByteArray → R) : atS (x :: r) (j + 1) K = atS r j K := by simp [atS]
@[simp] theorem atB_succ (x : F) (r : List F) (j : Nat) (K : Bool → R) : atB (x :: r) (j + 1) K = atB r j K := by simp [atB]
@[simp] theorem atL_succ (x : F) (r : List F) (j : Nat) (K : Nat → List F → R) : atL (x :: r) (j + 1) K = atL r j K := by simp [atL]
/-! ### maps -/
theorem mfind_put_str (s t : ByteArray) (x : F) : ∀ es : List (Value × F), mfind (.string s) (mput (.string t) x es) = if s = t then some x else mfind (.string s) es
  | [] => by simp [mput, mfind, sameKey, ba_beq]
  | (a, y) :: r => by
    simp only [mput]
    split
    · rename_i h
      simp only [mfind]
      cases a <;> simp only [sameKey, ba_beq] at h <;> try cases h
      rename_i u
      simp at h
      subst h
      simp only [sameKey, ba_beq]
      by_cases hs : s = t <;> simp [hs]
    · rename_i h
      simp only [mfind, mfind_put_str s t x r]
      split
      · rename_i h1
        cases a <;> simp only [sameKey, ba_beq] at h1 h <;> try cases h1
        rename_i u
        simp at h1 h
        subst h1
        rw [if_neg (fun e => h e.symm)]
      · rfl
theorem mfind_put_int (k : IntKind) (s t : Int) (x : F) : ∀ es : List (Value × F), mfind (.int k s) (mput (.int k t) x es) = if s = t then some x else mfind (.int k s) es
  | [] => by simp [mput, mfind, sameKey]
  | (a, y) :: r => by
    simp only [mput]
    split
    · rename_i h
      simp only [mfind]
      cases a <;> try (simp [sameKey] at h; done)
      rename_i k' u
      simp only [sameKey] at h
      simp at h
      obtain ⟨rfl, rfl⟩ := h
      simp only [sameKey]
      by_cases hs : s = t <;> simp [hs]
    · rename_i h
      simp only [mfind, mfind_put_int k s t x r]
      split
      · rename_i h1
        cases a <;> simp only [sameKey] at h1 h <;> try cases h1
        rename_i k' u
        simp at h1 h
        obtain ⟨rfl, rfl⟩ := h1
        rw [if_neg (fun e => h rfl e.symm)]
      · rfl
end Go.Abs
