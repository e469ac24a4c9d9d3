/-
  What a module's constraints are, in plain words; how rows grow.
-/
import Derived.Test.YtlddnplflakmiaaRuleSpec
import Derived.Test.YtlddnplflakmiaaGens
set_option autoImplicit false
set_option linter.unusedVariables false
set_option linter.unusedSimpArgs false
namespace Go.Proofs.Ytlddnplflakmiaa
open Go Go.Abs
/-- few of each -/
def okF (f : MFun) : Prop := f.locals.length ≤ 100 ∧ f.sites.length ≤ 100 ∧ 0 ≤ f.params ∧ f.params ≤ f.locals.length
def okM (m : Mod) : Prop := m.globals.length ≤ 100 ∧ m.funcs.length ≤ 100 ∧ ∀ f ∈ m.funcs, okF f
theorem fun_at {m : Mod} {n : Nat} {g : MFun} (h : m.funcs[n]? = some g) : ∃ r, ∀ K, elem (.lst m.funcs.length (funsF m.funcs)) (n : Int) 5 K = K (g.F ++ r) := by
  obtain ⟨hn, rfl⟩ := List.getElem?_eq_some_iff.1 h
  exact ⟨_, fun K => elem_next MFun.F_len (drop_get hn) K⟩
theorem mem_of_drop {α : Type} {l rest : List α} {x : α} {i : Nat} (h : l.drop i = x :: rest) : x ∈ l := List.mem_of_mem_drop (by rw [h]; simp : x ∈ l.drop i)
theorem fun_l {m : Mod} {n : Nat} {g : MFun} (h : m.funcs[n]? = some g) (K : Nat → List F → R) : (elem (.lst m.funcs.length (funsF m.funcs)) (n : Int) 5 fun c => atL (c.drop 2) 0 K) = K g.locals.length (kF .i64 g.locals) := by
  obtain ⟨r, he⟩ := fun_at h
  rw [he]; simp [MFun.F]
theorem fun_s {m : Mod} {n : Nat} {g : MFun} (h : m.funcs[n]? = some g) (K : Nat → List F → R) : (elem (.lst m.funcs.length (funsF m.funcs)) (n : Int) 5 fun c => atL (c.drop 3) 0 K) = K g.sites.length (kF .i64 g.sites) := by
  obtain ⟨r, he⟩ := fun_at h
  rw [he]; simp [MFun.F]
theorem fun_p {m : Mod} {n : Nat} {g : MFun} (h : m.funcs[n]? = some g) (K : Int → R) : (elem (.lst m.funcs.length (funsF m.funcs)) (n : Int) 5 fun c => atI .i64 (c.drop 1) 0 K) = K g.params := by
  obtain ⟨r, he⟩ := fun_at h
  rw [he]; simp [MFun.F]
/-- what a reference names -/
def ofR (fn : Int) (r : MRef) : Thing := if r.k = 2 then (2, 0, r.id) else if r.k = 3 then (3, r.id, 0) else (r.k, fn, r.id)
abbrev mL (m : Mod) {α : Type} (k : Nat → List F → Nat → List F → Nat → List F → Nat → List F → α) : α := k m.strings.length (sF m.strings) m.globals.length (kF .i64 m.globals) m.funcs.length (funsF m.funcs) m.entries.length (kF .i64 m.entries)
section
variable (m : Mod)
def argsT (m : Mod) (f : Int) : Nat → Nat → List Int
  | _, 0 => []
  | k, n + 1 => posAt (1, f, (k : Int)) 0 (varsR m) :: argsT m f (k + 1) n
theorem argsT_len (m : Mod) (f : Int) : ∀ (n k : Nat), (argsT m f k n).length = n
  | 0, _ => rfl
  | n + 1, k => by simp [argsT, argsT_len m f n]
/-- the object that a thing is -/
def cellT (m : Mod) (t : Thing) : MCell := if t.1 = 3 then ⟨true, posAt t 0 (varsR m), argsT m t.2.1 0 (match getF m t.2.1 with | some g => g.params.toNat | none => 0)⟩ else ⟨false, posAt t 0 (varsR m), []⟩
def parT (m : Mod) (f : Int) : Nat → List Int → List MCon
  | _, [] => []
  | k, n :: r => ⟨2, posAt (1, f, (k : Int)) 0 (varsR m), n, []⟩ :: parT m f (k + 1) r
/-- a statement's constraints -/
def consT (m : Mod) (f : Nat) (s : MStmt) : List MCon :=
  if s.kind = 1 then [⟨1, posAt (ofR f s.a) 0 (varsR m), posAt (ofR f s.b) 0 (cellsR m), []⟩]
  else if s.kind = 2 then [⟨2, posAt (ofR f s.a) 0 (varsR m), posAt (ofR f s.b) 0 (varsR m), []⟩]
  else if s.kind = 3 then [⟨3, posAt (ofR f s.a) 0 (varsR m), posAt (ofR f s.b) 0 (varsR m), []⟩]
  else if s.kind = 4 then [⟨4, posAt (ofR f s.a) 0 (varsR m), posAt (ofR f s.b) 0 (varsR m), []⟩]
  else if s.kind = 6 then [⟨2, posAt (3, (f : Int), 0) 0 (varsR m), posAt (ofR f s.b) 0 (varsR m), []⟩]
  else if s.kind = 5 then
    if s.b.k ≠ 3 then [⟨5, if s.a.k = 0 then -1 else posAt (ofR f s.a) 0 (varsR m), posAt (ofR f s.b) 0 (varsR m), s.args.map fun r => posAt (ofR f r) 0 (varsR m)⟩]
    else parT m s.b.id 0 (s.args.map fun r => posAt (ofR f r) 0 (varsR m)) ++ (if 0 ≤ (if s.a.k = 0 then -1 else posAt (ofR f s.a) 0 (varsR m)) then [⟨2, if s.a.k = 0 then -1 else posAt (ofR f s.a) 0 (varsR m), posAt (3, s.b.id, 0) 0 (varsR m), []⟩] else [])
  else []
def consFrom (m : Mod) : Nat → List MFun → List MCon
  | _, [] => []
  | f, g :: r => (flats 0 0 g.body).flatMap (fun x => consT m f x.s) ++ consFrom m (f + 1) r
def sysT (m : Mod) : MSys := ⟨(varsR m).length, (cellsR m).map (cellT m), consFrom m 0 m.funcs⟩
theorem parT_len (m : Mod) (f : Int) : ∀ (l : List Int) (k : Nat), (parT m f k l).length = l.length
  | [], _ => rfl
  | n :: r, k => by simp [parT, parT_len m f r]
/-- few statements, few arguments -/
def okB (m : Mod) : Prop := ∀ f ∈ m.funcs, (flats 0 0 f.body).length ≤ 1000 ∧ ∀ x ∈ flats 0 0 f.body, x.s.args.length ≤ 100
theorem consT_len (m : Mod) (f : Nat) (s : MStmt) : (consT m f s).length ≤ s.args.length + 1 := by
  unfold consT
  repeat' split
  all_goals simp [parT_len]
theorem fromF_le {b : Int → MFun → List Thing} (hl : ∀ f g, (b f g).length = szF g) : ∀ (fs : List MFun) (f : Nat), (∀ g ∈ fs, okF g) → (fromF b f fs).length ≤ fs.length * 201
  | [], _, _ => by simp [fromF]
  | g :: r, f, h => by
    have := fromF_le hl r (f + 1) fun g hg => h g (by simp [hg])
    obtain ⟨h1, h2, _⟩ := h g (by simp)
    simp only [fromF, List.length_append, hl, List.length_cons]
    unfold szF; omega
theorem cells_le (m : Mod) (hm : okM m) : (cellsR m).length ≤ 30000 := by
  have := fromF_le cellsOfF_len m.funcs 0 hm.2.2
  have h1 := hm.1; have h2 := hm.2.1
  simp only [cellsR, List.length_append, blk_len]; omega
/-- rows that stay -/
theorem row3 (cc : List MCell) : cc.length * 3 ≤ (cellsF cc).length ∧ (cellsF cc).take (cc.length * 3) = cellsF cc := by
  have : (cellsF cc).length = cc.length * 3 := flat_len MCell.F_len cc
  exact ⟨by omega, List.take_of_length_le (by omega)⟩
theorem row4 (kk : List MCon) : kk.length * 4 ≤ (consF kk).length ∧ (consF kk).take (kk.length * 4) = consF kk := by
  have : (consF kk).length = kk.length * 4 := flat_len MCon.F_len kk
  exact ⟨by omega, List.take_of_length_le (by omega)⟩
theorem row4s (kk : List MCon) (x y z w : F) : (kk.length + 1) * 4 ≤ (consF kk ++ [x, y, z, w]).length ∧ (consF kk ++ [x, y, z, w]).take ((kk.length + 1) * 4) = consF kk ++ [x, y, z, w] := by
  have h : (consF kk).length = kk.length * 4 := flat_len MCon.F_len kk
  have : (consF kk ++ [x, y, z, w]).length = (kk.length + 1) * 4 := by rw [List.length_append, h]; simp; omega
  exact ⟨by omega, List.take_of_length_le (by omega)⟩
theorem row3s (kk : List MCell) (x y z : F) : (kk.length + 1) * 3 ≤ (cellsF kk ++ [x, y, z]).length ∧ (cellsF kk ++ [x, y, z]).take ((kk.length + 1) * 3) = cellsF kk ++ [x, y, z] := by
  have h : (cellsF kk).length = kk.length * 3 := flat_len MCell.F_len kk
  have : (cellsF kk ++ [x, y, z]).length = (kk.length + 1) * 3 := by rw [List.length_append, h]; simp; omega
  exact ⟨by omega, List.take_of_length_le (by omega)⟩
def tailT (m : Mod) (f a : Int) : List MCon := if 0 ≤ a then [⟨2, a, posAt (3, f, 0) 0 (varsR m), []⟩] else []
end
end Go.Proofs.Ytlddnplflakmiaa
