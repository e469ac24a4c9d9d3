/-
  A module's variables, objects and constraints, in plain words.
-/
import Derived.Test.YtlddnplflakmiaaRules
import Derived.Test.YtlddnplflakmiaaSystDef
set_option autoImplicit false
namespace Go.Proofs.Ytlddnplflakmiaa
open Go Go.Abs
/-- a variable, or an object: its kind, its function, its number -/
abbrev Thing := Int × Int × Int
def blk (k f : Int) : Nat → Nat → List Thing
  | _, 0 => []
  | i, n + 1 => (k, f, (i : Int)) :: blk k f (i + 1) n
def varsOfF (f : Int) (g : MFun) : List Thing := blk 1 f 0 g.locals.length ++ ((3, f, 0) :: blk 4 f 0 g.sites.length)
def cellsOfF (f : Int) (g : MFun) : List Thing := (3, f, 0) :: (blk 1 f 0 g.locals.length ++ blk 4 f 0 g.sites.length)
def fromF (b : Int → MFun → List Thing) : Nat → List MFun → List Thing
  | _, [] => []
  | f, g :: r => b f g ++ fromF b (f + 1) r
def varsR (m : Mod) : List Thing := blk 2 0 0 m.globals.length ++ fromF varsOfF 0 m.funcs
def cellsR (m : Mod) : List Thing := blk 2 0 0 m.globals.length ++ fromF cellsOfF 0 m.funcs
/-- the place of a thing -/
def posAt (x : Thing) : Nat → List Thing → Int
  | _, [] => -1
  | i, y :: r => if y = x then i else posAt x (i + 1) r
theorem posAt_append (x : Thing) : ∀ (l r : List Thing) (i : Nat), posAt x i (l ++ r) = if x ∈ l then posAt x i l else posAt x (i + l.length) r
  | [], r, i => by simp
  | y :: l, r, i => by
    rw [List.cons_append, posAt]
    by_cases h : y = x
    · subst h; simp [posAt]
    · have h' : x ≠ y := fun e => h e.symm
      rw [if_neg h, posAt_append x l r (i + 1)]
      by_cases hm : x ∈ l
      · simp [hm, posAt, h]
      · simp only [hm, List.mem_cons, h', if_false, or_self, List.length_cons]
        rw [show i + 1 + l.length = i + (l.length + 1) by omega]
theorem posAt_none {x : Thing} : ∀ {l : List Thing} {i : Nat}, x ∉ l → posAt x i l = -1
  | [], _, _ => rfl
  | y :: l, i, h => by
    rw [posAt, if_neg (fun e => h (by simp [e])), posAt_none (fun hm => h (by simp [hm]))]
theorem blk_len (k f : Int) : ∀ (n i : Nat), (blk k f i n).length = n
  | 0, _ => rfl
  | n + 1, i => by simp [blk, blk_len k f n]
theorem mem_blk {k f a b j : Int} : ∀ {n i : Nat}, ((a, b, j) : Thing) ∈ blk k f i n ↔ a = k ∧ b = f ∧ (i : Int) ≤ j ∧ j < i + n
  | 0, i => by
    simp only [blk, List.not_mem_nil, false_iff]; omega
  | n + 1, i => by
    rw [blk, List.mem_cons, mem_blk (n := n)]
    simp only [Prod.mk.injEq]
    omega
theorem posAt_blk {k f j : Int} : ∀ {n i o : Nat}, (i : Int) ≤ j → j < i + n → posAt (k, f, j) o (blk k f i n) = o + (j - i)
  | 0, i, o, h1, h2 => by omega
  | n + 1, i, o, h1, h2 => by
    rw [blk, posAt]
    by_cases h : (i : Int) = j
    · rw [if_pos (by simp [h])]; omega
    · rw [if_neg (by simp [h]), posAt_blk (by omega) (by omega)]; omega
def szF (g : MFun) : Nat := g.locals.length + 1 + g.sites.length
theorem varsOfF_len (f : Int) (g : MFun) : (varsOfF f g).length = szF g := by simp [varsOfF, blk_len, szF]; omega
theorem cellsOfF_len (f : Int) (g : MFun) : (cellsOfF f g).length = szF g := by simp [cellsOfF, blk_len, szF]; omega
def offF : List MFun → Nat → Nat
  | _, 0 => 0
  | [], _ + 1 => 0
  | g :: r, n + 1 => szF g + offF r n
/-- within a function: its variables -/
def inV (g : MFun) (k j : Int) : Int := if k = 1 ∧ 0 ≤ j ∧ j < g.locals.length then j else if k = 3 ∧ j = 0 then g.locals.length else if k = 4 ∧ 0 ≤ j ∧ j < g.sites.length then g.locals.length + 1 + j else -1
def inC (g : MFun) (k j : Int) : Int := if k = 3 ∧ j = 0 then 0 else if k = 1 ∧ 0 ≤ j ∧ j < g.locals.length then 1 + j else if k = 4 ∧ 0 ≤ j ∧ j < g.sites.length then 1 + g.locals.length + j else -1
theorem varsOfF_mem {g : MFun} {f k b j : Int} : ((k, b, j) : Thing) ∈ varsOfF f g ↔ b = f ∧ 0 ≤ inV g k j := by
  unfold varsOfF inV
  rw [List.mem_append, List.mem_cons, mem_blk, mem_blk]
  simp only [Prod.mk.injEq]
  split
  · omega
  · split
    · omega
    · split <;> omega
theorem cellsOfF_mem {g : MFun} {f k b j : Int} : ((k, b, j) : Thing) ∈ cellsOfF f g ↔ b = f ∧ 0 ≤ inC g k j := by
  unfold cellsOfF inC
  rw [List.mem_cons, List.mem_append, mem_blk, mem_blk]
  simp only [Prod.mk.injEq]
  split
  · omega
  · split
    · omega
    · split <;> omega
theorem varsOfF_pos {g : MFun} {f k j : Int} {o : Nat} (h : 0 ≤ inV g k j) : posAt (k, f, j) o (varsOfF f g) = o + inV g k j := by
  unfold inV at h ⊢
  unfold varsOfF
  rw [posAt_append]
  split at h
  · rename_i c
    obtain ⟨rfl, h1, h2⟩ := c
    rw [if_pos (mem_blk.2 ⟨rfl, rfl, by omega, by omega⟩), posAt_blk (by omega) (by omega)]
    omega
  · rename_i c
    rw [if_neg (fun hm => c (by have := mem_blk.1 hm; omega)), posAt]
    split at h
    · rename_i c2
      obtain ⟨rfl, rfl⟩ := c2
      rw [if_pos rfl, blk_len]; omega
    · rename_i c2
      split at h
      · rename_i c3
        obtain ⟨rfl, h1, h2⟩ := c3
        rw [if_neg (by simp), blk_len, posAt_blk (by omega) (by omega)]
        omega
      · omega
theorem cellsOfF_pos {g : MFun} {f k j : Int} {o : Nat} (h : 0 ≤ inC g k j) : posAt (k, f, j) o (cellsOfF f g) = o + inC g k j := by
  unfold inC at h ⊢
  unfold cellsOfF
  rw [posAt]
  split at h
  · rename_i c
    obtain ⟨rfl, rfl⟩ := c
    rw [if_pos rfl]; omega
  · rename_i c
    rw [if_neg (fun e => by simp only [Prod.mk.injEq] at e; exact c ⟨e.1.symm, e.2.2.symm⟩), posAt_append]
    split at h
    · rename_i c2
      obtain ⟨rfl, h1, h2⟩ := c2
      rw [if_pos (mem_blk.2 ⟨rfl, rfl, by omega, by omega⟩), posAt_blk (by omega) (by omega)]
      omega
    · rename_i c2
      rw [if_neg (fun hm => c2 (by have := mem_blk.1 hm; omega))]
      split at h
      · rename_i c3
        obtain ⟨rfl, h1, h2⟩ := c3
        rw [blk_len, posAt_blk (by omega) (by omega)]
        omega
      · omega
section
variable {b : Int → MFun → List Thing} {pf : MFun → Int → Int → Int} (hl : ∀ f g, (b f g).length = szF g) (hm : ∀ g f k c j, ((k, c, j) : Thing) ∈ b f g ↔ c = f ∧ 0 ≤ pf g k j) (hp : ∀ g f k j o, 0 ≤ pf g k j → posAt (k, f, j) o (b f g) = (o : Int) + pf g k j)
include hm in
theorem fromF_mem : ∀ (fs : List MFun) (f0 : Nat) (k c j : Int), ((k, c, j) : Thing) ∈ fromF b f0 fs → (f0 : Int) ≤ c
  | [], _, _, _, _, h => by simp [fromF] at h
  | g :: r, f0, k, c, j, h => by
    rw [fromF, List.mem_append] at h
    rcases h with h | h
    · have := ((hm ..).1 h).1; omega
    · have := fromF_mem r (f0 + 1) k c j h; omega
include hl hm hp in
theorem fromF_pos : ∀ (fs : List MFun) (f0 i n : Nat) (k j : Int), posAt (k, ((f0 + n : Nat) : Int), j) i (fromF b f0 fs) = match fs[n]? with
    | some g => if 0 ≤ pf g k j then (i : Int) + offF fs n + pf g k j else -1
    | none => -1
  | [], f0, i, n, k, j => by simp [fromF, posAt]
  | g :: r, f0, i, 0, k, j => by
    rw [fromF, posAt_append]
    simp only [List.getElem?_cons_zero, Nat.add_zero, offF]
    by_cases h : 0 ≤ pf g k j
    · rw [if_pos ((hm ..).2 ⟨rfl, h⟩), if_pos h, hp _ _ _ _ _ h]; simp
    · rw [if_neg (fun hx => h ((hm ..).1 hx).2), if_neg h]
      exact posAt_none fun hx => by have := fromF_mem hm r (f0 + 1) _ _ _ hx; omega
  | g :: r, f0, i, n + 1, k, j => by
    rw [fromF, posAt_append, if_neg (fun hx => by have := ((hm ..).1 hx).1; omega), hl, show f0 + (n + 1) = f0 + 1 + n by omega, fromF_pos r (f0 + 1) (i + szF g) n k j]
    simp only [List.getElem?_cons_succ, offF]
    cases r[n]? with
    | none => rfl
    | some g' => dsimp only; split
                 · simp [Int.add_assoc]
                 · rfl
end
/-- a function's first variable, and object -/
def firstR (m : Mod) (f : Nat) : Nat := m.globals.length + offF m.funcs f
def getF (m : Mod) (f : Int) : Option MFun := if 0 ≤ f then m.funcs[f.toNat]? else none
theorem vars_pos (m : Mod) (k f j : Int) (hk : k ≠ 2) : posAt (k, f, j) 0 (varsR m) = match getF m f with
    | some g => if 0 ≤ inV g k j then firstR m f.toNat + inV g k j else -1
    | none => -1 := by
  unfold varsR getF
  rw [posAt_append, if_neg (fun hx => hk (mem_blk.1 hx).1), blk_len]
  by_cases hf : 0 ≤ f
  · obtain ⟨n, rfl⟩ : ∃ n : Nat, f = n := ⟨f.toNat, by omega⟩
    have := fromF_pos (b := varsOfF) (pf := inV) varsOfF_len (fun g f k c j => varsOfF_mem) (fun g f k j o h => varsOfF_pos h) m.funcs 0 (0 + m.globals.length) n k j
    rw [Nat.zero_add] at this
    rw [this, if_pos hf, Int.toNat_natCast]
    cases m.funcs[n]? with
    | none => rfl
    | some g => dsimp only; unfold firstR; split <;> simp <;> omega
  · rw [if_neg hf]
    exact posAt_none fun hx => by have := fromF_mem (b := varsOfF) (pf := inV) (fun g f k c j => varsOfF_mem) m.funcs 0 _ _ _ hx; omega
theorem cells_pos (m : Mod) (k f j : Int) (hk : k ≠ 2) : posAt (k, f, j) 0 (cellsR m) = match getF m f with
    | some g => if 0 ≤ inC g k j then firstR m f.toNat + inC g k j else -1
    | none => -1 := by
  unfold cellsR getF
  rw [posAt_append, if_neg (fun hx => hk (mem_blk.1 hx).1), blk_len]
  by_cases hf : 0 ≤ f
  · obtain ⟨n, rfl⟩ : ∃ n : Nat, f = n := ⟨f.toNat, by omega⟩
    have := fromF_pos (b := cellsOfF) (pf := inC) cellsOfF_len (fun g f k c j => cellsOfF_mem) (fun g f k j o h => cellsOfF_pos h) m.funcs 0 (0 + m.globals.length) n k j
    rw [Nat.zero_add] at this
    rw [this, if_pos hf, Int.toNat_natCast]
    cases m.funcs[n]? with
    | none => rfl
    | some g => dsimp only; unfold firstR; split <;> simp <;> omega
  · rw [if_neg hf]
    exact posAt_none fun hx => by have := fromF_mem (b := cellsOfF) (pf := inC) (fun g f k c j => cellsOfF_mem) m.funcs 0 _ _ _ hx; omega
theorem fromF_some {b : Int → MFun → List Thing} {x : Thing} : ∀ {fs : List MFun} {f0 : Nat}, x ∈ fromF b f0 fs → ∃ f g, x ∈ b f g
  | [], _, h => by simp [fromF] at h
  | g :: r, f0, h => by
    rw [fromF, List.mem_append] at h
    rcases h with h | h
    · exact ⟨_, _, h⟩
    · exact fromF_some h
theorem vars_posG (m : Mod) (j : Int) : posAt (2, 0, j) 0 (varsR m) = if 0 ≤ j ∧ j < m.globals.length then j else -1 := by
  unfold varsR
  rw [posAt_append]
  by_cases h : 0 ≤ j ∧ j < m.globals.length
  · rw [if_pos (mem_blk.2 ⟨rfl, rfl, by omega, by omega⟩), posAt_blk (by omega) (by omega), if_pos h]; omega
  · rw [if_neg (fun hx => h (by have := mem_blk.1 hx; omega)), if_neg h]
    refine posAt_none fun hx => ?_
    obtain ⟨f, g, hx⟩ := fromF_some hx
    have := (varsOfF_mem.1 hx).2
    simp [inV] at this
theorem cells_posG (m : Mod) (j : Int) : posAt (2, 0, j) 0 (cellsR m) = if 0 ≤ j ∧ j < m.globals.length then j else -1 := by
  unfold cellsR
  rw [posAt_append]
  by_cases h : 0 ≤ j ∧ j < m.globals.length
  · rw [if_pos (mem_blk.2 ⟨rfl, rfl, by omega, by omega⟩), posAt_blk (by omega) (by omega), if_pos h]; omega
  · rw [if_neg (fun hx => h (by have := mem_blk.1 hx; omega)), if_neg h]
    refine posAt_none fun hx => ?_
    obtain ⟨f, g, hx⟩ := fromF_some hx
    have := (cellsOfF_mem.1 hx).2
    simp [inC] at this
end Go.Proofs.Ytlddnplflakmiaa
