/-
  The document's own constraints: what its function answers.
-/
import Derived.Test.YtlddnplflakmiaaGenSpec2
set_option autoImplicit false
set_option linter.unusedVariables false
set_option linter.unusedSimpArgs false
namespace Go.Proofs.Ytlddnplflakmiaa
open Go Go.Abs

def argsT (m : Mod) (f : Int) : Nat → Nat → List Int
  | _, 0 => []
  | k, n + 1 => posAt (1, f, (k : Int)) 0 (varsR m) :: argsT m f (k + 1) n
theorem argsT_len (m : Mod) (f : Int) : ∀ (n k : Nat), (argsT m f k n).length = n
  | 0, _ => rfl
  | n + 1, k => by simp [argsT, argsT_len m f n]
/-- the object that a thing is -/
def cellT (m : Mod) (t : Thing) : MCell := if t.1 = 3 then ⟨true, posAt t 0 (varsR m), argsT m t.2.1 0 (match getF m t.2.1 with | some g => g.params.toNat | none => 0)⟩ else ⟨false, posAt t 0 (varsR m), []⟩
def parT (m : Mod) (f : Int) : Nat → List Int → List MCon
  | _, [] => []
  | k, n :: r => ⟨2, posAt (1, f, (k : Int)) 0 (varsR m), n, []⟩ :: parT m f (k + 1) r
/-- a statement's constraints -/
def consT (m : Mod) (f : Nat) (s : MStmt) : List MCon :=
  if s.kind = 1 then [⟨1, posAt (ofR f s.a) 0 (varsR m), posAt (ofR f s.b) 0 (cellsR m), []⟩]
  else if s.kind = 2 then [⟨2, posAt (ofR f s.a) 0 (varsR m), posAt (ofR f s.b) 0 (varsR m), []⟩]
  else if s.kind = 3 then [⟨3, posAt (ofR f s.a) 0 (varsR m), posAt (ofR f s.b) 0 (varsR m), []⟩]
  else if s.kind = 4 then [⟨4, posAt (ofR f s.a) 0 (varsR m), posAt (ofR f s.b) 0 (varsR m), []⟩]
  else if s.kind = 6 then [⟨2, posAt (3, (f : Int), 0) 0 (varsR m), posAt (ofR f s.b) 0 (varsR m), []⟩]
  else if s.kind = 5 then
    if s.b.k ≠ 3 then [⟨5, if s.a.k = 0 then -1 else posAt (ofR f s.a) 0 (varsR m), posAt (ofR f s.b) 0 (varsR m), s.args.map fun r => posAt (ofR f r) 0 (varsR m)⟩]
    else parT m s.b.id 0 (s.args.map fun r => posAt (ofR f r) 0 (varsR m)) ++ (if 0 ≤ (if s.a.k = 0 then -1 else posAt (ofR f s.a) 0 (varsR m)) then [⟨2, if s.a.k = 0 then -1 else posAt (ofR f s.a) 0 (varsR m), posAt (3, s.b.id, 0) 0 (varsR m), []⟩] else [])
  else []
def consFrom (m : Mod) : Nat → List MFun → List MCon
  | _, [] => []
  | f, g :: r => (flats 0 0 g.body).flatMap (fun x => consT m f x.s) ++ consFrom m (f + 1) r
def sysT (m : Mod) : MSys := ⟨(varsR m).length, (cellsR m).map (cellT m), consFrom m 0 m.funcs⟩
theorem parT_len (m : Mod) (f : Int) : ∀ (l : List Int) (k : Nat), (parT m f k l).length = l.length
  | [], _ => rfl
  | n :: r, k => by simp [parT, parT_len m f r]
/-- few statements, few arguments -/
def okB (m : Mod) : Prop := ∀ f ∈ m.funcs, (flats 0 0 f.body).length ≤ 1000 ∧ ∀ x ∈ flats 0 0 f.body, x.s.args.length ≤ 100
theorem consT_len (m : Mod) (f : Nat) (s : MStmt) : (consT m f s).length ≤ s.args.length + 1 := by
  unfold consT
  repeat' split
  all_goals simp [parT_len]
section
variable (m : Mod) (hm : okM m) (hb : okB m)
abbrev qL (m : Mod) {α : Type} (k : Nat → List F → Nat → List F → Nat → List F → Nat → List F → Nat → List F → Nat → List F → α) : α := k m.strings.length (sF m.strings) m.globals.length (kF .i64 m.globals) m.funcs.length (funsF m.funcs) m.entries.length (kF .i64 m.entries) (varsR m).length (thingsF (varsR m)) (cellsR m).length (thingsF (cellsR m))
theorem fromF_le {b : Int → MFun → List Thing} (hl : ∀ f g, (b f g).length = szF g) : ∀ (fs : List MFun) (f : Nat), (∀ g ∈ fs, okF g) → (fromF b f fs).length ≤ fs.length * 201
  | [], _, _ => by simp [fromF]
  | g :: r, f, h => by
    have := fromF_le hl r (f + 1) fun g hg => h g (by simp [hg])
    obtain ⟨h1, h2, _⟩ := h g (by simp)
    simp only [fromF, List.length_append, hl, List.length_cons]
    unfold szF; omega
include hm in
theorem vars_le : (varsR m).length ≤ 30000 := by
  have := fromF_le varsOfF_len m.funcs 0 hm.2.2
  have h1 := hm.1; have h2 := hm.2.1
  simp only [varsR, List.length_append, blk_len]; omega
include hm in
theorem cells_le : (cellsR m).length ≤ 30000 := by
  have := fromF_le cellsOfF_len m.funcs 0 hm.2.2
  have h1 := hm.1; have h2 := hm.2.1
  simp only [cellsR, List.length_append, blk_len]; omega
theorem thing_0 {l rest : List Thing} {t : Thing} {i : Nat} (h : l.drop i = t :: rest) (K : Int → R) : (elem (.lst l.length (thingsF l)) (i : Int) 3 fun c => atI .u8 (c.drop 0) 0 K) = K t.1 := by
  rw [elem_next Thing.F_len h]; simp
theorem thing_1 {l rest : List Thing} {t : Thing} {i : Nat} (h : l.drop i = t :: rest) (K : Int → R) : (elem (.lst l.length (thingsF l)) (i : Int) 3 fun c => atI .i64 (c.drop 1) 0 K) = K t.2.1 := by
  rw [elem_next Thing.F_len h]; simp
/-- rows that stay -/
theorem row3 (cc : List MCell) : cc.length * 3 ≤ (cellsF cc).length ∧ (cellsF cc).take (cc.length * 3) = cellsF cc := by
  have : (cellsF cc).length = cc.length * 3 := flat_len MCell.F_len cc
  exact ⟨by omega, List.take_of_length_le (by omega)⟩
theorem row4 (kk : List MCon) : kk.length * 4 ≤ (consF kk).length ∧ (consF kk).take (kk.length * 4) = consF kk := by
  have : (consF kk).length = kk.length * 4 := flat_len MCon.F_len kk
  exact ⟨by omega, List.take_of_length_le (by omega)⟩
theorem row4s (kk : List MCon) (x y z w : F) : (kk.length + 1) * 4 ≤ (consF kk ++ [x, y, z, w]).length ∧ (consF kk ++ [x, y, z, w]).take ((kk.length + 1) * 4) = consF kk ++ [x, y, z, w] := by
  have h : (consF kk).length = kk.length * 4 := flat_len MCon.F_len kk
  have : (consF kk ++ [x, y, z, w]).length = (kk.length + 1) * 4 := by rw [List.length_append, h]; simp; omega
  exact ⟨by omega, List.take_of_length_le (by omega)⟩
theorem row3s (kk : List MCell) (x y z : F) : (kk.length + 1) * 3 ≤ (cellsF kk ++ [x, y, z]).length ∧ (cellsF kk ++ [x, y, z]).take ((kk.length + 1) * 3) = cellsF kk ++ [x, y, z] := by
  have h : (cellsF kk).length = kk.length * 3 := flat_len MCell.F_len kk
  have : (cellsF kk ++ [x, y, z]).length = (kk.length + 1) * 3 := by rw [List.length_append, h]; simp; omega
  exact ⟨by omega, List.take_of_length_le (by omega)⟩
include hm in
theorem qS2 {i : Nat} {t : Thing} {rest : List Thing} (hd : (cellsR m).drop i = t :: rest) {f : Nat} {g : MFun} (ht : t.2.1 = f) (hg : m.funcs[f]? = some g) (z v : Int) (cc : List MCell) (kk : List MCon) (b : Bool) (var : Int) :
    ∀ (n k : Nat) (ar : List Int), k + n = g.params.toNat → ar.length = k → qL m qSystem_2 i k z v cc.length kk.length (cellsF cc) (consF kk) b var ar.length (kF .i64 ar) = qL m qSystem_5 i z v cc.length kk.length (cellsF cc) (consF kk) b var (ar ++ argsT m f k n).length (kF .i64 (ar ++ argsT m f k n))
  | 0, k, ar, hk, hl => by
    have hok := hm.2.2 g (List.mem_of_getElem? hg)
    obtain ⟨k1, k2, k3, k4⟩ := hok
    rw [qL, qSystem_2_eq, thing_1 hd, ht, fun_p hg, if_neg (by simp; omega)]
    simp only [Nat.zero_add, Nat.mul_one, List.drop_zero, row3, row4, if_true]
    rw [if_pos (by simp), List.take_of_length_le (by simp)]
    simp [argsT]
  | n + 1, k, ar, hk, hl => by
    have hok := hm.2.2 g (List.mem_of_getElem? hg)
    obtain ⟨k1, k2, k3, k4⟩ := hok
    have hvl := vars_le m hm
    rw [qL, qSystem_2_eq, thing_1 hd, ht, fun_p hg, if_pos (by simp; omega), thing_1 hd, ht, qFind_spec (1, (f : Int), (k : Int)) (varsR m) (by omega), pI_some, wrap_i64 (by omega) (by omega), show ((k : Int) + 1) = ((k + 1 : Nat) : Int) by omega]
    simp only [Nat.zero_add, Nat.mul_one, List.drop_zero, row3, row4, if_true]
    rw [if_pos ⟨trivial, by omega⟩, if_pos (by simp), List.take_of_length_le (l := kF .i64 ar) (by simp), if_pos (by simp), List.take_of_length_le (by simp)]
    have := qS2 hd ht hg z v cc kk b var n (k + 1) (ar ++ [posAt (1, (f : Int), (k : Int)) 0 (varsR m)]) (by omega) (by simp; omega)
    rw [kF_append, List.length_append, List.length_singleton] at this
    refine Eq.trans this ?_
    simp [argsT]
theorem fromF_fun {x : Thing} : ∀ {fs : List MFun} {f0 : Nat}, x ∈ fromF cellsOfF f0 fs → ∃ (n : Nat) (g : MFun), fs[n]? = some g ∧ x.2.1 = ((f0 + n : Nat) : Int)
  | [], _, h => by simp [fromF] at h
  | g :: r, f0, h => by
    rw [fromF, List.mem_append] at h
    rcases h with h | h
    · rcases x with ⟨k, b, j⟩
      exact ⟨0, g, rfl, (cellsOfF_mem.1 h).1⟩
    · obtain ⟨n, g', h1, h2⟩ := fromF_fun h
      exact ⟨n + 1, g', h1, by rw [h2]; omega⟩
theorem cells_fun {x : Thing} (h : x ∈ cellsR m) (h3 : x.1 = 3) : ∃ (n : Nat) (g : MFun), m.funcs[n]? = some g ∧ x.2.1 = (n : Int) := by
  unfold cellsR at h
  rw [List.mem_append] at h
  rcases h with h | h
  · rcases x with ⟨k, b, j⟩
    have := (mem_blk.1 h).1
    dsimp only at h3; omega
  · obtain ⟨n, g, h1, h2⟩ := fromF_fun h
    exact ⟨n, g, h1, by rw [h2]; omega⟩
include hm in
theorem qS1 (z v : Int) : ∀ (rest : List Thing) (i : Nat) (cc : List MCell), (cellsR m).drop i = rest → i ≤ (cellsR m).length → cc.length = i →
    qL m qSystem_1 i z v cc.length ([] : List MCon).length (cellsF cc) (consF []) = qL m qSystem_4 0 z v (cc ++ rest.map (cellT m)).length ([] : List MCon).length (cellsF (cc ++ rest.map (cellT m))) (consF [])
  | [], i, cc, hd, hi, hl => by
    have := done_of_drop hd
    rw [qL, qSystem_1_eq, if_neg (by simp; omega)]
    simp only [Nat.zero_add, Nat.mul_one, List.drop_zero, row3, row4, if_true]
    simp
  | t :: rest, i, cc, hd, hi, hl => by
    have hlt := lt_of_drop hd
    have hcl := cells_le m hm
    have hvl := vars_le m hm
    have ih := qS1 z v rest (i + 1) (cc ++ [cellT m t]) (drop_next hd) (by omega) (by simp; omega)
    rw [qL, qSystem_1_eq, if_pos (by simp; omega), elem_next Thing.F_len hd]
    simp only [Thing.F, List.cons_append, atI_zero, atI_succ]
    rw [qFind_spec t (varsR m) (by omega), pI_some, thing_0 hd]
    have fin : ∀ c : MCell, c = cellT m t → qL m qSystem_1 ((i + 1 : Nat) : Int) z v (cc.length + 1) ([] : List MCon).length (cellsF cc ++ c.F) (consF []) = qL m qSystem_4 0 z v (cc ++ (t :: rest).map (cellT m)).length ([] : List MCon).length (cellsF (cc ++ (t :: rest).map (cellT m))) (consF []) := by
      intro c hc
      subst hc
      have e : cellsF (cc ++ [cellT m t]) = cellsF cc ++ (cellT m t).F := by simp [cellsF]
      rw [e, List.length_append, List.length_singleton] at ih
      refine Eq.trans ih ?_
      simp
    by_cases h3 : t.1 = 3
    · obtain ⟨f, g, hg, hf⟩ := cells_fun m (mem_of_drop hd) h3
      rw [if_pos (by simp [h3])]
      simp only [Nat.zero_add, Nat.mul_one, List.drop_zero, row3, row4, if_true]
      refine (qS2 m hm hd hf hg z v cc [] true (posAt t 0 (varsR m)) g.params.toNat 0 [] (by omega) rfl).trans ?_
      have hok := hm.2.2 g (List.mem_of_getElem? hg)
      rw [qL, qSystem_5_eq, wrap_i64 (by omega) (by omega), show ((i : Int) + 1) = ((i + 1 : Nat) : Int) by omega]
      simp only [Nat.zero_add, Nat.mul_one, List.drop_zero, row3, row4, row3s, if_true]
      rw [if_pos ⟨trivial, by omega⟩]
      refine fin ⟨true, posAt t 0 (varsR m), [] ++ argsT m f 0 g.params.toNat⟩ ?_
      have hgf : getF m t.2.1 = some g := by unfold getF; rw [hf, if_pos (by omega), Int.toNat_natCast, hg]
      unfold cellT
      rw [if_pos h3, hgf, hf]; simp
    · rw [if_neg (by simpa using h3)]
      simp only [Nat.zero_add, Nat.mul_one, List.drop_zero, row3, row4, if_true]
      rw [qSystem_3_eq, wrap_i64 (by omega) (by omega), show ((i : Int) + 1) = ((i + 1 : Nat) : Int) by omega]
      simp only [Nat.zero_add, Nat.mul_one, List.drop_zero, row3, row4, row3s, if_true]
      rw [if_pos ⟨trivial, by omega⟩]
      refine fin ⟨false, posAt t 0 (varsR m), []⟩ ?_
      unfold cellT
      rw [if_neg h3]
def tailT (m : Mod) (f a : Int) : List MCon := if 0 ≤ a then [⟨2, a, posAt (3, f, 0) 0 (varsR m), []⟩] else []
theorem of_go (fn : Int) (r : MRef) (h0 : H) (K : Int → Int → Int → R) : (pA (run w0 26 [I fn, .agg (refV r)] h0) fun l => cI .u8 l 0 fun a => cI .i64 l 1 fun b => cI .i64 l 2 fun c => if l.length = 3 then K a b c else none) = K (ofR fn r).1 (ofR fn r).2.1 (ofR fn r).2.2 := by
  rw [qOf_spec, pA_some]
  simp [cI, V.int?, V.f?, F.int?]
theorem find_v (hm : okM m) (x : Thing) (h0 : H) (K : Int → R) : pI .i64 (run w0 25 [.f (.lst (varsR m).length (thingsF (varsR m))), .agg [N .u8 x.1, N .i64 x.2.1, N .i64 x.2.2]] h0) K = K (posAt x 0 (varsR m)) := by
  have := vars_le m hm
  rw [qFind_spec x _ (by omega), pI_some]
theorem find_c (hm : okM m) (x : Thing) (h0 : H) (K : Int → R) : pI .i64 (run w0 25 [.f (.lst (cellsR m).length (thingsF (cellsR m))), .agg [N .u8 x.1, N .i64 x.2.1, N .i64 x.2.2]] h0) K = K (posAt x 0 (cellsR m)) := by
  have := cells_le m hm
  rw [qFind_spec x _ (by omega), pI_some]
include hm in
theorem qS7 (f : Nat) (items : List MItem) (i : Nat) (s : MStmt) (hs : s.args.length ≤ 100) (a b z v : Int) (cc : List MCell) (kk : List MCon) :
    ∀ (rest : List MRef) (k : Nat) (ar : List Int), s.args.drop k = rest → k ≤ s.args.length → ar.length = k →
      qL m qSystem_7 f items.length (itemsF items) i s.kind s.a.k s.a.id s.b.k s.b.id s.args.length (refsF s.args) s.body.length (stmtsF s.body) a b ar.length k z v cc.length kk.length (cellsF cc) (consF kk) (kF .i64 ar) =
      qL m qSystem_8 f items.length (itemsF items) i s.kind s.a.k s.a.id s.b.k s.b.id s.args.length (refsF s.args) s.body.length (stmtsF s.body) a b (ar ++ rest.map fun r => posAt (ofR f r) 0 (varsR m)).length (kF .i64 (ar ++ rest.map fun r => posAt (ofR f r) 0 (varsR m))) z v cc.length kk.length (cellsF cc) (consF kk)
  | [], k, ar, hd, hk, hl => by
    have := done_of_drop hd
    rw [qL, qSystem_7_eq, if_neg (by simp; omega)]
    simp only [Nat.zero_add, Nat.mul_one, List.drop_zero, row3, row4, if_true]
    rw [if_pos (by simp), List.take_of_length_le (by simp)]
    simp
  | r :: rest, k, ar, hd, hk, hl => by
    have hlt := lt_of_drop hd
    have ih := qS7 f items i s hs a b z v cc kk rest (k + 1) (ar ++ [posAt (ofR f r) 0 (varsR m)]) (drop_next hd) (by omega) (by simp; omega)
    rw [qL, qSystem_7_eq, if_pos (by simp; omega), elem_next MRef.F_len hd]
    simp only [MRef.F, List.cons_append, atI_zero, atI_succ]
    rw [of_go f r, find_v m hm, wrap_i64 (by omega) (by omega), show ((k : Int) + 1) = ((k + 1 : Nat) : Int) by omega]
    simp only [Nat.zero_add, Nat.mul_one, List.drop_zero, row3, row4, if_true]
    rw [if_pos ⟨trivial, by omega⟩, if_pos (by simp), List.take_of_length_le (l := kF .i64 ar) (by simp), if_pos (by simp), List.take_of_length_le (by simp)]
    rw [kF_append, List.length_append, List.length_singleton] at ih
    refine Eq.trans ih ?_
    simp
include hm in
theorem qS9 (f : Nat) (items : List MItem) (i : Nat) (s : MStmt) (a z v : Int) (cc : List MCell) (ar : List Int) (hal : ar.length ≤ 100) :
    ∀ (rest : List Int) (k : Nat) (kk : List MCon), ar.drop k = rest → k ≤ ar.length → kk.length + rest.length + 2 ≤ 1000000000 →
      qL m qSystem_9 f items.length (itemsF items) i s.kind s.a.k s.a.id s.b.k s.b.id s.args.length (refsF s.args) s.body.length (stmtsF s.body) a ar.length (kF .i64 ar) k z v cc.length kk.length (cellsF cc) (consF kk) =
      qL m qSystem_6 f items.length (itemsF items) (IntKind.wrap .i64 ((i : Int) + 1)) z v cc.length (kk ++ (parT m s.b.id k rest ++ tailT m s.b.id a)).length (cellsF cc) (consF (kk ++ (parT m s.b.id k rest ++ tailT m s.b.id a)))
  | [], k, kk, hd, hk, hl => by
    have := done_of_drop hd
    simp only [List.length_nil] at hl
    rw [qL, qSystem_9_eq, if_neg (by simp; omega)]
    by_cases ha : 0 ≤ a
    · have ht : tailT m s.b.id a = [(⟨2, a, posAt (3, s.b.id, 0) 0 (varsR m), []⟩ : MCon)] := if_pos ha
      rw [if_pos (by simpa using ha), ht, find_v m hm (3, s.b.id, 0)]
      simp only [Nat.zero_add, Nat.mul_one, List.drop_zero, row3, row4, row4s, if_true]
      rw [if_pos ⟨trivial, by omega⟩]
      have e : consF (kk ++ (parT m s.b.id k [] ++ [(⟨2, a, posAt (3, s.b.id, 0) 0 (varsR m), []⟩ : MCon)])) = consF kk ++ [F.s (.int .u8 2), F.s (.int .i64 a), F.s (.int .i64 (posAt (3, s.b.id, 0) 0 (varsR m))), F.lst 0 []] := by simp [consF, parT, MCon.F, kF]
      rw [e]
      simp [parT]
    · have ht : tailT m s.b.id a = [] := if_neg ha
      rw [if_neg (by simpa using ha), ht]
      simp only [Nat.zero_add, Nat.mul_one, List.drop_zero, row3, row4, row4s, if_true]
      simp [parT]
  | n :: rest, k, kk, hd, hk, hl => by
    have hlt := lt_of_drop hd
    simp only [List.length_cons] at hl
    have ih := qS9 f items i s a z v cc ar hal rest (k + 1) (kk ++ [(⟨2, posAt (1, s.b.id, (k : Int)) 0 (varsR m), n, []⟩ : MCon)]) (drop_next hd) (by omega) (by simp; omega)
    rw [qL, qSystem_9_eq, if_pos (by simp; omega), find_v m hm (1, s.b.id, (k : Int)), elem_kF hd, atI_zero, wrap_i64 (n := (k : Int) + 1) (by omega) (by omega), show ((k : Int) + 1) = ((k + 1 : Nat) : Int) by omega]
    simp only [Nat.zero_add, Nat.mul_one, List.drop_zero, row3, row4, row4s, if_true]
    rw [if_pos ⟨trivial, by omega⟩]
    have e : consF (kk ++ [(⟨2, posAt (1, s.b.id, (k : Int)) 0 (varsR m), n, []⟩ : MCon)]) = consF kk ++ [F.s (.int .u8 2), F.s (.int .i64 (posAt (1, s.b.id, (k : Int)) 0 (varsR m))), F.s (.int .i64 n), F.lst 0 []] := by simp [consF, MCon.F, kF]
    rw [e, List.length_append, List.length_singleton] at ih
    refine Eq.trans ih ?_
    simp [parT]
include hm in
theorem qS6 (f : Nat) (hf : f ≤ 100) (items : List MItem) (hlen : items.length ≤ 1000) (hargs : ∀ x ∈ items, x.s.args.length ≤ 100) (z v : Int) (cc : List MCell) :
    ∀ (rest : List MItem) (i : Nat) (kk : List MCon), items.drop i = rest → i ≤ items.length → kk.length + rest.length * 101 + 2 ≤ 1000000000 →
      qL m qSystem_6 f items.length (itemsF items) i z v cc.length kk.length (cellsF cc) (consF kk) =
      qL m qSystem_4 ((f + 1 : Nat) : Int) z v cc.length (kk ++ rest.flatMap fun x => consT m f x.s).length (cellsF cc) (consF (kk ++ rest.flatMap fun x => consT m f x.s))
  | [], i, kk, hd, hi, hl => by
    have := done_of_drop hd
    rw [qL, qSystem_6_eq, if_neg (by simp; omega), wrap_i64 (by omega) (by omega), show ((f : Int) + 1) = ((f + 1 : Nat) : Int) by omega]
    simp only [Nat.zero_add, Nat.mul_one, List.drop_zero, row3, row4, if_true]
    simp
  | x :: rest, i, kk, hd, hi, hl => by
    have hlt := lt_of_drop hd
    simp only [List.length_cons] at hl
    have hal := hargs x (mem_of_drop hd)
    have ih := fun kk' => qS6 f hf items hlen hargs z v cc rest (i + 1) kk' (drop_next hd) (by omega)
    rcases x with ⟨xn, xd, s⟩
    dsimp only at hal
    have hcl := consT_len m f s
    have next : ∀ l : List MCon, consT m f s = l → qL m qSystem_6 f items.length (itemsF items) ((i + 1 : Nat) : Int) z v cc.length (kk ++ l).length (cellsF cc) (consF (kk ++ l)) = qL m qSystem_4 ((f + 1 : Nat) : Int) z v cc.length (kk ++ (⟨xn, xd, s⟩ :: rest).flatMap fun x => consT m f x.s).length (cellsF cc) (consF (kk ++ (⟨xn, xd, s⟩ :: rest).flatMap fun x => consT m f x.s)) := by
      intro l hl'
      have := ih (kk ++ l) (by rw [List.length_append, ← hl']; omega)
      rw [this, ← hl', List.flatMap_cons, List.append_assoc]
    rw [qL, qSystem_6_eq, if_pos (by simp; omega), elem_next MItem.F_len hd]
    simp only [MItem.F, MStmt.F_eq, List.cons_append, List.nil_append, List.drop_succ_cons, List.drop_zero, atI_zero, atI_succ, atL_zero, atL_succ]
    rw [of_go f s.a, find_v m hm (ofR f s.a), of_go f s.b, find_v m hm (ofR f s.b), find_v m hm (3, (f : Int), 0), wrap_i64 (by omega) (by omega), show ((i : Int) + 1) = ((i + 1 : Nat) : Int) by omega]
    simp only [Nat.zero_add, Nat.mul_one, row3, row4, if_true]
    have nx : ∀ (k a b : Int) (ar : List Int), consT m f s = [⟨k, a, b, ar⟩] → (if True ∧ (kk.length + 1) * 48 ≤ 140737488355328 then qL m qSystem_6 f items.length (itemsF items) ((i + 1 : Nat) : Int) z v cc.length (kk.length + 1) (cellsF cc) (consF kk ++ [F.s (.int .u8 k), F.s (.int .i64 a), F.s (.int .i64 b), F.lst ar.length (kF .i64 ar)]) else none) = qL m qSystem_4 ((f + 1 : Nat) : Int) z v cc.length (kk ++ (⟨xn, xd, s⟩ :: rest).flatMap fun x => consT m f x.s).length (cellsF cc) (consF (kk ++ (⟨xn, xd, s⟩ :: rest).flatMap fun x => consT m f x.s)) := by
      intro k a b ar hc
      have := next _ hc
      have e : consF (kk ++ [(⟨k, a, b, ar⟩ : MCon)]) = consF kk ++ [F.s (.int .u8 k), F.s (.int .i64 a), F.s (.int .i64 b), F.lst ar.length (kF .i64 ar)] := by simp [consF, MCon.F]
      rw [e, List.length_append, List.length_singleton] at this
      rw [if_pos ⟨trivial, by omega⟩]
      exact this
    by_cases k1 : s.kind = 1
    · rw [if_pos (by simp [k1]), of_go f s.b, find_c m hm (ofR f s.b)]
      simp only [row4s, if_true]
      exact nx 1 _ _ [] (by unfold consT; rw [if_pos k1])
    rw [if_neg (by simpa using k1)]
    by_cases k2 : s.kind = 2
    · rw [if_pos (by simp [k2])]
      simp only [row4s, if_true]
      exact nx 2 _ _ [] (by unfold consT; rw [if_neg k1, if_pos k2])
    rw [if_neg (by simpa using k2)]
    by_cases k3 : s.kind = 3
    · rw [if_pos (by simp [k3])]
      simp only [row4s, if_true]
      exact nx 3 _ _ [] (by unfold consT; rw [if_neg k1, if_neg k2, if_pos k3])
    rw [if_neg (by simpa using k3)]
    by_cases k4 : s.kind = 4
    · rw [if_pos (by simp [k4])]
      simp only [row4s, if_true]
      exact nx 4 _ _ [] (by unfold consT; rw [if_neg k1, if_neg k2, if_neg k3, if_pos k4])
    rw [if_neg (by simpa using k4)]
    by_cases k6 : s.kind = 6
    · rw [if_pos (by simp [k6])]
      simp only [row4s, if_true]
      exact nx 2 _ _ [] (by unfold consT; rw [if_neg k1, if_neg k2, if_neg k3, if_neg k4, if_pos k6])
    rw [if_neg (by simpa using k6)]
    by_cases k5 : s.kind = 5
    · rw [if_pos (by simp [k5])]
      refine (qS7 m hm f items i s hal _ _ z v cc kk s.args 0 [] rfl (by omega) rfl).trans ?_
      rw [List.nil_append, qL, qSystem_8_eq, wrap_i64 (by omega) (by omega), show ((i : Int) + 1) = ((i + 1 : Nat) : Int) by omega]
      simp only [Nat.zero_add, Nat.mul_one, List.drop_zero, row3, row4, row4s, if_true]
      have hc : consT m f s = if s.b.k ≠ 3 then [⟨5, if s.a.k = 0 then -1 else posAt (ofR f s.a) 0 (varsR m), posAt (ofR f s.b) 0 (varsR m), s.args.map fun r => posAt (ofR f r) 0 (varsR m)⟩] else parT m s.b.id 0 (s.args.map fun r => posAt (ofR f r) 0 (varsR m)) ++ tailT m s.b.id (if s.a.k = 0 then -1 else posAt (ofR f s.a) 0 (varsR m)) := by
        unfold consT; rw [if_neg k1, if_neg k2, if_neg k3, if_neg k4, if_neg k6, if_pos k5]; rfl
      have q9 : ∀ a : Int, (if s.a.k = 0 then -1 else posAt (ofR f s.a) 0 (varsR m)) = a → s.b.k = 3 → qL m qSystem_9 f items.length (itemsF items) i s.kind s.a.k s.a.id s.b.k s.b.id s.args.length (refsF s.args) s.body.length (stmtsF s.body) a (s.args.map fun r => posAt (ofR f r) 0 (varsR m)).length (kF .i64 (s.args.map fun r => posAt (ofR f r) 0 (varsR m))) 0 z v cc.length kk.length (cellsF cc) (consF kk) = qL m qSystem_4 ((f + 1 : Nat) : Int) z v cc.length (kk ++ (⟨xn, xd, s⟩ :: rest).flatMap fun x => consT m f x.s).length (cellsF cc) (consF (kk ++ (⟨xn, xd, s⟩ :: rest).flatMap fun x => consT m f x.s)) := by
        intro a ha hb3
        refine (qS9 m hm f items i s a z v cc (s.args.map fun r => posAt (ofR f r) 0 (varsR m)) (by simpa using hal) _ 0 kk rfl (by omega) (by simp; omega)).trans ?_
        rw [wrap_i64 (by omega) (by omega), show ((i : Int) + 1) = ((i + 1 : Nat) : Int) by omega]
        refine next _ ?_
        rw [hc, if_neg (by simp [hb3]), ha]; rfl
      by_cases ka : s.a.k = 0
      · rw [if_pos (by simp [ka])]
        by_cases kb : s.b.k = 3
        · rw [if_neg (by simp [kb])]
          exact q9 (-1) (if_pos ka) kb
        · rw [if_pos (by simp [kb])]
          exact nx 5 (-1) _ (s.args.map fun r => posAt (ofR f r) 0 (varsR m)) (by rw [hc, if_pos kb, if_pos ka])
      · rw [if_neg (by simpa using ka)]
        by_cases kb : s.b.k = 3
        · rw [if_neg (by simp [kb])]
          exact q9 _ (if_neg ka) kb
        · rw [if_pos (by simp [kb])]
          exact nx 5 _ _ (s.args.map fun r => posAt (ofR f r) 0 (varsR m)) (by rw [hc, if_pos kb, if_neg ka])
    rw [if_neg (by simpa using k5)]
    have := next [] (by unfold consT; rw [if_neg k1, if_neg k2, if_neg k3, if_neg k4, if_neg k6, if_neg k5])
    rw [List.append_nil] at this
    exact this
include hm hb in
theorem qS4 (z v : Int) (cc : List MCell) : ∀ (rest : List MFun) (f : Nat) (kk : List MCon), m.funcs.drop f = rest → f ≤ m.funcs.length → kk.length + rest.length * 102000 + 2 ≤ 1000000000 →
    qL m qSystem_4 f z v cc.length kk.length (cellsF cc) (consF kk) = some (.ret (.agg (sysV ⟨v, cc, kk ++ consFrom m f rest⟩)), [])
  | [], f, kk, hd, hf, hl => by
    have := done_of_drop hd
    rw [qL, qSystem_4_eq, if_neg (by simp; omega)]
    simp only [Nat.zero_add, Nat.mul_one, List.drop_zero, row3, row4, if_true]
    simp [consFrom]
  | g :: rest, f, kk, hd, hf, hl => by
    have hlt := lt_of_drop hd
    simp only [List.length_cons] at hl
    have h2 := hm.2.1
    have hg : m.funcs[f]? = some g := by rw [drop_get hlt] at hd; rw [List.getElem?_eq_getElem hlt, (List.cons.inj hd).1]
    obtain ⟨b1, b2⟩ := hb g (mem_of_drop hd)
    rw [qL, qSystem_4_eq, if_pos (by simp; omega), fun_b hg, rFlat_spec g.body (by unfold big; omega), pL_some]
    simp only [Nat.zero_add, Nat.mul_one, List.drop_zero, row3, row4, if_true]
    refine (qS6 m hm f (by omega) (flats 0 0 g.body) b1 b2 z v cc (flats 0 0 g.body) 0 kk rfl (by omega) (by omega)).trans ?_
    have hlen : ((flats 0 0 g.body).flatMap fun x => consT m f x.s).length ≤ (flats 0 0 g.body).length * 101 := by
      generalize flats 0 0 g.body = l at b2
      clear b1
      induction l with
      | nil => simp
      | cons x l ih =>
        have h1 := consT_len m f x.s
        have h2 := b2 x (by simp)
        have h3 := ih fun y hy => b2 y (by simp [hy])
        simp only [List.flatMap_cons, List.length_append, List.length_cons]
        omega
    refine (qS4 z v cc rest (f + 1) (kk ++ (flats 0 0 g.body).flatMap fun x => consT m f x.s) (drop_next hd) (by omega) (by rw [List.length_append]; omega)).trans ?_
    simp [consFrom]
include hm hb in
/-- THE DOCUMENT's CONSTRAINTS -/
theorem qSystem_spec (h0 : H) : run w0 12 [.agg (modV m)] h0 = some (.ret (.agg (sysV (sysT m))), h0) := by
  have h1 := qS1 m hm 0 (varsR m).length (cellsR m) 0 [] rfl (by omega) rfl
  have h2 := qS4 m hm hb 0 (varsR m).length ([] ++ (cellsR m).map (cellT m)) m.funcs 0 [] rfl (by omega) (by have := hm.2.1; simp; omega)
  rw [qSystem_run, qSystem_eq, qVars_spec m hm, pL_some, qCells_spec m hm, pL_some]
  exact (congrArg (withH true h0) (h1.trans h2)).trans (by rw [withH_true]; rfl)
end
end Go.Proofs.Ytlddnplflakmiaa
