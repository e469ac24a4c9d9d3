/-
  Statements that are made of numbers break no rule.
-/
import Derived.Test.YtlddnplflakmiaaMakeOk
set_option autoImplicit false
set_option linter.unusedVariables false
namespace Go.Abs
open Go

/-- where a statement stands: m: its module; f: its function -/
structure InM (m : Mod) (f : MFun) (G L S : Nat) (ps : List Int) : Prop where
  g : m.globals.length = G
  l : f.locals.length = L
  s : f.sites.length = S
  p : m.funcs.map (·.params) = ps
  l0 : 0 < L
  s0 : 0 < S
  n0 : 0 < ps.length
  pr : ∀ p ∈ ps, 0 ≤ p ∧ p ≤ 6
theorem InM.len {m : Mod} {f : MFun} {G L S : Nat} {ps : List Int} (h : InM m f G L S ps) : m.funcs.length = ps.length := by rw [← h.p]; simp
section
variable {m : Mod} {f : MFun} {G L S : Nat} {ps : List Int}
theorem var_there (h : InM m f G L S ps) (n : Nat) : thereR m f (varM G L n) = true := by
  have hm : n % (L + G) < L + G := Nat.mod_lt _ (by have := h.l0; omega)
  unfold varM
  split
  · rename_i hl
    generalize n % (L + G) = z at *
    unfold thereR
    simp only [h.l]
    simp; omega
  · rename_i hl
    have : n % (L + G) - L < G := by omega
    generalize n % (L + G) - L = z at *
    unfold thereR
    simp only [h.g]
    simp; omega
theorem var_var (n : Nat) : varR (varM G L n) = true := by
  unfold varM; split <;> simp [varR]
theorem zero_there : thereR m f ⟨0, 0⟩ = true := by simp [thereR]
theorem kinds5 {s : MStmt} (hk : s.kind = 5) (h1 : ∀ r ∈ s.args, varR r = true) (h2 : s.body = []) (h3 : s.a = ⟨0, 0⟩ ∨ varR s.a = true) (h4 : varR s.b = true ∨ s.b.k = 3) : kindsR s = true := by
  unfold kindsR
  rw [if_neg (by rw [hk]; decide), if_neg (by rw [hk]; decide), if_pos hk, decide_eq_true_iff]
  exact ⟨h1, h2, h3, h4⟩
theorem fun_there (h : InM m f G L S ps) (n : Nat) : thereR m f ⟨3, ((n % ps.length : Nat) : Int)⟩ = true := by
  have := Nat.mod_lt n h.n0
  generalize n % ps.length = z at *
  unfold thereR
  simp only [h.len]
  simp; omega
theorem site_there (h : InM m f G L S ps) (n : Nat) : thereR m f ⟨4, ((n % S : Nat) : Int)⟩ = true := by
  have := Nat.mod_lt n h.s0
  generalize n % S = z at *
  unfold thereR
  simp only [h.s]
  simp; omega
/-- a statement that is no block, or a block: by itself -/
theorem stmtR_of {d : Nat} (hd : d ≤ 8) {s : MStmt} (h1 : kindsR s = true) (ha : thereR m f s.a = true) (hb : thereR m f s.b = true) (hr : ∀ r ∈ s.args, thereR m f r = true) (h9 : s.kind = 5 → s.args.length ≤ 6 ∧ (s.b.k = 3 → (s.args.length : Int) = (m.funcs[s.b.id.toNat]?.getD default).params)) : stmtR m f d s = 0 := by
  unfold stmtR
  rw [if_neg (by omega), if_neg (by rw [h1]; simp), if_neg, if_neg]
  · rintro ⟨h5, h⟩
    obtain ⟨q1, q2⟩ := h9 h5
    rcases h with h | ⟨h, h'⟩
    · omega
    · exact h' (q2 h)
  · rintro (h | h | ⟨r, hm, h⟩)
    · rw [ha] at h; cases h
    · rw [hb] at h; cases h
    · rw [hr r hm] at h; cases h
theorem args_there (h : InM m f G L S ps) (x : MAct) (n : Nat) : ∀ r ∈ argsM G L x n, thereR m f r = true ∧ varR r = true := by
  intro r hr
  unfold argsM at hr
  rw [List.mem_map] at hr
  obtain ⟨i, _, rfl⟩ := hr
  exact ⟨var_there h _, var_var _⟩
theorem par_at (h : InM m f G L S ps) (n : Nat) : (m.funcs[((n % ps.length : Nat) : Int).toNat]?.getD default).params = ps.getD (n % ps.length) 0 ∧ 0 ≤ ps.getD (n % ps.length) 0 ∧ ps.getD (n % ps.length) 0 ≤ 6 := by
  have hlt := Nat.mod_lt n h.n0
  have hlt' : n % ps.length < m.funcs.length := by rw [h.len]; exact hlt
  have hg : ps.getD (n % ps.length) 0 = ps[n % ps.length] := by rw [List.getD_eq_getElem?_getD, List.getElem?_eq_getElem hlt]; rfl
  rw [Int.toNat_natCast, List.getElem?_eq_getElem hlt', hg]
  refine ⟨?_, h.pr _ (List.getElem_mem _)⟩
  have := h.p
  subst this
  simp
theorem stmt1_ok (h : InM m f G L S ps) (x : MAct) {d : Nat} (hd : d ≤ 8) : stmtR m f d (stmt1 G L S ps x) = 0 ∧ (stmt1 G L S ps x).kind ≠ 7 ∧ (stmt1 G L S ps x).body = [] ∧ (stmt1 G L S ps x).args.length ≤ 6 := by
  have va := var_there h x.a
  have vb := var_there h x.b
  have ra := var_var (G := G) (L := L) x.a
  have rb := var_var (G := G) (L := L) x.b
  have kb : (varM G L x.b).k = 1 ∨ (varM G L x.b).k = 2 := by simpa [varR] using rb
  unfold stmt1
  dsimp only
  split
  · -- take
    have hb : ∀ r : MRef, thereR m f r = true → 1 ≤ r.k → r.k ≤ 4 → stmtR m f d (.mk 1 (varM G L x.a) r [] []) = 0 := fun r hr h1 h4 =>
      stmtR_of hd (by simp [kindsR, MStmt.kind, MStmt.args, MStmt.body, MStmt.a, MStmt.b, ra, h1, h4]) va hr (by simp [MStmt.args]) (by simp [MStmt.kind])
    refine ⟨hb _ ?_ ?_ ?_, by simp [MStmt.kind], rfl, by simp [MStmt.args]⟩
    · split
      · exact fun_there h _
      · split
        · exact site_there h _
        · exact vb
    · split
      · simp
      · split
        · simp
        · omega
    · split
      · simp
      · split
        · simp
        · omega
  split
  · exact ⟨stmtR_of hd (by simp [kindsR, MStmt.kind, MStmt.args, MStmt.body, MStmt.a, MStmt.b, ra, rb]) va vb (by simp [MStmt.args]) (by simp [MStmt.kind]), by simp [MStmt.kind], rfl, by simp [MStmt.args]⟩
  split
  · exact ⟨stmtR_of hd (by simp [kindsR, MStmt.kind, MStmt.args, MStmt.body, MStmt.a, MStmt.b, ra, rb]) va vb (by simp [MStmt.args]) (by simp [MStmt.kind]), by simp [MStmt.kind], rfl, by simp [MStmt.args]⟩
  have hA : thereR m f (if x.c % 3 = 0 then ⟨0, 0⟩ else varM G L x.a) = true := by split; exact zero_there; exact va
  have hA' : (if x.c % 3 = 0 then (⟨0, 0⟩ : MRef) else varM G L x.a) = ⟨0, 0⟩ ∨ varR (if x.c % 3 = 0 then ⟨0, 0⟩ else varM G L x.a) = true := by
    split
    · exact .inl rfl
    · exact .inr ra
  split
  · -- a call by name
    obtain ⟨p1, p2, p3⟩ := par_at h x.b
    have ha := args_there h x (ps.getD (x.b % ps.length) 0).toNat
    have hl : (argsM G L x (ps.getD (x.b % ps.length) 0).toNat).length = (ps.getD (x.b % ps.length) 0).toNat := by simp [argsM]
    refine ⟨stmtR_of hd ?_ hA (fun_there h _) (fun r hr => (ha r hr).1) (fun _ => ⟨?_, fun _ => ?_⟩), by simp [MStmt.kind], rfl, ?_⟩
    · exact kinds5 rfl (fun r hr => (ha r hr).2) rfl hA' (.inr rfl)
    · show (argsM G L x (ps.getD (x.b % ps.length) 0).toNat).length ≤ 6
      rw [hl]; omega
    · show ((argsM G L x (ps.getD (x.b % ps.length) 0).toNat).length : Int) = _
      rw [hl]
      exact (Int.toNat_of_nonneg p2).trans p1.symm
    · show (argsM G L x (ps.getD (x.b % ps.length) 0).toNat).length ≤ 6
      rw [hl]; omega
  split
  · -- a call by what is in a variable
    have ha := args_there h x (x.c / 4 % 4)
    have hl : (argsM G L x (x.c / 4 % 4)).length = x.c / 4 % 4 := by simp [argsM]
    refine ⟨stmtR_of hd ?_ hA vb (fun r hr => (ha r hr).1) (fun _ => ⟨?_, fun hk => ?_⟩), by simp [MStmt.kind], rfl, ?_⟩
    · exact kinds5 rfl (fun r hr => (ha r hr).2) rfl hA' (.inl rb)
    · show (argsM G L x (x.c / 4 % 4)).length ≤ 6
      rw [hl]; omega
    · have hk : (varM G L x.b).k = 3 := hk
      omega
    · show (argsM G L x (x.c / 4 % 4)).length ≤ 6
      rw [hl]; omega
  split
  · exact ⟨stmtR_of hd (by simp [kindsR, MStmt.kind, MStmt.args, MStmt.body, MStmt.a, MStmt.b, rb]) zero_there vb (by simp [MStmt.args]) (by simp [MStmt.kind]), by simp [MStmt.kind], rfl, by simp [MStmt.args]⟩
  · exact ⟨stmtR_of hd (by simp [kindsR, MStmt.kind, MStmt.args, MStmt.body, MStmt.a, MStmt.b, ra, rb]) va vb (by simp [MStmt.args]) (by simp [MStmt.kind]), by simp [MStmt.kind], rfl, by simp [MStmt.args]⟩
/-- a statement, with what is in it -/
def fineS (m : Mod) (f : MFun) (s : MStmt) : Prop := stmtR m f 0 s = 0 ∧ s.args.length ≤ 6 ∧ s.body.length ≤ 2 ∧ ∀ t ∈ s.body, stmtR m f 1 t = 0 ∧ t.kind ≠ 7 ∧ t.args.length ≤ 6
theorem stmtM_ok (h : InM m f G L S ps) (x : MAct) : fineS m f (stmtM G L S ps x) := by
  have move : ∀ d, d ≤ 8 → stmtR m f d (.mk 2 (varM G L x.b) (varM G L x.a) [] []) = 0 := fun d hd =>
    stmtR_of hd (by simp [kindsR, MStmt.kind, MStmt.args, MStmt.body, MStmt.a, MStmt.b, var_var]) (var_there h _) (var_there h _) (by simp [MStmt.args]) (by simp [MStmt.kind])
  have block : ∀ l, stmtR m f 0 (.mk 7 ⟨0, 0⟩ ⟨0, 0⟩ [] l) = 0 := fun l =>
    stmtR_of (by omega) (by simp [kindsR, MStmt.kind, MStmt.args, MStmt.a, MStmt.b]) zero_there zero_there (by simp [MStmt.args]) (by simp [MStmt.kind])
  unfold stmtM
  split
  · split
    · exact ⟨block _, by simp [MStmt.args], by simp [MStmt.body], by simp [MStmt.body]⟩
    · obtain ⟨q1, q2, q3, q4⟩ := stmt1_ok h ⟨x.c % 8, x.a, x.b, x.c⟩ (d := 1) (by omega)
      refine ⟨block _, by simp [MStmt.args], by simp [MStmt.body], fun t ht => ?_⟩
      simp only [MStmt.body, List.mem_cons, List.not_mem_nil, or_false] at ht
      rcases ht with rfl | rfl
      · exact ⟨q1, q2, q4⟩
      · exact ⟨move 1 (by omega), by simp [MStmt.kind], by simp [MStmt.args]⟩
  · obtain ⟨q1, q2, q3, q4⟩ := stmt1_ok h x (d := 0) (by omega)
    exact ⟨q1, q4, by rw [q3]; simp, by rw [q3]; simp⟩
/-- all statements of such: none breaks a rule; there are few -/
theorem flats_ok1 : ∀ (l : List MStmt) (n : Nat), (∀ t ∈ l, stmtR m f 1 t = 0 ∧ t.kind ≠ 7 ∧ t.args.length ≤ 6) → stmtsR m f (flats 1 n l) = none ∧ (flats 1 n l).length = l.length ∧ ∀ y ∈ flats 1 n l, y.s.args.length ≤ 6
  | [], n, _ => by rw [flats_nil]; exact ⟨rfl, rfl, by simp⟩
  | s :: r, n, hl => by
    obtain ⟨h1, h2, h3⟩ := hl s (by simp)
    obtain ⟨i1, i2, i3⟩ := flats_ok1 r (n + 1) fun t ht => hl t (by simp [ht])
    rw [flats_cons, if_neg (fun q => h2 q.1)]
    refine ⟨?_, by simp [i2], ?_⟩
    · unfold stmtsR; rw [if_neg (by rw [h1]; omega)]; exact i1
    · intro y hy
      rcases List.mem_cons.1 hy with rfl | hy
      · exact h3
      · exact i3 y hy
theorem stmtsR_append (m : Mod) (f : MFun) : ∀ (a b : List MItem), stmtsR m f a = none → stmtsR m f (a ++ b) = stmtsR m f b
  | [], b, _ => rfl
  | x :: a, b, h => by
    unfold stmtsR at h
    split at h
    · cases h
    · rename_i hx
      rw [List.cons_append, stmtsR, if_neg hx]; exact stmtsR_append m f a b h
theorem flats_ok0 : ∀ (l : List MStmt) (n : Nat), (∀ s ∈ l, fineS m f s) → stmtsR m f (flats 0 n l) = none ∧ (flats 0 n l).length ≤ 3 * l.length ∧ ∀ y ∈ flats 0 n l, y.s.args.length ≤ 6
  | [], n, _ => by rw [flats_nil]; exact ⟨rfl, by simp, by simp⟩
  | s :: r, n, hl => by
    obtain ⟨h1, h2, h3, h4⟩ := hl s (by simp)
    have hr : ∀ t ∈ r, fineS m f t := fun t ht => hl t (by simp [ht])
    rw [flats_cons]
    split
    · obtain ⟨j1, j2, j3⟩ := flats_ok1 s.body (n + 1) h4
      obtain ⟨i1, i2, i3⟩ := flats_ok0 r (n + 1 + (flats 1 (n + 1) s.body).length) hr
      refine ⟨?_, by simp only [List.length_cons, List.length_append, j2, Nat.zero_add] at i2 ⊢; omega, ?_⟩
      · unfold stmtsR
        rw [if_neg (by rw [h1]; omega), stmtsR_append m f _ _ j1]; exact i1
      · intro y hy
        rcases List.mem_cons.1 hy with rfl | hy
        · exact h2
        · rcases List.mem_append.1 hy with hy | hy
          · exact j3 y hy
          · exact i3 y hy
    · obtain ⟨i1, i2, i3⟩ := flats_ok0 r (n + 1) hr
      refine ⟨?_, by simp only [List.length_cons]; omega, ?_⟩
      · unfold stmtsR; rw [if_neg (by rw [h1]; omega)]; exact i1
      · intro y hy
        rcases List.mem_cons.1 hy with rfl | hy
        · exact h2
        · exact i3 y hy
end
end Go.Abs
