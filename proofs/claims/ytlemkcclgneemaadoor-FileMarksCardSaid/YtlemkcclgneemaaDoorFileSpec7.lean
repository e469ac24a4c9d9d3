/-
  A system laid down: the bytes.
-/
import Derived.Test.YtlemkcclgneemaaDoorFileSpec6
set_option autoImplicit false
set_option linter.unusedVariables false
set_option linter.unusedSimpArgs false
namespace Go.Proofs.YtlemkcclgneemaaDoor
open Go Go.Abs

theorem lay_args1 (cells : List MCell) (cons : List MCon) (vars : Int) (n18 : Int) (fn : Bool) (var : Int) (ar : List Int) (hl : ar.length < 9223372036854775808) (hn : ∀ n ∈ ar, i64 n) : ∀ (rest : List Int) (i : Nat) (p : List UInt8), ar.drop i = rest → i ≤ ar.length → p.length + rest.length * 10 + 10 ≤ roomB →
    llay_2 vars cells.length (cellsF cells) cons.length (consF cons) p.length n18 fn var ar.length (kF .i64 ar) i (bF p) = llay_1 vars cells.length (cellsF cells) cons.length (consF cons) (p ++ rest.flatMap zb).length (IntKind.wrap .i64 (n18 + 1)) (bF (p ++ rest.flatMap zb))
  | [], i, p, hd, hi, hp => by
    have := done_of_drop hd
    rw [llay_2_eq, if_neg (by simp; omega)]
    simp only [Nat.zero_add, Nat.mul_one, List.drop_zero]
    rw [if_pos (by simp), bF_all]; simp
  | n :: rest, i, p, hd, hi, hp => by
    have hlt := lt_of_drop hd
    have hr := hn n (mem_of_drop hd)
    have hz := zb_len hr.1 hr.2
    simp only [List.length_cons] at hp
    rw [llay_2_eq, if_pos (by simp; omega), elem_kF hd, atI_zero, lnum_go (h := [.fz (bF p)]) (L := 1) (L' := 2) rfl rfl rfl (by omega) hr.1 hr.2, wrap_i64 (by omega) (by omega)]
    simp only [Nat.zero_add, Nat.mul_one, List.drop_zero]
    rw [if_pos (by simp), bF_all, show ((i : Int) + 1) = ((i + 1 : Nat) : Int) by omega, lay_args1 cells cons vars n18 fn var ar hl hn rest (i + 1) (p ++ zb n) (drop_next hd) (by omega) (by rw [List.length_append]; omega)]
    simp
theorem lay_args2 (cells : List MCell) (cons : List MCon) (vars : Int) (n2 : Int) (kind a b : Int) (ar : List Int) (hl : ar.length < 9223372036854775808) (hn : ∀ n ∈ ar, i64 n) : ∀ (rest : List Int) (i : Nat) (p : List UInt8), ar.drop i = rest → i ≤ ar.length → p.length + rest.length * 10 + 10 ≤ roomB →
    llay_4 vars cells.length (cellsF cells) cons.length (consF cons) p.length n2 kind a b ar.length (kF .i64 ar) i (bF p) = llay_3 vars cells.length (cellsF cells) cons.length (consF cons) (p ++ rest.flatMap zb).length (IntKind.wrap .i64 (n2 + 1)) (bF (p ++ rest.flatMap zb))
  | [], i, p, hd, hi, hp => by
    have := done_of_drop hd
    rw [llay_4_eq, if_neg (by simp; omega)]
    simp only [Nat.zero_add, Nat.mul_one, List.drop_zero]
    rw [if_pos (by simp), bF_all]; simp
  | n :: rest, i, p, hd, hi, hp => by
    have hlt := lt_of_drop hd
    have hr := hn n (mem_of_drop hd)
    have hz := zb_len hr.1 hr.2
    simp only [List.length_cons] at hp
    rw [llay_4_eq, if_pos (by simp; omega), elem_kF hd, atI_zero, lnum_go (h := [.fz (bF p)]) (L := 1) (L' := 2) rfl rfl rfl (by omega) hr.1 hr.2, wrap_i64 (by omega) (by omega)]
    simp only [Nat.zero_add, Nat.mul_one, List.drop_zero]
    rw [if_pos (by simp), bF_all, show ((i : Int) + 1) = ((i + 1 : Nat) : Int) by omega, lay_args2 cells cons vars n2 kind a b ar hl hn rest (i + 1) (p ++ zb n) (drop_next hd) (by omega) (by rw [List.length_append]; omega)]
    simp
theorem lay_cons (vars : Int) (cells : List MCell) (cons : List MCon) (hl : cons.length < 9223372036854775808) (ho : ∀ c ∈ cons, okCon c) : ∀ (rest : List MCon) (i : Nat) (p : List UInt8), cons.drop i = rest → i ≤ cons.length → p.length + rest.length * 1040 + 2000 ≤ roomB →
    llay_3 vars cells.length (cellsF cells) cons.length (consF cons) p.length i (bF p) = some (.ret (.ref 0 0 (p ++ rest.flatMap conB).length 1), [.fz (bF (p ++ rest.flatMap conB))])
  | [], i, p, hd, hi, hp => by
    have := done_of_drop hd
    rw [llay_3_eq, if_neg (by simp; omega)]
    simp only [Nat.zero_add, Nat.mul_one, List.drop_zero]
    rw [if_pos (by simp), bF_all]; simp
  | c :: rest, i, p, hd, hi, hp => by
    have hlt := lt_of_drop hd
    obtain ⟨h1, h2, h3, h4, h5, h6⟩ := ho c (mem_of_drop hd)
    have hcl := conB_len ⟨h1, h2, h3, h4, h5, h6⟩
    have z1 := zb_len (n := c.kind) (by omega) (by omega)
    have z2 := zb_len h4.1 h4.2
    have z3 := zb_len h5.1 h5.2
    have z4 := zb_len (n := (c.args.length : Int)) (by omega) (by omega)
    simp only [List.length_cons] at hp
    rw [llay_3_eq, if_pos (by simp; omega), elem_next MCon.F_len hd]
    simp only [MCon.F, List.cons_append, atI_zero, atI_succ, atL_zero, atL_succ]
    rw [wrap_i64 (n := c.kind) (by omega) (by omega)]
    rw [lnum_go (h := [.fz (bF p), .cells [N .u8 c.kind, N .i64 c.a, N .i64 c.b, .f (.lst c.args.length (kF .i64 c.args))]]) (L := 2) (L' := 3) rfl rfl rfl (by omega) (by omega) (by omega)]
    rw [lnum_go (h := [.dead, .cells [N .u8 c.kind, N .i64 c.a, N .i64 c.b, .f (.lst c.args.length (kF .i64 c.args))], .fz (bF (p ++ zb c.kind))]) (L := 3) (L' := 4) rfl rfl rfl (by rw [List.length_append]; omega) h4.1 h4.2]
    rw [lnum_go (h := [.dead, .cells [N .u8 c.kind, N .i64 c.a, N .i64 c.b, .f (.lst c.args.length (kF .i64 c.args))], .dead, .fz (bF (p ++ zb c.kind ++ zb c.a))]) (L := 4) (L' := 5) rfl rfl rfl (by simp only [List.length_append]; omega) h5.1 h5.2]
    by_cases k5 : c.kind = 5
    · rw [if_pos (by simp [k5])]
      rw [lnum_go (h := [.dead, .cells [N .u8 c.kind, N .i64 c.a, N .i64 c.b, .f (.lst c.args.length (kF .i64 c.args))], .dead, .dead, .fz (bF (p ++ zb c.kind ++ zb c.a ++ zb c.b))]) (L := 5) (L' := 6) rfl rfl rfl (by simp only [List.length_append]; omega) (by omega) (by omega)]
      simp only [Nat.zero_add, Nat.mul_one, List.drop_zero]
      rw [if_pos (by simp), bF_all]
      have ha := lay_args2 cells cons vars i c.kind c.a c.b c.args (by omega) h6 c.args 0 (p ++ zb c.kind ++ zb c.a ++ zb c.b ++ zb c.args.length) rfl (by omega) (by simp only [List.length_append]; omega)
      have ha' : llay_4 vars cells.length (cellsF cells) cons.length (consF cons) (p ++ zb c.kind ++ zb c.a ++ zb c.b ++ zb c.args.length).length (i : Int) c.kind c.a c.b c.args.length (kF .i64 c.args) 0 (bF (p ++ zb c.kind ++ zb c.a ++ zb c.b ++ zb c.args.length)) = _ := ha
      have e : p ++ zb c.kind ++ zb c.a ++ zb c.b ++ zb c.args.length ++ c.args.flatMap zb = p ++ conB c := by unfold conB; rw [if_pos k5]; simp
      rw [ha', e, wrap_i64 (by omega) (by omega), show ((i : Int) + 1) = ((i + 1 : Nat) : Int) by omega, lay_cons vars cells cons hl ho rest (i + 1) (p ++ conB c) (drop_next hd) (by omega) (by rw [List.length_append]; omega)]
      simp
    · rw [if_neg (by simpa using k5)]
      simp only [Nat.zero_add, Nat.mul_one, List.drop_zero]
      have e : p ++ zb c.kind ++ zb c.a ++ zb c.b = p ++ conB c := by unfold conB; rw [if_neg k5]; simp
      rw [if_pos (by simp), bF_all, e, wrap_i64 (by omega) (by omega), show ((i : Int) + 1) = ((i + 1 : Nat) : Int) by omega, lay_cons vars cells cons hl ho rest (i + 1) (p ++ conB c) (drop_next hd) (by omega) (by rw [List.length_append]; omega)]
      simp
theorem lay_cells (vars : Int) (cells : List MCell) (cons : List MCon) (hl : cells.length < 1000000000) (hl2 : cons.length < 1000000000) (ho : ∀ c ∈ cells, okCell c) (ho2 : ∀ c ∈ cons, okCon c) : ∀ (rest : List MCell) (i : Nat) (p : List UInt8), cells.drop i = rest → i ≤ cells.length → p.length + rest.length * 1020 + 2000000000000 ≤ roomB →
    llay_1 vars cells.length (cellsF cells) cons.length (consF cons) p.length i (bF p) = some (.ret (.ref 0 0 (p ++ (rest.flatMap cellB ++ cons.flatMap conB)).length 1), [.fz (bF (p ++ (rest.flatMap cellB ++ cons.flatMap conB)))])
  | [], i, p, hd, hi, hp => by
    have := done_of_drop hd
    rw [llay_1_eq, if_neg (by simp; omega)]
    simp only [Nat.zero_add, Nat.mul_one, List.drop_zero]
    have hc' : llay_3 vars cells.length (cellsF cells) cons.length (consF cons) p.length 0 (bF p) = _ := lay_cons vars cells cons (by omega) ho2 cons 0 p rfl (by omega) (by omega)
    rw [if_pos (by simp), bF_all, hc']
    simp
  | c :: rest, i, p, hd, hi, hp => by
    have hlt := lt_of_drop hd
    obtain ⟨h1, h2, h3⟩ := ho c (mem_of_drop hd)
    have hcl := cellB_len ⟨h1, h2, h3⟩
    have z1 := zb_len h2.1 h2.2
    have z2 := zb_len (n := (c.args.length : Int)) (by omega) (by omega)
    have z3 := zb_len (n := -1) (by omega) (by omega)
    simp only [List.length_cons] at hp
    have go : ∀ q : List UInt8, q.length ≤ p.length + 20 → q ++ c.args.flatMap zb = p ++ cellB c → llay_2 vars cells.length (cellsF cells) cons.length (consF cons) q.length i c.fn c.var c.args.length (kF .i64 c.args) 0 (bF q) = some (.ret (.ref 0 0 (p ++ ((c :: rest).flatMap cellB ++ cons.flatMap conB)).length 1), [.fz (bF (p ++ ((c :: rest).flatMap cellB ++ cons.flatMap conB)))]) := by
      intro q hq e
      have ha' : llay_2 vars cells.length (cellsF cells) cons.length (consF cons) q.length i c.fn c.var c.args.length (kF .i64 c.args) 0 (bF q) = _ := lay_args1 cells cons vars i c.fn c.var c.args (by omega) h3 c.args 0 q rfl (by omega) (by omega)
      rw [ha', e, wrap_i64 (by omega) (by omega), show ((i : Int) + 1) = ((i + 1 : Nat) : Int) by omega, lay_cells vars cells cons hl hl2 ho ho2 rest (i + 1) (p ++ cellB c) (drop_next hd) (by omega) (by rw [List.length_append]; omega)]
      simp
    rw [llay_1_eq, if_pos (by simp; omega), elem_next MCell.F_len hd]
    simp only [MCell.F, List.cons_append, atB_zero, atI_zero, atI_succ, atL_zero, atL_succ]
    cases hf : c.fn
    · rw [if_neg (by simp)]
      rw [lnum_go (h := [.fz (bF p), .cells [B false, N .i64 c.var, .f (.lst c.args.length (kF .i64 c.args))]]) (L := 2) (L' := 3) rfl rfl rfl (by omega) (by omega) (by omega)]
      rw [lnum_go (h := [.dead, .cells [B false, N .i64 c.var, .f (.lst c.args.length (kF .i64 c.args))], .fz (bF (p ++ zb (-1)))]) (L := 3) (L' := 4) rfl rfl rfl (by rw [List.length_append]; omega) h2.1 h2.2]
      simp only [Nat.zero_add, Nat.mul_one, List.drop_zero]
      rw [if_pos (by simp), bF_all, ← hf]
      exact go _ (by simp only [List.length_append]; omega) (by unfold cellB; rw [hf]; simp)
    · rw [if_pos rfl]
      rw [lnum_go (h := [.fz (bF p), .cells [B true, N .i64 c.var, .f (.lst c.args.length (kF .i64 c.args))]]) (L := 2) (L' := 3) rfl rfl rfl (by omega) (by omega) (by omega)]
      rw [lnum_go (h := [.dead, .cells [B true, N .i64 c.var, .f (.lst c.args.length (kF .i64 c.args))], .fz (bF (p ++ zb c.args.length))]) (L := 3) (L' := 4) rfl rfl rfl (by rw [List.length_append]; omega) h2.1 h2.2]
      simp only [Nat.zero_add, Nat.mul_one, List.drop_zero]
      rw [if_pos (by simp), bF_all, ← hf]
      exact go _ (by simp only [List.length_append]; omega) (by unfold cellB; rw [hf]; simp)
/-- what llay asks for -/
def layS (s : MSys) : Prop := i64 s.vars ∧ s.cells.length ≤ 100000 ∧ s.cons.length ≤ 1000000 ∧ (∀ c ∈ s.cells, okCell c) ∧ ∀ c ∈ s.cons, okCon c
theorem right_layS {s : MSys} (h : rightR s = true) : layS s := by
  obtain ⟨⟨h1, h2, h3, h4⟩, h5, h6⟩ := rightR_iff.1 h
  exact ⟨⟨by omega, by omega⟩, by omega, by omega, fun c hc => cellR_ok h2 (h5 c hc), fun c hc => conR_ok h2 h3 (h6 c hc)⟩
theorem right_small {s : MSys} (h : rightR s = true) : smallS s := by
  obtain ⟨h1, h2, h3, h4, h5⟩ := right_layS h
  exact ⟨by omega, by omega, fun c hc => by have := (h4 c hc).1; omega, fun c hc => by have := (h5 c hc).1; omega⟩
theorem llay_core (s : MSys) (hs : layS s) : llay_0 s.vars s.cells.length (cellsF s.cells) s.cons.length (consF s.cons) = some (.ret (.ref 0 0 (layB s).length 1), [.fz (bF (layB s))]) := by
  obtain ⟨⟨h1, h2⟩, h3, h4, h5, h6⟩ := hs
  have z1 := zb_len (n := s.vars) (by omega) (by omega)
  have z2 := zb_len (n := (s.cells.length : Int)) (by omega) (by omega)
  have z3 := zb_len (n := (s.cons.length : Int)) (by omega) (by omega)
  rw [llay_eq, mark_cells, show (V.ref 1 0 4 1) = V.ref 1 0 markB.length 1 from rfl]
  rw [lnum_go (p := markB) (h := [.cells [N .i64 s.vars, .f (.lst s.cells.length (cellsF s.cells)), .f (.lst s.cons.length (consF s.cons))], .fz (bF markB)]) (L := 2) (L' := 3) rfl rfl rfl (by decide) (by omega) (by omega)]
  rw [lnum_go (h := [.cells [N .i64 s.vars, .f (.lst s.cells.length (cellsF s.cells)), .f (.lst s.cons.length (consF s.cons))], .dead, .fz (bF (markB ++ zb s.vars))]) (L := 3) (L' := 4) rfl rfl rfl (by simp only [List.length_append, roomB, markB, List.length_cons, List.length_nil]; omega) (by omega) (by omega)]
  rw [lnum_go (h := [.cells [N .i64 s.vars, .f (.lst s.cells.length (cellsF s.cells)), .f (.lst s.cons.length (consF s.cons))], .dead, .dead, .fz (bF (markB ++ zb s.vars ++ zb s.cells.length))]) (L := 4) (L' := 5) rfl rfl rfl (by simp only [List.length_append, roomB, markB, List.length_cons, List.length_nil]; omega) (by omega) (by omega)]
  simp only [Nat.zero_add, Nat.mul_one, List.drop_zero]
  rw [if_pos (by simp), bF_all]
  have hc' : llay_1 s.vars s.cells.length (cellsF s.cells) s.cons.length (consF s.cons) (markB ++ zb s.vars ++ zb s.cells.length ++ zb s.cons.length).length 0 (bF (markB ++ zb s.vars ++ zb s.cells.length ++ zb s.cons.length)) = _ := lay_cells s.vars s.cells s.cons (by omega) (by omega) h5 h6 s.cells 0 (markB ++ zb s.vars ++ zb s.cells.length ++ zb s.cons.length) rfl (by omega) (by simp only [List.length_append, roomB, markB, List.length_cons, List.length_nil]; omega)
  have e : markB ++ zb s.vars ++ zb s.cells.length ++ zb s.cons.length ++ (s.cells.flatMap cellB ++ s.cons.flatMap conB) = layB s := by unfold layB bodyB; simp
  rw [hc', e]
end Go.Proofs.YtlemkcclgneemaaDoor
