/-
  The laws of the file: what they answer.
-/
import Derived.Test.YtlemkcclgneemaaDoorFileSpec8
set_option autoImplicit false
set_option linter.unusedVariables false
set_option linter.unusedSimpArgs false
namespace Go.Proofs.YtlemkcclgneemaaDoor
open Go Go.Abs

/-- no system -/
abbrev zeroS : MSys := ⟨0, [], []⟩
theorem fEncode_nil (h0 : H) : run w0 10 [.agg [N .i64 0, nilS, nilS]] h0 = withH true h0 (fEncode_0 0 0 [] 0 []) := (run_eq w0 ..).trans (by kernel_rfl)
/-- what Decode tells, as plain data -/
def decM (p : List UInt8) : MSys × Nat := if (openB p).2 = 0 then (match pSys (openB p).1 with | some s => (s, 0) | none => (zeroS, 4)) else (zeroS, (openB p).2)
theorem fDecode_at {p : List UInt8} (hp : p.length ≤ roomB) (h : H) : run w0 11 [.f (.lst p.length (bF p))] h = some (.ret (.tup [.agg (sysV (decM p).1), I ((decM p).2 : Nat)]), h) := by
  rw [call_vals own_fDecode (of_decide_eq_true (by kernel_rfl)) rfl]
  have e : coreOf w0 11 Tryd.f11 [.val, .val] none [.f (.lst p.length (bF p))] [] = fDecode_0 p.length (bF p) := rfl
  have hd : decR p = some (.ret (.tup [.agg (sysV (decM p).1), I ((decM p).2 : Nat)]), []) := by
    unfold decR decM
    split
    · cases pSys (openB p).1 <;> rfl
    · rfl
  rw [e, fDecode_core p hp, hd]
  simp [graft, ren, rens]
theorem dec_go {p : List UInt8} (hp : p.length ≤ roomB) {h : H} {L : Nat} (hL : h.length = L) (K : Int → Nat → List F → Nat → List F → Int → R) :
    (pO (run w0 11 [.f (.lst p.length (bF p))] h) fun v g => (V.tup? v).bind fun l4 => (l4[0]?).bind fun v5 => (V.agg? v5).bind fun l6 => cI .i64 l6 0 fun n7 => cL l6 1 fun m8 c8 => cL l6 2 fun m9 c9 => if l6.length = 3 then (l4[1]?).bind fun v10 => (V.int? .i64 v10).bind fun n11 => if l4.length = 2 then if g.length = L then K n7 m8 c8 m9 c9 n11 else none else none else none) =
      K (decM p).1.vars (decM p).1.cells.length (cellsF (decM p).1.cells) (decM p).1.cons.length (consF (decM p).1.cons) ((decM p).2 : Nat) := by
  rw [fDecode_at hp, pO_some]
  simp [V.tup?, V.agg?, V.int?, V.f?, F.int?, cI, cL, V.lst?, F.lst?, hL]
theorem enc_go {s : MSys} (hr : rightR s = true) {h : H} (K : Nat → List F → Int → R) :
    (pT (run w0 10 [.agg (sysV s)] h) fun l1 => cL l1 0 fun m2 c2 => cI .i64 l1 1 fun n3 => if l1.length = 2 then K m2 c2 n3 else none) = K (sealB (layB s)).length (bF (sealB (layB s))) 0 := by
  rw [fEncode_spec s (right_small hr), if_pos hr]
  simp [pT_some, V.tup?, V.int?, V.f?, F.int?, cI, cL, V.lst?, F.lst?]
theorem layB_len {s : MSys} (h : rightR s = true) : (layB s).length ≤ 400000000 := by
  obtain ⟨⟨h1, h2, h3, h4⟩, h5, h6⟩ := rightR_iff.1 h
  have z1 := zb_len (n := s.vars) (by omega) (by omega)
  have z2 := zb_len (n := (s.cells.length : Int)) (by omega) (by omega)
  have z3 := zb_len (n := (s.cons.length : Int)) (by omega) (by omega)
  have z4 := flat_le (f := cellB) (l := s.cells) fun c hc => cellB_len (cellR_ok h2 (h5 c hc))
  have z5 := flat_le (f := conB) (l := s.cons) fun c hc => conB_len (conR_ok h2 h3 (h6 c hc))
  unfold layB bodyB
  simp only [List.length_append, markB, List.length_cons, List.length_nil]
  omega
theorem seal_room {s : MSys} (h : rightR s = true) : (sealB (layB s)).length ≤ roomB := by
  have := layB_len h
  rw [seal_len]; unfold roomB; omega
theorem decM_seal {s : MSys} (h : rightR s = true) : decM (sealB (layB s)) = (s, 0) := by
  unfold decM
  rw [open_seal, if_pos rfl, pSys_put h]
theorem str_bF (p : List UInt8) (K : ByteArray → R) : ((if (bF p).length = p.length then Option.map (fun l => (⟨l.toArray⟩ : ByteArray)) (strOfF (bF p)) else none).bind K) = K ⟨p.toArray⟩ := by
  rw [if_pos (by simp), strOfF_bF]; rfl
theorem fawake_core : fawake_0 = yes := by
  have hz : rightR zeroS = true := rfl
  have he : run w0 10 [.agg [N .i64 0, nilS, nilS]] [] = run w0 10 [.agg (sysV zeroS)] [] := (fEncode_nil []).trans (fEncode_run 0 0 [] 0 [] []).symm
  rw [fawake_eq, he, enc_go hz, dec_go (seal_room hz) (L := 0) rfl, decM_seal hz, if_pos (by rfl), if_pos (by rfl), str_bF]
  have hb : ([F.s (.int .u8 87), F.s (.int .u8 86), F.s (.int .u8 67), F.s (.int .u8 49), F.s (.int .u8 0), F.s (.int .u8 0), F.s (.int .u8 0)] : List F) = bF (layB zeroS) := by
    have z : zb 0 = [0] := by
      unfold zb
      rw [show zig 0 = 0 by decide]
      unfold putB hi; simp
    unfold layB bodyB
    rw [show zeroS.vars = 0 from rfl, show ((zeroS.cells.length : Nat) : Int) = 0 from rfl, show ((zeroS.cons.length : Nat) : Int) = 0 from rfl, z]
    rfl
  have h7 : (layB zeroS).length = 7 := by have := congrArg List.length hb; simpa using this.symm
  rw [hb, show (V.ref 1 0 7 1) = V.ref 1 0 (layB zeroS).length 1 by rw [h7], rSeal_give (h := [.cells [N .i64 zeroS.vars, .f (.lst zeroS.cells.length (cellsF zeroS.cells)), .f (.lst zeroS.cons.length (consF zeroS.cons))], .fz (bF (layB zeroS))]) (k := 1) rfl (by omega), pO_some]
  simp only [V.lst?, V.f?, F.lst?, Option.bind_some, List.length_set, List.length_cons, List.length_nil, if_true, str_bF]
  rw [if_pos (by simp)]; rfl
theorem fawake_spec (h0 : H) : run w0 8 [] h0 = some (.ret (B true), h0) := by rw [fawake_run, fawake_core, withH_true]
end Go.Proofs.YtlemkcclgneemaaDoor
