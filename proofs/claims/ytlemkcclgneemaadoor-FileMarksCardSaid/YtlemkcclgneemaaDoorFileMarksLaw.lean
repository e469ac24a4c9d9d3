/-
  Bytes with another mark, or cut: the law.
-/
import Derived.Test.YtlemkcclgneemaaDoorFileLaws
set_option autoImplicit false
set_option linter.unusedVariables false
set_option linter.unusedSimpArgs false
namespace Go.Proofs.YtlemkcclgneemaaDoor
open Go Go.Abs

theorem pSys_more {s : MSys} (h : rightR s = true) {r : List UInt8} (hr : r ≠ []) : pSys (layB s ++ r) = none := by
  obtain ⟨⟨h1, h2, h3, h4⟩, h5, h6⟩ := rightR_iff.1 h
  unfold pSys layB
  rw [List.append_assoc, if_pos (by simp [markB]), show List.drop 4 (markB ++ (bodyB s ++ r)) = bodyB s ++ r from rfl]
  unfold pBody bodyB
  simp only [List.append_assoc]
  rw [pGet_put (by omega) (by omega) (zig_small (by omega) (by omega)), Option.bind_some, pGet_put (by omega) (by omega) (zig_small (by omega) (by omega)), Option.bind_some, pGet_put (by omega) (by omega) (zig_small (by omega) (by omega)), Option.bind_some]
  simp only [Int.toNat_natCast]
  rw [pMany_put _ _ fun c hc r => pCell_put h2 c (h5 c hc) r, Option.bind_some, pMany_put (p := pCon) (f := conB) s.cons r fun c hc r => pCon_put h2 h3 c (h6 c hc) r, Option.bind_some, if_neg (fun q => hr q.1)]
/-- no bytes of a system are the first of another's -/
theorem pSys_cut {s : MSys} (h : rightR s = true) {k : Nat} (hk : k < (layB s).length) : pSys ((layB s).take k) = none := by
  cases hp : pSys ((layB s).take k) with
  | none => rfl
  | some t =>
    obtain ⟨g1, g2⟩ := pSys_got hp
    have h1 := pSys_put h
    rw [← List.take_append_drop k (layB s), g1, pSys_more g2 (fun q => by have := congrArg List.length q; simp at this; omega)] at h1
    cases h1
theorem decM_no {q : List UInt8} (h : pSys q = none) : decM (sealB q) = (zeroS, 4) := by
  unfold decM
  rw [open_seal, if_pos rfl, h]
theorem decM_short {q : List UInt8} (h : q.length < 4) : decM q = (zeroS, 3) := by
  unfold decM openB
  rw [if_pos h]; rfl
theorem layB_4 (s : MSys) : 4 ≤ (layB s).length := by unfold layB; rw [List.length_append, show markB.length = 4 from rfl]; omega
theorem FileMarks_tail (s : MSys) (hr : rightR s = true) (mark : List UInt8) (h4 : mark.length = 4) (hm : mark ≠ markB) (cut : Nat) (hc : cut < 65536) : FileMarks_5 mark.length (bF mark) cut (layB s).length (bF (layB s)) = yes := by
  have hb := layB_len hr
  have hl := layB_4 s
  have hcutx := fun k (hk : k < (layB s).length) => pSys_cut hr hk
  generalize layB s = p at hb hl hcutx
  rw [FileMarks_5_eq, if_pos ⟨by decide, by simp, by decide⟩, if_pos (by omega), if_pos ⟨by omega, by omega⟩, Option.bind_some]
  simp only [Int.reduceToNat]
  have e1 : ((bF p).drop (4 * 1)).take ((p.length - 4) * 1) = bF (p.drop 4) := by rw [List.take_of_length_le (by simp)]; simp [bF, List.map_drop]
  have e2 : ((bF mark).drop 0).take (mark.length * 1) = bF mark := by rw [List.drop_zero, List.take_of_length_le (by simp)]
  rw [e1, e2, if_pos ⟨by decide, by simp, by decide⟩, if_pos ⟨trivial, by omega⟩, if_pos (by simp), ← bF_append]
  have hlen : mark.length + (p.length - 4) = (mark ++ p.drop 4).length := by simp
  rw [hlen, seal_go (p := mark ++ p.drop 4) (h := [.dead, .fz (bF (mark ++ p.drop 4))]) (k := 1) (L := 2) rfl (by simp; omega) rfl]
  have hx : pSys (mark ++ p.drop 4) = none := by
    unfold pSys
    rw [← h4, List.take_left, if_neg hm]
  rw [dec_go (by rw [seal_len]; unfold roomB; simp; omega) (L := 2) rfl, decM_no hx]
  have hw : Int.tmod (IntKind.wrap .i64 (cut : Int)) ((p.length : Nat) : Int) = ((cut % p.length : Nat) : Int) := by rw [wrap_i64 (by omega) (by omega)]; rfl
  have hlt : cut % p.length < p.length := Nat.mod_lt _ (by omega)
  rw [FileMarks_6_eq, hw, if_neg (by omega), if_pos ⟨by omega, by omega⟩, Option.bind_some]
  simp only [Int.toNat_natCast, Nat.sub_zero, Nat.mul_one, List.drop_zero]
  have e3 : (bF p).take (cut % p.length) = bF (p.take (cut % p.length)) := bF_take ..
  have e4 : cut % p.length = (p.take (cut % p.length)).length := by rw [List.length_take]; omega
  have hcx := hcutx _ hlt
  rw [e3]
  generalize p.take (cut % p.length) = c1 at hcx e4
  rw [e4, seal_val (p := c1) (by omega) (L := 0) rfl, FileMarks_7_eq, dec_go (by rw [seal_len]; unfold roomB; omega) (L := 0) rfl, decM_no hcx, FileMarks_8_eq]
  have hw2 : Int.tmod (IntKind.wrap .i64 (cut : Int)) 4 = ((cut % 4 : Nat) : Int) := by rw [wrap_i64 (by omega) (by omega)]; rfl
  rw [FileMarks_9_eq, hw2, if_pos ⟨by omega, by omega⟩, Option.bind_some]
  simp only [Int.toNat_natCast, Nat.sub_zero, Nat.mul_one, List.drop_zero]
  have e5 : (bF p).take (cut % 4) = bF (p.take (cut % 4)) := bF_take ..
  have e6 : cut % 4 = (p.take (cut % 4)).length := by rw [List.length_take]; omega
  rw [e5]
  have hsh : (p.take (cut % 4)).length < 4 := by omega
  generalize p.take (cut % 4) = c2 at e6 hsh
  rw [e6, dec_go (by unfold roomB; omega) (L := 0) rfl, decM_short hsh, FileMarks_10_eq, FileMarks_11_eq, if_pos (by rfl), if_pos (by rfl)]
  rfl
theorem FileMarks_law (d1 d2 : Int) (h1 : byteI d1) (h2 : byteI d2) (acts : List Quad) (ho : ∀ q ∈ acts, okQ q) (hl : acts.length < 9223372036854775808) (mark : List UInt8) (cut : Nat) (hc : cut < 65536) : FileMarks_0 d1 d2 acts.length (quadsF acts) mark.length (bF mark) cut = yes := by
  obtain ⟨s, hr, hm⟩ := sMake_spec d1 d2 h1 h2 acts ho hl
  have hb := layB_len hr
  rw [FileMarks_eq, fawake_spec, pB_some, FileMarks_1_eq, if_pos (by rfl)]
  by_cases h40 : acts.length > 40
  · rw [if_neg (by simp; omega), fawake_spec, pB_some, FileMarks_2_eq]
  · rw [if_pos (by simp; omega)]
    by_cases h4 : mark.length = 4
    · rw [if_pos (by simp [h4]), str_bF]
      have hq : ((⟨mark.toArray⟩ : ByteArray).toList == (⟨#[87, 86, 67, 49]⟩ : ByteArray).toList) = decide (mark = markB) := bytes_eq mark markB
      rw [hq]
      by_cases hk : mark = markB
      · rw [if_pos (by simp [hk]), fawake_spec, pB_some, FileMarks_2_eq]
      · rw [if_neg (by simp [hk]), make_go (hm _), FileMarks_3_eq, lay_go hr (L := 1) (L' := 2) rfl rfl, FileMarks_4_eq, if_pos (by simp)]
        have e2 : ((bF (layB s)).drop 0).take ((layB s).length * 1) = bF (layB s) := by rw [List.drop_zero, List.take_of_length_le (by simp)]
        rw [e2]
        exact FileMarks_tail s hr mark h4 hk cut hc
    · rw [if_neg (by simp; omega), fawake_spec, pB_some, FileMarks_2_eq]
end Go.Proofs.YtlemkcclgneemaaDoor
