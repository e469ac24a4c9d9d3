/-
  Bytes that are put behind others, and read: the law.
-/
import Derived.Test.YtjhojfedimbpiaaCoilPut
import Derived.Test.YtjhojfedimbpiaaCoilLaws
set_option autoImplicit false
set_option linter.unusedVariables false
set_option linter.unusedSimpArgs false
namespace Go.Proofs.Ytjhojfedimbpiaa
open Go Go.Abs

theorem pput_go {r : R} {p : List UInt8} {h : H} {L L' : Nat} (hr : r = some (.ret (.ref h.length 0 p.length 1), h ++ [.fz (bF p)])) (hL : h.length = L) (hL' : L + 1 = L') (K : Nat → List F → R) :
    (pO r fun v g => (asRef L 1 v).bind fun m => (asFz g L).bind fun c => if g.length = L' then K m c else none) = K p.length (bF p) := by
  subst hr; subst hL; subst hL'
  rw [pO_some]
  simp [asRef, asFz]
theorem rPut_any {h : H} {n : Nat} (hn : n < 18446744073709551616) (hs : run w0 18 [N .u64 n] h = graft h none (rPut_0 n)) : run w0 18 [N .u64 n] h = some (.ret (.ref h.length 0 (putB n).length 1), h ++ [.fz (bF (putB n))]) := by
  rw [hs, rPut_spec n hn, graft_ref]
theorem str_cut {l : List UInt8} (K : ByteArray → R) : ((if l.length ≤ (bF l).length then Option.map (fun l => (⟨l.toArray⟩ : ByteArray)) (strOfF ((bF l).take l.length)) else none).bind K) = K ⟨l.toArray⟩ := by
  rw [if_pos (by simp), List.take_of_length_le (by simp), strOfF_bF]; rfl
theorem str_cut' {l : List UInt8} (K : ByteArray → R) : ((if l.length ≤ (bF l).length then Option.map (fun l => (⟨l.toArray⟩ : ByteArray)) (strOfF (bF l)) else none).bind K) = K ⟨l.toArray⟩ := by
  rw [if_pos (by simp), strOfF_bF]; rfl
theorem CoilPuts_law (p q : List UInt8) (n : Nat) (hn : n < 18446744073709551616) : CoilPuts_0 p.length (bF p) q.length (bF q) n = some (.ret (B true), []) := by
  rw [CoilPuts_eq, awake_spec, pB_some, if_pos (show (!true) = false from rfl)]
  by_cases hp : p.length ≤ 50
  · rw [if_pos (by simp; omega)]
    by_cases hq : q.length ≤ 50
    · have hl := putB_len hn
      have hpos := putB_len_pos n
      rw [if_neg (by simp; omega), if_pos ⟨by decide, by simp, by decide⟩, if_pos (by omega), if_pos ⟨by omega, by omega⟩, Option.bind_some]
      simp only [Int.toNat_natCast, Nat.sub_zero, Nat.mul_one, List.drop_zero]
      rw [if_pos trivial, List.take_of_length_le (by simp)]
      have hP := Put_lit (h := [.fz (bF p)]) p hn (by omega)
      refine Eq.trans (pput_go hP (L := 1) (L' := 2) rfl rfl _) ?_
      have hml : (p ++ putB n).length = p.length + (putB n).length := List.length_append
      rw [if_pos ⟨by omega, by omega⟩, Option.bind_some]
      simp only [Nat.zero_add]
      have e1 : ((bF (p ++ putB n)).drop p.length).take ((p ++ putB n).length - p.length) = bF (putB n) := by
        rw [bF_append, List.drop_left' (by simp), List.take_of_length_le (by simp)]
      have e2 : (p ++ putB n).length - p.length = (putB n).length := by omega
      rw [e1, e2, if_pos ⟨trivial, by rw [bF_length]; omega⟩, if_pos ⟨by decide, by simp, by decide⟩, if_pos (by omega), if_pos ⟨by decide, by simp, by decide⟩, if_pos ⟨trivial, by omega⟩, if_pos (by simp)]
      have e3 : (bF (putB n)).take (putB n).length = bF (putB n) := List.take_of_length_le (by simp)
      have hb : (putB n ++ q).length = (putB n).length + q.length := List.length_append
      rw [e3, ← bF_append, ← hb, NewReader_r3_zzdz]
      have hR : NewReader_0 (putB n ++ q).length (((bF (putB n ++ q)).drop 0).take ((putB n ++ q).length * 1)) = some (.ret (.ptr 0 0), [rdr (putB n ++ q) 0 0]) := by
        rw [List.drop_zero, Nat.mul_one, List.take_of_length_le (by simp), NewReader_eq]
        simp only [Nat.zero_add, Nat.mul_one, List.drop_zero]
        rw [if_pos ⟨by decide, by simp, by decide⟩, if_pos (by omega), if_pos (by simp), List.take_of_length_le (by simp)]
        rfl
      rw [if_pos (by simp), hR]
      generalize hpq : putB n ++ q = l at hb
      have hG : graft [.fz (bF p), .fz (bF (p ++ putB n)), .dead, .dead] none (some (.ret (.ptr 0 0), [rdr l 0 0])) = some (.ret (.ptr 4 0), [.fz (bF p), .fz (bF (p ++ putB n)), .dead, .dead, rdr l 0 0]) := rfl
      rw [hG, pO_some]
      simp only [rdr, asPtr, asCells, List.getElem?_cons_zero, List.getElem?_cons_succ, Option.bind_some, V.f?, V.int?, F.int?, if_true, List.length_cons, List.length_nil, and_self]
      have hN : Num_0 (.lst l.length (bF l)) 0 0 18446744073709551615 = some (.ret (N .u64 n), [rdr l (putB n).length 0]) := by
        have h := Num_loop l 0 18446744073709551615 (by omega) l 0 0 rfl (by omega) (by omega)
        have hrd : rdN 18446744073709551615 l 0 0 = (n, (putB n).length, 0) := by rw [← hpq]; exact rdN_put 18446744073709551615 n q hn |>.trans (if_neg (by omega))
        rw [hrd] at h
        dsimp only at h
        rw [if_pos rfl, Nat.zero_add] at h
        rw [Num_eq]
        exact h
      have hN2 : run w0 17 [.ptr 4 0, N .u64 18446744073709551615] [.fz (bF p), .fz (bF (p ++ putB n)), .dead, .dead, .cells [.f (.lst l.length (bF l)), N .i64 0, N .i64 0]] = some (.ret (N .u64 n), [.fz (bF p), .fz (bF (p ++ putB n)), .dead, .dead, rdr l (putB n).length 0]) := by
        rw [Num_p4v_zzddc3, hN]; rfl
      refine Eq.trans (congrArg (fun r => pO r _) hN2) ?_
      rw [pO_some]
      simp only [rdr, asCells, List.getElem?_cons_zero, List.getElem?_cons_succ, Option.bind_some, V.f?, V.int?, F.int?, if_true, List.length_cons, List.length_nil, and_self]
      rw [str_cut, str_cut']
      have hr1 := rPut_any (h := [.fz (bF p), .fz (bF (p ++ putB n)), .dead, .dead, .cells [.f (.lst l.length (bF l)), N .i64 ((putB n).length : Nat), N .i64 0]]) hn (rPut_v_zzddc3 ..)
      refine Eq.trans (pput_go hr1 (L := 5) (L' := 6) rfl rfl _) ?_
      rw [str_cut]
      have hsz : ((⟨p.toArray⟩ : ByteArray).size + (⟨(putB n).toArray⟩ : ByteArray).size : Nat) = p.length + (putB n).length := by
        show p.toArray.size + (putB n).toArray.size = _
        simp
      have hcat : (⟨p.toArray⟩ : ByteArray) ++ (⟨(putB n).toArray⟩ : ByteArray) = ⟨(p ++ putB n).toArray⟩ := by
        apply ByteArray.ext
        simp
      rw [hsz, if_neg (by omega), hcat, if_pos (by simp)]
      have hr2 := rPut_any (h := [.fz (bF p), .fz (bF (p ++ putB n)), .dead, .dead, .cells [.f (.lst l.length (bF l)), N .i64 ((putB n).length : Nat), N .i64 0], .fz (bF (putB n))]) hn (rPut_v_zzddc3z ..)
      rw [Size_spec n hn, pI_some]
      refine Eq.trans (pput_go hr2 (L := 6) (L' := 7) rfl rfl _) ?_
      rw [if_pos (by simp), if_pos (by simp)]
      rw [Left_p4_zzddc3zz, Left_eq]
      have hs : F.sl? (frzF (.lst l.length (bF l))) = some (l.length, bF l) := rfl
      rw [hs]
      simp only [Option.bind_some]
      rw [wrap_i64 (by omega) (by omega), withH_scal _ _ _ _ rfl, pI_some, if_pos (by simp; omega), Fault_p4_zzddc3zz, Fault_eq, withH_scal _ _ _ _ rfl, pI_some]
      rfl
    · rw [if_pos (by simp; omega), pB_some]
  · rw [if_neg (by simp; omega), pB_some]
theorem kF_bytes : ∀ (ns : List Int), (∀ n ∈ ns, ∃ u : Nat, n = u ∧ u < 256) → ∃ l : List UInt8, kF .u8 ns = bF l ∧ ns.length = l.length
  | [], _ => ⟨[], rfl, rfl⟩
  | n :: ns, h => by
    obtain ⟨u, rfl, hu⟩ := h n (by simp)
    obtain ⟨l, h1, h2⟩ := kF_bytes ns fun m hm => h m (by simp [hm])
    refine ⟨UInt8.ofNat u :: l, ?_, by simp [h2]⟩
    have : ((UInt8.ofNat u).toNat : Int) = (u : Int) := by simp; omega
    rw [bF_cons, ← h1, this]; rfl
theorem CoilPuts_all (l : List (List F)) (h : Args Try.prog Try.f6.params.toList l) : ∃ h', run w0 6 (argVs Try.prog Try.f6.params.toList l) [] = some (.ret (B true), h') := by
  obtain ⟨x1, l1, rfl, h1, h⟩ := h.cons_inv
  obtain ⟨x2, l2, rfl, h2, h⟩ := h.cons_inv
  obtain ⟨x3, l3, rfl, h3, h⟩ := h.cons_inv
  obtain rfl := h.nil_inv
  obtain ⟨ns, hx, _, hw⟩ := h1.of_ints (k := .u8) rfl rfl
  obtain ⟨ms, hy, _, hw2⟩ := h2.of_ints (k := .u8) rfl rfl
  obtain ⟨u, rfl, hu⟩ := h3.of_int (k := .u64) (by kernel_rfl)
  obtain ⟨u, rfl, hu'⟩ := wf_u64 hu
  obtain ⟨p, hp, hp2⟩ := kF_bytes ns fun n hn => wf_u8 (hw n hn)
  obtain ⟨q, hq, hq2⟩ := kF_bytes ms fun n hn => wf_u8 (hw2 n hn)
  rw [hp, hp2] at hx
  rw [hq, hq2] at hy
  subst hx
  subst hy
  have law : run w0 6 [.f (.lst p.length (bF p)), .f (.lst q.length (bF q)), N .u64 u] [] = some (.ret (B true), []) := by rw [CoilPuts_run, CoilPuts_law p q u hu', withH_true]
  exact ⟨_, law⟩
end Go.Proofs.Ytjhojfedimbpiaa
