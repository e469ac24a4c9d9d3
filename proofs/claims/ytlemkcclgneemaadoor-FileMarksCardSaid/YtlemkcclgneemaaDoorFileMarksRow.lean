/-
  The law of other marks, of all arguments of its types.
-/
import Derived.Test.YtlemkcclgneemaaDoorFileRows
import Derived.Test.YtlemkcclgneemaaDoorFileMarksLaw
set_option autoImplicit false
set_option linter.unusedVariables false
set_option linter.unusedSimpArgs false
namespace Go.Proofs.YtlemkcclgneemaaDoor
open Go Go.Abs

theorem FileMarks_all (l : List (List F)) (h : Args Tryd.prog Tryd.f7.params.toList l) : ∃ h', run w0 7 (argVs Tryd.prog Tryd.f7.params.toList l) [] = some (.ret (B true), h') := by
  obtain ⟨x1, l1, rfl, h1, h⟩ := h.cons_inv
  obtain ⟨x2, l2, rfl, h2, h⟩ := h.cons_inv
  obtain ⟨x3, l3, rfl, h3, h⟩ := h.cons_inv
  obtain rfl := h.nil_inv
  obtain ⟨d1, d2, acts, rfl, k1, k2, ho, hl⟩ := draft_of h1
  obtain ⟨raw, rfl, _⟩ : ∃ raw : List UInt8, x2 = [.lst raw.length (bF raw)] ∧ True := by
    obtain ⟨raw, hr, _⟩ := h2.slice_of (e := 5) (f := fun x : UInt8 => [F.s (.int .u8 (x.toNat : Nat))]) (ok := fun _ => True) (by kernel_rfl) fun p hp => by
      obtain ⟨n, rfl, hn⟩ := byte_of hp
      unfold byteI at hn
      exact ⟨UInt8.ofNat n.toNat, by simp; omega, trivial⟩
    refine ⟨raw, ?_, trivial⟩
    rw [hr]
    simp [bF, List.map_eq_flatMap]
  obtain ⟨n3, rfl, hn3⟩ := h3.of_int (k := .u16) (by kernel_rfl)
  obtain ⟨n3, rfl, hu3⟩ := wf_u16 hn3
  exact ⟨_, (FileMarks_run d1 d2 acts.length (quadsF acts) raw.length (bF raw) n3 []).trans ((congrArg (withH true []) (FileMarks_law d1 d2 k1 k2 acts ho hl raw n3 (by omega))).trans (withH_true _ _ _))⟩
end Go.Proofs.YtlemkcclgneemaaDoor
