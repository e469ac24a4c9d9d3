/-
  Drafts that come in: their numbers; what Make answers to them.
-/
import Derived.Test.YtjefolfbdohkcaaMakeSpec5
import Derived.Test.YtjefolfbdohkcaaAbsArgs
import Derived.Test.YtjefolfbdohkcaaProg
import Derived.KernelRfl
set_option autoImplicit false
set_option linter.unusedVariables false
namespace Go.Proofs.Ytjefolfbdohkcaa
open Go Go.Abs
theorem act_of {p : List F} (h : Ty Try.prog 64 p) : ∃ x : MAct, p = x.F ∧ x.ok := by
  obtain ⟨parts, rfl, ha⟩ := h.struct_args (ts := [5, 5, 5, 5]) (by kernel_rfl)
  obtain ⟨x1, l, rfl, h1, ha⟩ := ha.cons_inv
  obtain ⟨x2, l, rfl, h2, ha⟩ := ha.cons_inv
  obtain ⟨x3, l, rfl, h3, ha⟩ := ha.cons_inv
  obtain ⟨x4, l, rfl, h4, ha⟩ := ha.cons_inv
  obtain rfl := ha.nil_inv
  obtain ⟨a, rfl, wa⟩ := h1.of_int (k := .u8) (by kernel_rfl)
  obtain ⟨b, rfl, wb⟩ := h2.of_int (k := .u8) (by kernel_rfl)
  obtain ⟨c, rfl, wc⟩ := h3.of_int (k := .u8) (by kernel_rfl)
  obtain ⟨d, rfl, wd⟩ := h4.of_int (k := .u8) (by kernel_rfl)
  obtain ⟨a, rfl, qa⟩ := wf_u8 wa
  obtain ⟨b, rfl, qb⟩ := wf_u8 wb
  obtain ⟨c, rfl, qc⟩ := wf_u8 wc
  obtain ⟨d, rfl, qd⟩ := wf_u8 wd
  exact ⟨⟨a, b, c, d⟩, rfl, qa, qb, qc, qd⟩
theorem draft_of {p : List F} (h : Ty Try.prog 24 p) : ∃ (g f e : Nat) (acts : List MAct), p = [.s (.int .u8 g), .s (.int .u8 f), .s (.int .u8 e), .lst acts.length (actsF acts)] ∧ g < 256 ∧ f < 256 ∧ e < 256 ∧ acts.length ≤ maxLen ∧ ∀ x ∈ acts, x.ok := by
  obtain ⟨parts, rfl, ha⟩ := h.struct_args (ts := [5, 5, 5, 22]) (by kernel_rfl)
  obtain ⟨x1, l, rfl, h1, ha⟩ := ha.cons_inv
  obtain ⟨x2, l, rfl, h2, ha⟩ := ha.cons_inv
  obtain ⟨x3, l, rfl, h3, ha⟩ := ha.cons_inv
  obtain ⟨x4, l, rfl, h4, ha⟩ := ha.cons_inv
  obtain rfl := ha.nil_inv
  obtain ⟨a, rfl, wa⟩ := h1.of_int (k := .u8) (by kernel_rfl)
  obtain ⟨b, rfl, wb⟩ := h2.of_int (k := .u8) (by kernel_rfl)
  obtain ⟨c, rfl, wc⟩ := h3.of_int (k := .u8) (by kernel_rfl)
  obtain ⟨acts, rfl, hl, ho⟩ := h4.slice_of (e := 64) (f := MAct.F) (ok := MAct.ok) (by kernel_rfl) fun p hp => act_of hp
  obtain ⟨a, rfl, qa⟩ := wf_u8 wa
  obtain ⟨b, rfl, qb⟩ := wf_u8 wb
  obtain ⟨c, rfl, qc⟩ := wf_u8 wc
  exact ⟨a, b, c, acts, rfl, qa, qb, qc, hl, ho⟩
end Go.Proofs.Ytjefolfbdohkcaa
