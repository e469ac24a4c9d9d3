/-
  Drafts that come in: their numbers; what Make answers to them.
-/
import Derived.Test.YtemnahkpffafoaaDoorMakeSpec5
import Derived.Test.YtemnahkpffafoaaDoorAbsArgs
import Derived.Test.YtemnahkpffafoaaDoorProg
import Derived.KernelRfl
set_option autoImplicit false
set_option linter.unusedVariables false
namespace Go.Proofs.YtemnahkpffafoaaDoor
open Go Go.Abs
theorem act_of {p : List F} (h : Ty Tryd.prog 64 p) : ∃ x : MAct, p = x.F ∧ x.ok := by
  obtain ⟨parts, rfl, ha⟩ := h.struct_args (ts := [5, 5, 5, 5]) (by kernel_rfl)
  obtain ⟨x1, l, rfl, h1, ha⟩ := ha.cons_inv
  obtain ⟨x2, l, rfl, h2, ha⟩ := ha.cons_inv
  obtain ⟨x3, l, rfl, h3, ha⟩ := ha.cons_inv
  obtain ⟨x4, l, rfl, h4, ha⟩ := ha.cons_inv
  obtain rfl := ha.nil_inv
  obtain ⟨a, rfl, wa⟩ := h1.of_int (k := .u8) (by kernel_rfl)
  obtain ⟨b, rfl, wb⟩ := h2.of_int (k := .u8) (by kernel_rfl)
  obtain ⟨c, rfl, wc⟩ := h3.of_int (k := .u8) (by kernel_rfl)
  obtain ⟨d, rfl, wd⟩ := h4.of_int (k := .u8) (by kernel_rfl)
  obtain ⟨a, rfl, qa⟩ := wf_u8 wa
  obtain ⟨b, rfl, qb⟩ := wf_u8 wb
  obtain ⟨c, rfl, qc⟩ := wf_u8 wc
  obtain ⟨d, rfl, qd⟩ := wf_u8 wd
  exact ⟨⟨a, b, c, d⟩, rfl, qa, qb, qc, qd⟩
theorem draft_of {p : List F} (h : Ty Tryd.prog 24 p) : ∃ (g f e : Nat) (acts : List MAct), p = [.s (.int .u8 g), .s (.int .u8 f), .s (.int .u8 e), .lst acts.length (actsF acts)] ∧ g < 256 ∧ f < 256 ∧ e < 256 ∧ acts.length ≤ maxLen ∧ ∀ x ∈ acts, x.ok := by
  obtain ⟨parts, rfl, ha⟩ := h.struct_args (ts := [5, 5, 5, 22]) (by kernel_rfl)
  obtain ⟨x1, l, rfl, h1, ha⟩ := ha.cons_inv
  obtain ⟨x2, l, rfl, h2, ha⟩ := ha.cons_inv
  obtain ⟨x3, l, rfl, h3, ha⟩ := ha.cons_inv
  obtain ⟨x4, l, rfl, h4, ha⟩ := ha.cons_inv
  obtain rfl := ha.nil_inv
  obtain ⟨a, rfl, wa⟩ := h1.of_int (k := .u8) (by kernel_rfl)
  obtain ⟨b, rfl, wb⟩ := h2.of_int (k := .u8) (by kernel_rfl)
  obtain ⟨c, rfl, wc⟩ := h3.of_int (k := .u8) (by kernel_rfl)
  obtain ⟨acts, rfl, hl, ho⟩ := h4.slice_of (e := 64) (f := MAct.F) (ok := MAct.ok) (by kernel_rfl) fun p hp => act_of hp
  obtain ⟨a, rfl, qa⟩ := wf_u8 wa
  obtain ⟨b, rfl, qb⟩ := wf_u8 wb
  obtain ⟨c, rfl, qc⟩ := wf_u8 wc
  exact ⟨a, b, c, acts, rfl, qa, qb, qc, hl, ho⟩
theorem make_go (g f e : Nat) (hg : g < 256) (hf : f < 256) (he : e < 256) (acts : List MAct) (hn : acts.length ≤ 60) (hx : ∀ x ∈ acts, x.ok) (h0 : H) (K : Nat → List F → Nat → List F → Nat → List F → Nat → List F → R) :
    (pA (run w0 9 [.agg [N .u8 g, N .u8 f, N .u8 e, .f (.lst acts.length (actsF acts))]] h0) fun l => cL l 0 fun a b => cL l 1 fun c d => cL l 2 fun p q => cL l 3 fun r s => if l.length = 4 then K a b c d p q r s else none) =
      K (makeM g f e acts).strings.length (sF (makeM g f e acts).strings) (makeM g f e acts).globals.length (kF .i64 (makeM g f e acts).globals) (makeM g f e acts).funcs.length (funsF (makeM g f e acts).funcs) (makeM g f e acts).entries.length (kF .i64 (makeM g f e acts).entries) := by
  rw [mMake_spec g f e hg hf he acts hn hx, pA_some]
  simp [cL, V.lst?, V.f?, F.lst?]
end Go.Proofs.YtemnahkpffafoaaDoor
