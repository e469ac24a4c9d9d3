/-
  What Make answers: the module that the numbers make.
-/
import Derived.Test.YtlddnplflakmiaaMakeSpec5
import Derived.Test.YtlddnplflakmiaaMakeOk3
set_option autoImplicit false
set_option linter.unusedVariables false
set_option linter.unusedSimpArgs false
namespace Go.Proofs.Ytlddnplflakmiaa
open Go Go.Abs

theorem raw_okCn (g f e : Nat) (acts : List MAct) : okCn (rawM g f e acts) := by
  have hg := frame_good g f e
  have h2 : (rawM g f e acts).funcs.map strip = (frameM g f e).funcs := (bodyM_strip _ _ _ _ _).trans (funF0_strip f _ _ _)
  have hu : usedR (rawM g f e acts) = usedR (frameM g f e) := usedR_strip rfl (h2.trans (funF0_strip f _ _ _).symm)
  have hl : (rawM g f e acts).funcs.length = (frameM g f e).funcs.length := by have := congrArg List.length h2; simpa using this
  refine ⟨?_, ?_, ?_, fun q hq => ?_, fun n hn => ?_⟩
  · have := hg.strings; show (frameM g f e).strings.length ≤ big; unfold big; omega
  · have := hg.globals; show (frameM g f e).globals.length ≤ big; unfold big; omega
  · have := hg.funcs; unfold big; omega
  · have hm : strip q ∈ (frameM g f e).funcs := by rw [← h2]; exact List.mem_map_of_mem hq
    obtain ⟨r1, r2, r3, r4, _⟩ := hg.rows _ hm
    have e1 : (strip q).locals = q.locals := rfl
    have e2 : (strip q).sites = q.sites := rfl
    rw [e1] at r2; rw [e2] at r4
    unfold big; omega
  · rw [hu] at hn; exact hg.used n hn
theorem okR_of {m : Mod} (h : FineM m) {q : MFun} (hq : q ∈ m.funcs) : okR q := by
  obtain ⟨r1, r2, r3, r4, r5, r6, r7⟩ := h.rows q hq
  exact ⟨by omega, by omega, by omega, by omega, by omega, by omega⟩
theorem canon_go (m : Mod) (hm : okCn m) (h0 : H) (K : Nat → List F → Nat → List F → Nat → List F → Nat → List F → R) :
    (pA (run w0 29 [.agg (modV m)] h0) fun l => cL l 0 fun a b => cL l 1 fun c d => cL l 2 fun p q => cL l 3 fun r s => if l.length = 4 then K a b c d p q r s else none) =
      K (canonM m).strings.length (sF (canonM m).strings) (canonM m).globals.length (kF .i64 (canonM m).globals) (canonM m).funcs.length (funsF (canonM m).funcs) (canonM m).entries.length (kF .i64 (canonM m).entries) := by
  rw [mCanon_spec hm, pA_some]
  simp [cL, V.lst?, V.f?, F.lst?]
theorem mMake_core (g f e : Nat) (hg : g < 256) (hf : f < 256) (he : e < 256) (acts : List MAct) (hn : acts.length ≤ 60) (hx : ∀ x ∈ acts, x.ok) : mMake_0 g f e acts.length (actsF acts) = some (.ret (.agg (modV (makeM g f e acts))), []) := by
  have hgd := frame_good g f e
  have hok : ∀ q ∈ (frameM g f e).funcs, okR q := fun q hq => okR_of hgd hq
  have hbd : ∀ q ∈ (frameM g f e).funcs, q.body = [] := funF0_body f _ _ _
  have hlen : (frameM g f e).funcs.length = funN f := funF0_len f _ _ _
  -- behind the statements
  have fin : mMake_24 (frameM g f e).strings.length (sF (frameM g f e).strings) (frameM g f e).globals.length (kF .i64 (frameM g f e).globals) (frameM g f e).funcs.length (funsF (bodyM (frameM g f e) acts.length 0 acts (frameM g f e).funcs)) (frameM g f e).entries.length (kF .i64 (frameM g f e).entries) = some (.ret (.agg (modV (makeM g f e acts))), []) := by
    rw [mMake_24_eq, ← bodyM_len (frameM g f e) acts.length acts 0 (frameM g f e).funcs]
    exact canon_go (rawM g f e acts) (raw_okCn g f e acts) _ _
  rw [mk_frame g f e hg hf he]
  refine Eq.trans ?_ fin
  have hG : (frameM g f e).globals.length ≤ 1000 := by have := hgd.globals; omega
  generalize hm : frameM g f e = m at *
  cases hfs : m.funcs with
  | nil => have := hgd.funcs1; rw [hfs] at this; simp at this
  | cons f0 fs =>
    have o0 := hok f0 (by rw [hfs]; simp)
    have b0 := hbd f0 (by rw [hfs]; simp)
    cases fs with
    | nil =>
      have hN : funN f = 1 := by rw [← hlen, hfs]; rfl
      have h6 := mMake_6_eq_1 ((funN f : Nat) : Int) g f e acts.length (actsF acts) m.strings.length (sF m.strings) m.globals.length (kF .i64 m.globals) m.entries.length (kF .i64 m.entries) f0.name f0.params f0.locals.length (kF .i64 f0.locals) f0.sites.length (kF .i64 f0.sites)
      have hl := last1 (m := m) (acts := acts) (g := g) (f := f) (e := e) (S := m.strings.length) (cS := sF m.strings) (cG := kF .i64 m.globals) (E := m.entries.length) (cE := kF .i64 m.entries) hG (by rw [hfs]; rfl) hn hx acts 0 f0 rfl (by omega) (by rw [hfs]; rfl) o0 (by rw [b0]; simp; omega)
      rw [b0] at hl
      rw [hN] at h6 ⊢
      exact h6.trans hl
    | cons f1 fs =>
      have o1 := hok f1 (by rw [hfs]; simp)
      have b1 := hbd f1 (by rw [hfs]; simp)
      cases fs with
      | nil =>
        have hN : funN f = 2 := by rw [← hlen, hfs]; rfl
        have h6 := mMake_6_eq_2 ((funN f : Nat) : Int) g f e acts.length (actsF acts) m.strings.length (sF m.strings) m.globals.length (kF .i64 m.globals) m.entries.length (kF .i64 m.entries) f0.name f0.params f0.locals.length (kF .i64 f0.locals) f0.sites.length (kF .i64 f0.sites) f1.name f1.params f1.locals.length (kF .i64 f1.locals) f1.sites.length (kF .i64 f1.sites)
        have hl := last2 (m := m) (acts := acts) (g := g) (f := f) (e := e) (S := m.strings.length) (cS := sF m.strings) (cG := kF .i64 m.globals) (E := m.entries.length) (cE := kF .i64 m.entries) hG (by rw [hfs]; rfl) hn hx acts 0 f0 f1 rfl (by omega) (by rw [hfs]; rfl) o0 o1 (by rw [b0]; simp; omega) (by rw [b1]; simp; omega)
        rw [b0, b1] at hl
        rw [hN] at h6 ⊢
        exact h6.trans hl
      | cons f2 fs =>
        have o2 := hok f2 (by rw [hfs]; simp)
        have b2 := hbd f2 (by rw [hfs]; simp)
        cases fs with
        | nil =>
          have hN : funN f = 3 := by rw [← hlen, hfs]; rfl
          have h6 := mMake_6_eq_3 ((funN f : Nat) : Int) g f e acts.length (actsF acts) m.strings.length (sF m.strings) m.globals.length (kF .i64 m.globals) m.entries.length (kF .i64 m.entries) f0.name f0.params f0.locals.length (kF .i64 f0.locals) f0.sites.length (kF .i64 f0.sites) f1.name f1.params f1.locals.length (kF .i64 f1.locals) f1.sites.length (kF .i64 f1.sites) f2.name f2.params f2.locals.length (kF .i64 f2.locals) f2.sites.length (kF .i64 f2.sites)
          have hl := last3 (m := m) (acts := acts) (g := g) (f := f) (e := e) (S := m.strings.length) (cS := sF m.strings) (cG := kF .i64 m.globals) (E := m.entries.length) (cE := kF .i64 m.entries) hG (by rw [hfs]; rfl) hn hx acts 0 f0 f1 f2 rfl (by omega) (by rw [hfs]; rfl) o0 o1 o2 (by rw [b0]; simp; omega) (by rw [b1]; simp; omega) (by rw [b2]; simp; omega)
          rw [b0, b1, b2] at hl
          rw [hN] at h6 ⊢
          exact h6.trans hl
        | cons f3 fs =>
          have o3 := hok f3 (by rw [hfs]; simp)
          have b3 := hbd f3 (by rw [hfs]; simp)
          cases fs with
          | nil =>
            have hN : funN f = 4 := by rw [← hlen, hfs]; rfl
            have h6 := mMake_6_eq_4 ((funN f : Nat) : Int) g f e acts.length (actsF acts) m.strings.length (sF m.strings) m.globals.length (kF .i64 m.globals) m.entries.length (kF .i64 m.entries) f0.name f0.params f0.locals.length (kF .i64 f0.locals) f0.sites.length (kF .i64 f0.sites) f1.name f1.params f1.locals.length (kF .i64 f1.locals) f1.sites.length (kF .i64 f1.sites) f2.name f2.params f2.locals.length (kF .i64 f2.locals) f2.sites.length (kF .i64 f2.sites) f3.name f3.params f3.locals.length (kF .i64 f3.locals) f3.sites.length (kF .i64 f3.sites)
            have hl := last4 (m := m) (acts := acts) (g := g) (f := f) (e := e) (S := m.strings.length) (cS := sF m.strings) (cG := kF .i64 m.globals) (E := m.entries.length) (cE := kF .i64 m.entries) hG (by rw [hfs]; rfl) hn hx acts 0 f0 f1 f2 f3 rfl (by omega) (by rw [hfs]; rfl) o0 o1 o2 o3 (by rw [b0]; simp; omega) (by rw [b1]; simp; omega) (by rw [b2]; simp; omega) (by rw [b3]; simp; omega)
            rw [b0, b1, b2, b3] at hl
            rw [hN] at h6 ⊢
            exact h6.trans hl
          | cons f4 fs => have := hgd.funcs; rw [hfs] at this; simp at this
theorem mMake_spec (g f e : Nat) (hg : g < 256) (hf : f < 256) (he : e < 256) (acts : List MAct) (hn : acts.length ≤ 60) (hx : ∀ x ∈ acts, x.ok) (h0 : H) :
    run w0 9 [.agg [N .u8 g, N .u8 f, N .u8 e, .f (.lst acts.length (actsF acts))]] h0 = some (.ret (.agg (modV (makeM g f e acts))), h0) := by
  rw [mMake_run, mMake_core g f e hg hf he acts hn hx, withH_true]
end Go.Proofs.Ytlddnplflakmiaa
