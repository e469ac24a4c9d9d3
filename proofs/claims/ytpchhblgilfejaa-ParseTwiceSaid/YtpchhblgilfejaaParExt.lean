/-
  internal/stringslite.IndexByte: its own text, walked; what the machine is told of it is so.
-/
import Derived.Test.YtpchhblgilfejaaParWorld
import Derived.WalkKit
import Derived.Lib.Walk
import Derived.Lib.Strings
import Derived.Lib.Slices
import Derived.Laws.Externs
import Derived.Lib.Bytealg
set_option autoImplicit false
set_option linter.unusedVariables false
namespace Go.Proofs.Ytpchhblgilfejaa
open Go Go.Abs Go.RowKit Go.Lib
set_option maxHeartbeats 1000000 in
set_option maxRecDepth 100000 in
theorem idxb_says (s : ByteArray) (c : Int) (w : World) : Calls Try.prog 82 #[.string s, .int .u8 c] w fun e w' => e = .returned (.int .i64 (Lib.indexByte s.data.toList c.toNat.toUInt8)) ∧ w' = w := by
  go_enter Try.func82, Try.ntmps82
  go_wp2
  rw [run_callFunc_extern Try.func96 (by kernel_rfl) (by kernel_rfl) (by kernel_rfl) (e := Extern.BytealgIndexByte.indexByte) (by kernel_rfl), Lib.run_indexByteString]
  simp only [Result.andThen]
  rw [Oper.upon_value]
  go_wp2
  go_ret
  exact ⟨rfl, rfl⟩
theorem par_ext : ExtSim w0 := by
  intro f e he args cargs h η ro w o h' hr hv hw
  have hf : f = 82 ∧ e = idxbE := by
    have he' : (if f = 82 then some idxbE else none) = some e := he
    split at he'
    · rename_i q; exact ⟨q, (Option.some.inj he').symm⟩
    · cases he'
  obtain ⟨rfl, rfl⟩ := hf
  refine ⟨⟨Try.f82, Try.func82, by decide, rfl⟩, ?_⟩
  unfold idxbE at hw
  split at hw
  rotate_left
  · cases hw
  rename_i s c
  cases hw
  cases hq : cargs.toList with
  | nil => rw [hq] at hv; exact hv.elim
  | cons x l =>
    cases l with
    | nil => rw [hq] at hv; exact hv.2.elim
    | cons y l =>
      cases l with
      | cons z l => rw [hq] at hv; exact hv.2.2.elim
      | nil =>
        rw [hq] at hv
        have e1 : cargs = #[x, y] := Array.ext' hq
        have h1 : x = .string s := rel_s hv.1
        have h2 : y = .int .u8 c := rel_s hv.2.1
        subst h1 h2 e1
        refine (idxb_says s c w).mono ?_
        rintro e w' ⟨rfl, rfl⟩
        exact ⟨η, ro, hr, Stp.refl _ _ _ _, _, rfl, rel_s' rfl⟩
end Go.Proofs.Ytpchhblgilfejaa
