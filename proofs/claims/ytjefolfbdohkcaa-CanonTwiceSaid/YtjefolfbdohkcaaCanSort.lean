/-
  slices.Sort of strings: the library's contract, laid at this program (the kit's lay-plain.mjs wrote the laying); what the machine is told of it is so.
-/
import Derived.Shelf.Sort.Plain
import Derived.Shelf.Slices.In.SortNone
import Derived.Test.YtjefolfbdohkcaaCanFind
set_option autoImplicit false
set_option linter.unusedVariables false
namespace Go.Proofs.Ytjefolfbdohkcaa
open Go Go.Abs Go.Shelf Go.Proofs
def lays190_ren : Go.Shelf.Ren := ⟨fun | 190 => 23 | 125 => 50 | 258 => 49 | 128 => 71 | 129 => 72 | 302 => 63 | 303 => 64 | 304 => 65 | 305 => 66 | 306 => 67 | 307 => 68 | 308 => 51 | 309 => 69 | 310 => 70 | 333 => 77 | 329 => 78 | 330 => 79 | 334 => 80 | 335 => 81 | 336 => 73 | 344 => 82 | n => n, fun | 31 => 25 | 9 => 9 | 3 => 3 | 46 => 105 | 0 => 0 | 51 => 126 | 53 => 128 | 4 => 4 | 183 => 120 | 182 => 119 | 131 => 70 | 5 => 5 | 218 => 132 | 222 => 69 | 228 => 137 | 229 => 138 | n => n, fun | n => n⟩
theorem lays190 : Go.Proofs.Lays.n190 Try.prog lays190_ren := {
  mixed := by kernel_rfl
  f125 := Try.func50.trans (congrArg some (by kernel_rfl))
  f128 := Try.func71.trans (congrArg some (by kernel_rfl))
  f129 := Try.func72.trans (congrArg some (by kernel_rfl))
  f190 := Try.func23.trans (congrArg some (by kernel_rfl))
  f258 := Try.func49.trans (congrArg some (by kernel_rfl))
  f302 := Try.func63.trans (congrArg some (by kernel_rfl))
  f303 := Try.func64.trans (congrArg some (by kernel_rfl))
  f304 := Try.func65.trans (congrArg some (by kernel_rfl))
  f305 := Try.func66.trans (congrArg some (by kernel_rfl))
  f306 := Try.func67.trans (congrArg some (by kernel_rfl))
  f307 := Try.func68.trans (congrArg some (by kernel_rfl))
  f308 := Try.func51.trans (congrArg some (by kernel_rfl))
  f309 := Try.func69.trans (congrArg some (by kernel_rfl))
  f310 := Try.func70.trans (congrArg some (by kernel_rfl))
  f329 := Try.func78.trans (congrArg some (by kernel_rfl))
  f330 := Try.func79.trans (congrArg some (by kernel_rfl))
  f333 := Try.func77.trans (congrArg some (by kernel_rfl))
  f334 := Try.func80.trans (congrArg some (by kernel_rfl))
  f335 := Try.func81.trans (congrArg some (by kernel_rfl))
  f336 := Try.func73.trans (congrArg some (by kernel_rfl))
  f344 := Try.func82.trans (congrArg some (by kernel_rfl))
  t0 := Try.underlying0
  a0 := Try.isAgg0
  z0 := Try.sizeOf0
  v0 := Try.zeroValue0
  t3 := Try.underlying3
  a3 := Try.isAgg3
  z3 := Try.sizeOf3
  v3 := Try.zeroValue3
  t4 := Try.underlying4
  a4 := Try.isAgg4
  z4 := Try.sizeOf4
  v4 := Try.zeroValue4
  t5 := Try.underlying5
  a5 := Try.isAgg5
  z5 := Try.sizeOf5
  v5 := Try.zeroValue5
  t9 := Try.underlying9
  a9 := Try.isAgg9
  z9 := Try.sizeOf9
  v9 := Try.zeroValue9
  t31 := Try.underlying25
  a31 := Try.isAgg25
  z31 := Try.sizeOf25
  v31 := Try.zeroValue25
  t46 := Try.underlying105
  a46 := Try.isAgg105
  z46 := Try.sizeOf105
  v46 := Try.zeroValue105
  t51 := Try.underlying126
  a51 := Try.isAgg126
  z51 := Try.sizeOf126
  v51 := Try.zeroValue126
  t53 := Try.underlying128
  a53 := Try.isAgg128
  z53 := Try.sizeOf128
  v53 := Try.zeroValue128
  t131 := Try.underlying70
  a131 := Try.isAgg70
  z131 := Try.sizeOf70
  v131 := Try.zeroValue70
  t182 := Try.underlying119
  a182 := Try.isAgg119
  z182 := Try.sizeOf119
  v182 := Try.zeroValue119
  t183 := Try.underlying120
  a183 := Try.isAgg120
  z183 := Try.sizeOf120
  v183 := Try.zeroValue120
  t218 := Try.underlying132
  a218 := Try.isAgg132
  z218 := Try.sizeOf132
  v218 := Try.zeroValue132
  t222 := Try.underlying69
  a222 := Try.isAgg69
  z222 := Try.sizeOf69
  v222 := Try.zeroValue69
  t228 := Try.underlying137
  a228 := Try.isAgg137
  z228 := Try.sizeOf137
  v228 := Try.zeroValue137
  t229 := Try.underlying138
  a229 := Try.isAgg138
  z229 := Try.sizeOf138
  v229 := Try.zeroValue138 }
theorem sort_says : SortSays Try.prog 23 where
  fn := ⟨Try.f23, Try.func23, by decide, rfl⟩
  empty p cap w := Any.slices_Sort_string_none lays190 p cap w
  row blk off cap ss w hH hb hl := Any.slices_Sort_string lays190 blk off cap ss w hH hb hl
theorem canon_ext : ExtSim w0 := by
  intro f e he args cargs h η ro w o h' hr hv hw
  have hf : f = 23 ∧ e = sortE := by
    have he' : (if f = 23 then some sortE else none) = some e := he
    split at he'
    · rename_i q; exact ⟨q, (Option.some.inj he').symm⟩
    · cases he'
  obtain ⟨rfl, rfl⟩ := hf
  exact sort_sim sort_says args cargs h η ro w o h' hr hv hw
end Go.Proofs.Ytjefolfbdohkcaa
