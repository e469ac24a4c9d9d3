/-
  Modules that are made of numbers, in plain words.
-/
import Derived.Test.YtjefolfbdohkcaaRules
set_option autoImplicit false
set_option linter.unusedVariables false
namespace Go.Abs
open Go
structure MAct where
  k : Nat
  a : Nat
  b : Nat
  c : Nat
  deriving Inhabited
/-- a name by a number -/
def nameR (n : Nat) : ByteArray :=
  if n % 6 = 1 then ⟨#[110]⟩ ++ ⟨[UInt8.ofNat (97 + n / 6 % 26)].toArray⟩ ++ ⟨#[46, 120]⟩
  else if n % 6 = 3 then ⟨#[97, 32, 34]⟩ ++ ⟨[UInt8.ofNat (48 + n / 6 % 10), UInt8.ofNat 92].toArray⟩
  else if n % 6 = 5 then ⟨[UInt8.ofNat (128 + n % 100), UInt8.ofNat 10, UInt8.ofNat (65 + n / 6 % 26)].toArray⟩
  else ⟨#[118]⟩ ++ ⟨[UInt8.ofNat (97 + n / 2 % 26), UInt8.ofNat (48 + n % 10)].toArray⟩
/-! ### the frame: all but statements -/
/-! ### statements: which function's each is -/
/-! ### strings, each once, in order -/
def gtB (a b : ByteArray) : Bool := !(Op.bytesLess a.toList b.toList || a.toList == b.toList)
/-- into a row that is written backwards: ahead of it stand greater ones -/
def insB (s : ByteArray) : List ByteArray → List ByteArray
  | [] => [s]
  | a :: r => if gtB a s then a :: insB s r else s :: a :: r
def canonL (used : List Int) : Nat → List ByteArray → List ByteArray → List ByteArray
  | _, [], acc => acc
  | i, s :: r, acc => canonL used (i + 1) r (if (i : Int) ∈ used ∧ s ∉ acc then (insB s acc.reverse).reverse else acc)
def numB (s : ByteArray) : Nat → List ByteArray → Int
  | _, [] => -1
  | i, a :: r => if a = s then i else numB s (i + 1) r
def numI (l ss : List ByteArray) (n : Int) : Int := numB (ss.getD n.toNat default) 0 l
def canonF (l ss : List ByteArray) (f : MFun) : MFun := ⟨numI l ss f.name, f.params, f.locals.map (numI l ss), f.sites.map (numI l ss), f.body⟩
def canonS (m : Mod) : List ByteArray := canonL (usedR m) 0 m.strings []
def canonM (m : Mod) : Mod := ⟨canonS m, m.globals.map (numI (canonS m) m.strings), m.funcs.map (canonF (canonS m) m.strings), m.entries⟩
end Go.Abs
