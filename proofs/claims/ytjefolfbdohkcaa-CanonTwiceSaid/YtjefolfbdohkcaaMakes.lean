/-
  Modules that are made of numbers, in plain words.
-/
import Derived.Test.YtjefolfbdohkcaaRules
set_option autoImplicit false
set_option linter.unusedVariables false
namespace Go.Abs
open Go
structure MAct where
  k : Nat
  a : Nat
  b : Nat
  c : Nat
  deriving Inhabited
def MAct.ok (x : MAct) : Prop := x.k < 256 ∧ x.a < 256 ∧ x.b < 256 ∧ x.c < 256
def MAct.F (x : MAct) : List F := [.s (.int .u8 x.k), .s (.int .u8 x.a), .s (.int .u8 x.b), .s (.int .u8 x.c)]
theorem MAct.F_len (x : MAct) : x.F.length = 4 := rfl
abbrev actsF (l : List MAct) : List F := l.flatMap MAct.F
/-- a name by a number -/
def nameR (n : Nat) : ByteArray :=
  if n % 6 = 1 then ⟨#[110]⟩ ++ ⟨[UInt8.ofNat (97 + n / 6 % 26)].toArray⟩ ++ ⟨#[46, 120]⟩
  else if n % 6 = 3 then ⟨#[97, 32, 34]⟩ ++ ⟨[UInt8.ofNat (48 + n / 6 % 10), UInt8.ofNat 92].toArray⟩
  else if n % 6 = 5 then ⟨[UInt8.ofNat (128 + n % 100), UInt8.ofNat 10, UInt8.ofNat (65 + n / 6 % 26)].toArray⟩
  else ⟨#[118]⟩ ++ ⟨[UInt8.ofNat (97 + n / 2 % 26), UInt8.ofNat (48 + n % 10)].toArray⟩
def fnameR (i : Nat) : ByteArray := ⟨#[102]⟩ ++ ⟨[UInt8.ofNat (48 + i)].toArray⟩
/-- a variable of a function, by a number; G: so many globals; L: so many locals -/
def varM (G L n : Nat) : MRef := if n % (L + G) < L then ⟨1, ((n % (L + G) : Nat) : Int)⟩ else ⟨2, ((n % (L + G) - L : Nat) : Int)⟩
def argsM (G L : Nat) (x : MAct) (n : Nat) : List MRef := (List.range' 0 n).map fun i => varM G L ((x.a + x.c + i) % 256)
/-- a statement, by numbers: not one in a block; S: so many sites; ps: each function's parameters -/
def stmt1 (G L S : Nat) (ps : List Int) (x : MAct) : MStmt :=
  let a := varM G L x.a
  let b := varM G L x.b
  if x.k % 10 = 0 ∨ x.k % 10 = 1 then .mk 1 a (if x.c % 4 = 1 then ⟨3, ((x.b % ps.length : Nat) : Int)⟩ else if x.c % 4 = 2 ∨ x.c % 4 = 3 then ⟨4, ((x.b % S : Nat) : Int)⟩ else b) [] []
  else if x.k % 10 = 2 then .mk 3 a b [] []
  else if x.k % 10 = 3 then .mk 4 a b [] []
  else if x.k % 10 = 4 then .mk 5 (if x.c % 3 = 0 then ⟨0, 0⟩ else a) ⟨3, ((x.b % ps.length : Nat) : Int)⟩ (argsM G L x (ps.getD (x.b % ps.length) 0).toNat) []
  else if x.k % 10 = 5 then .mk 5 (if x.c % 3 = 0 then ⟨0, 0⟩ else a) b (argsM G L x (x.c / 4 % 4)) []
  else if x.k % 10 = 6 then .mk 6 ⟨0, 0⟩ b [] []
  else .mk 2 a b [] []
def stmtM (G L S : Nat) (ps : List Int) (x : MAct) : MStmt :=
  if x.k % 10 = 7 then
    (if x.c % 8 = 7 then .mk 7 ⟨0, 0⟩ ⟨0, 0⟩ [] []
     else .mk 7 ⟨0, 0⟩ ⟨0, 0⟩ [] [stmt1 G L S ps ⟨x.c % 8, x.a, x.b, x.c⟩, .mk 2 (varM G L x.b) (varM G L x.a) [] []])
  else stmt1 G L S ps x
/-! ### the frame: all but statements -/
def globN (g : Nat) : Nat := g % 4
/-- whole numbers, one behind the other -/
def kInt (i n : Nat) : List Int := (List.range' i n).map fun i => ((i : Nat) : Int)
def globS (g : Nat) : List ByteArray := (List.range' 0 (globN g)).map fun i => nameR (i * (1 + g / 4 % 3))
def parN (f i : Nat) : Nat := (i + f / 4) % 4
def locN (f i : Nat) : Nat := parN f i + 1 + i % 3
def siteN (i : Nat) : Nat := 1 + i % 2
def funN (f : Nat) : Nat := 1 + f % 4
def locS (f i : Nat) : List ByteArray := (List.range' 0 (locN f i)).map fun j => nameR (100 + j)
def siteS (i : Nat) : List ByteArray := (List.range' 0 (siteN i)).map fun j => nameR (200 + j)
/-- a function's row; at: how many strings there are ahead of it -/
def fun0 (f i at_ : Nat) : MFun :=
  ⟨at_, parN f i, kInt (at_ + 1) (locN f i), kInt (at_ + 1 + locN f i) (siteN i), []⟩
/-- from the i-th function on, n of them -/
def strF (f : Nat) : Nat → Nat → List ByteArray
  | _, 0 => []
  | i, n + 1 => fnameR i :: (locS f i ++ siteS i) ++ strF f (i + 1) n
def funF0 (f : Nat) : Nat → Nat → Nat → List MFun
  | _, _, 0 => []
  | i, at_, n + 1 => fun0 f i at_ :: funF0 f (i + 1) (at_ + 1 + locN f i + siteN i) n
def entR (e i n : Nat) : List Int := ((List.range' i n).filter fun i => e / 2 ^ i % 2 = 1).map fun i => ((i : Nat) : Int)
def frameM (g f e : Nat) : Mod :=
  ⟨globS g ++ strF f 0 (funN f), kInt 0 (globN g), funF0 f 0 (globN g) (funN f), entR e 0 (funN f)⟩
/-! ### statements: which function's each is -/
/-- statements of the acts from the i-th on; n functions, len acts; ss: what each function says so far -/
def putM (m : Mod) (f : MFun) (x : MAct) : MStmt := stmtM m.globals.length f.locals.length f.sites.length (m.funcs.map (·.params)) x
def bodyM (m : Mod) (len : Nat) : Nat → List MAct → List MFun → List MFun
  | _, [], fs => fs
  | i, x :: r, fs =>
    let j := i * m.funcs.length / len
    bodyM m len (i + 1) r (fs.modify j fun f => { f with body := f.body ++ [putM m f x] })
def rawM (g f e : Nat) (acts : List MAct) : Mod := { frameM g f e with funcs := bodyM (frameM g f e) acts.length 0 acts (frameM g f e).funcs }
/-! ### strings, each once, in order -/
def gtB (a b : ByteArray) : Bool := !(Op.bytesLess a.toList b.toList || a.toList == b.toList)
/-- into a row that is written backwards: ahead of it stand greater ones -/
def insB (s : ByteArray) : List ByteArray → List ByteArray
  | [] => [s]
  | a :: r => if gtB a s then a :: insB s r else s :: a :: r
def canonL (used : List Int) : Nat → List ByteArray → List ByteArray → List ByteArray
  | _, [], acc => acc
  | i, s :: r, acc => canonL used (i + 1) r (if (i : Int) ∈ used ∧ s ∉ acc then (insB s acc.reverse).reverse else acc)
def numB (s : ByteArray) : Nat → List ByteArray → Int
  | _, [] => -1
  | i, a :: r => if a = s then i else numB s (i + 1) r
def numI (l ss : List ByteArray) (n : Int) : Int := numB (ss.getD n.toNat default) 0 l
def canonF (l ss : List ByteArray) (f : MFun) : MFun := ⟨numI l ss f.name, f.params, f.locals.map (numI l ss), f.sites.map (numI l ss), f.body⟩
def canonS (m : Mod) : List ByteArray := canonL (usedR m) 0 m.strings []
def canonM (m : Mod) : Mod := ⟨canonS m, m.globals.map (numI (canonS m) m.strings), m.funcs.map (canonF (canonS m) m.strings), m.entries⟩
def makeM (g f e : Nat) (acts : List MAct) : Mod := canonM (rawM g f e acts)
end Go.Abs
