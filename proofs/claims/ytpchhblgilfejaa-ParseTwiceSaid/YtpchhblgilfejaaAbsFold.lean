/-
  Folded equations' words: operations in a heap of which nothing is known.
-/
import Derived.Test.YtpchhblgilfejaaAbsWords
set_option autoImplicit false
set_option linter.unusedVariables false
namespace Go.Abs
open Go

def newO (o : Ob) (h : H) (K : Nat → H → R) : R := K h.length (h ++ [o])
def pn : V → H → R := fun v h => some (.pan v, h)
def no2 : V → H → R := fun _ _ => none
def pnQ (l : List Foot) : V → H → R := fun v h => if allReads l then some (.pan v, h) else none
def kI (ik : IntKind) (r : R) (kp : V → H → R) (K : Int → H → R) : R := onCall r (fun v g => (V.int? ik v).bind fun n => K n g) kp
def kB (r : R) (kp : V → H → R) (K : Bool → H → R) : R := onCall r (fun v g => (V.bool? v).bind fun n => K n g) kp
def kS (r : R) (kp : V → H → R) (K : ByteArray → H → R) : R := onCall r (fun v g => (V.str? v).bind fun n => K n g) kp
def coeSl (v : V) (K : V → R) : R := coe (.slice none 0 0) v K
def kL (r : R) (kp : V → H → R) (K : V → H → R) : R := onCall r (fun v g => coeU (.slice none 0 0) v fun v => K v g) kp
def kV (r : R) (kp : V → H → R) (K : V → H → R) : R := onCall r K kp
def xI (ik : IntKind) (r : R) (kp : V → H → R) (K : Int → R) : R := onCall r (fun v _ => (V.int? ik v).bind K) kp
def xB (r : R) (kp : V → H → R) (K : Bool → R) : R := onCall r (fun v _ => (V.bool? v).bind K) kp
def xS (r : R) (kp : V → H → R) (K : ByteArray → R) : R := onCall r (fun v _ => (V.str? v).bind K) kp
def xF (r : R) (kp : V → H → R) (K : F → R) : R := onCall r (fun v _ => (V.f? v).bind K) kp
def xA (r : R) (kp : V → H → R) (K : List V → R) : R := onCall r (fun v _ => (V.agg? v).bind K) kp
def xT (r : R) (kp : V → H → R) (K : List V → R) : R := onCall r (fun v _ => (V.tup? v).bind K) kp
def xL (r : R) (kp : V → H → R) (K : Nat → List F → R) : R := onCall r (fun v _ => (V.f? v).bind fun x => (F.sl? x).bind fun q => K q.1 q.2) kp
def ownK (po : Pol) (z : Value) (args : List V) (h : H) (r : R) (kp : V → H → R) (K : V → H → R) : R := onCall r (fun v g => tidy po z args h v g K) kp
noncomputable def dynK (w : World0) (v : V) (args : List V) (z : Value) (h : H) (kp : V → H → R) (K : V → H → R) : R :=
  match v with
  | .fn g cap => onCall (run w g (args ++ cap) h) (fun v g' => tidy (w.po g) z (args ++ cap) h v g' K) kp
  | _ => none
def gz (z : Value) (a : V) (h : H) (K : V → R) : R :=
  match a with
  | .ptr k off => load1 z h k off K
  | .f p => ldF z p K
  | _ => none
def gI (ik : IntKind) (a : V) (h : H) (K : Int → R) : R :=
  match a with
  | .ptr k off =>
    match h[k]? with
    | some (.cells cs) => (cs[off]?).bind fun v => (V.int? ik v).bind K
    | some (.fz cs) => (cs[off]?).bind fun x => (F.int? ik x).bind K
    | some (.lent cs) => (cs[off]?).bind fun x => (F.int? ik x).bind K
    | _ => none
  | .f p =>
    match p with
    | .fp cs => (cs[0]?).bind fun x => (F.int? ik x).bind K
    | _ => none
  | _ => none
def gB (a : V) (h : H) (K : Bool → R) : R :=
  match a with
  | .ptr k off =>
    match h[k]? with
    | some (.cells cs) => (cs[off]?).bind fun v => (V.bool? v).bind K
    | some (.fz cs) => (cs[off]?).bind fun x => (F.bool? x).bind K
    | some (.lent cs) => (cs[off]?).bind fun x => (F.bool? x).bind K
    | _ => none
  | .f p =>
    match p with
    | .fp cs => (cs[0]?).bind fun x => (F.bool? x).bind K
    | _ => none
  | _ => none
def gS (a : V) (h : H) (K : ByteArray → R) : R :=
  match a with
  | .ptr k off =>
    match h[k]? with
    | some (.cells cs) => (cs[off]?).bind fun v => (V.str? v).bind K
    | some (.fz cs) => (cs[off]?).bind fun x => (F.str? x).bind K
    | some (.lent cs) => (cs[off]?).bind fun x => (F.str? x).bind K
    | _ => none
  | .f p =>
    match p with
    | .fp cs => (cs[0]?).bind fun x => (F.str? x).bind K
    | _ => none
  | _ => none
def gL (a : V) (h : H) (K : V → R) : R := gz (.slice none 0 0) a h K
def gV (a : V) (h : H) (K : V → R) : R := gz .nilIface a h K
def gLn (P : Program) (t : TypeId) (a : V) (h : H) (K : V → R) : R := gz (.slice none 0 0) a h fun v => K (if isNilSl P t h a then nilS else v)
def gA (P : Program) (t n : Nat) (a : V) (h : H) (K : List V → R) : R :=
  match a with
  | .ptr k off =>
    match h[k]? with
    | some (.cells cs) => if off + n ≤ cs.length then K ((cs.drop off).take n) else none
    | some (.fz cs) => coeFA (zr P t) n off cs K
    | _ => none
  | .f (.fp cs) => coeFA (zr P t) n 0 cs K
  | _ => none
def agV (x : V) (K : List V → R) : R :=
  match x with
  | .agg cs => K cs
  | _ => none
def cSl (l : List V) (off : Nat) (K : V → R) : R := (l[off]?).bind fun v => coeSl v K
def tpV (v : V) (i : Nat) (K : V → R) : R :=
  match v with
  | .tup l => (l[i]?).bind K
  | _ => none
def lnV (x : V) (K : Nat → R) : R :=
  match x with
  | .f x => (F.len? x).bind K
  | .ref _ _ n _ => K n
  | .lit n _ => K n
  | _ => none
def nilK (v : V) (K : V → R) : R :=
  match v with
  | .ptr i off => K (.ptr i off)
  | .f (.fp cs) => K (.f (.fp cs))
  | _ => none
noncomputable def cndV (v : V) (A B : R) : R :=
  match v with
  | .tf => both A B
  | v => (V.bool? v).bind fun q => if q then A else B
def stC (a : V) (cs : List V) (h : H) (K : H → R) : R :=
  match a with
  | .ptr k off => wrK h k off cs K
  | _ => none
def stL (a : V) (cs : List V) (n : Nat) (h : H) (K : H → R) : R :=
  match a with
  | .ptr k off => if cs.length = n then wrK h k off cs K else none
  | _ => none
def stV (a v : V) (n : Nat) (h : H) (K : H → R) : R :=
  (cellsOf v).bind fun cs =>
    match a with
    | .ptr k off => if cs.length = n then wrK h k off cs K else none
    | _ => none
def lkOk (q : KK) (z : Value) (m : V) (key : Value) (h : H) (K : V → Bool → R) : R :=
  match m with
  | .mp k => match h[k]? with
    | some (.map q' es) => if q' = q then (match mfind key es with
      | some x => K (.f x) true
      | none => K (vs z) false) else none
    | _ => none
  | .f (.s (.map none)) => K (vs z) false
  | _ => none
def lkF (q : KK) (z : Value) (m : V) (key : Value) (h : H) (K : F → R) : R :=
  match m with
  | .mp k => match h[k]? with
    | some (.map q' es) => if q' = q then K ((mfind key es).getD (.s z)) else none
    | _ => none
  | .f (.s (.map none)) => K (.s z)
  | _ => none
/-- what a call's operation reads and may change -/
def ownFoot (po : Pol) (args : List V) (h : H) : Foot :=
  match po with
  | .keep => .wrAll
  | .pure => if args.all ripe then .rd [] else .rdAll
  | .give => if args.all ripe then .rd [] else .wrAll
  | .own sh _ _ _ => if (pinOf sh args).isSome then .wr (takesL h sh args ++ givs sh args) h.length else .wr (takesL h (sh.map unpin) args ++ givs (sh.map unpin) args) h.length
/-- a cut by shapes, of values told one by one -/
def canonLK (h hk : H) (tk : List Nat) : List (Nat × Sh × V) → H → List Nat → (List (Nat × V) → H → R) → R
  | [], nh, _, k => k [] nh
  | (i, s, v) :: l, nh, us, k => canonK h hk tk s v nh us fun v' nh1 us1 => canonLK h hk tk l nh1 us1 fun m nh2 => k ((i, v') :: m) nh2
def cutK (h : H) (l : List (Nat × Sh × V)) (k : List (Nat × V) → H → R) : R :=
  let tk := l.flatMap fun x => takes h x.2.1 x.2.2
  canonLK h (kill tk 0 (noLent h)) tk l [] [] k
end Go.Abs
