/-
  THE ABSTRACT MACHINE: values, heap, what each operation does, code in continuation style, calls. (Nothing is proved here.)
-/
import Derived.Calls
import Derived.Laws.Sem
import Derived.Orders
set_option autoImplicit false
namespace Go.Abs

/-- What is never written again: a scalar; a slice by its cells; a pointer to cells. -/
inductive F where
  | s (x : Value)
  | lst (n : Nat) (cs : List F)
  | fp (cs : List F)
instance : Inhabited F := ⟨.s undef⟩
/-- four bits' worth of a sum -/
def linesT : List F := [.s (.int .u32 0), .s (.int .u32 79764919), .s (.int .u32 159529838), .s (.int .u32 222504665), .s (.int .u32 319059676), .s (.int .u32 398814059), .s (.int .u32 445009330), .s (.int .u32 507990021), .s (.int .u32 638119352), .s (.int .u32 583659535), .s (.int .u32 797628118), .s (.int .u32 726387553), .s (.int .u32 890018660), .s (.int .u32 835552979), .s (.int .u32 1015980042), .s (.int .u32 944750013)]
/-- package-level variables that are never written: their cells, by their numbers -/
def globTab : Nat → Option (List F) := fun _ => none

inductive V where
  | f (x : F)
  | ref (k off n es : Nat)
  | ptr (k off : Nat)
  | mp (k : Nat)
  | fn (f : FuncId) (cap : List V)
  | agg (cs : List V)
  | tup (vs : List V)
  | lit (n : Nat) (cs : List V)
  | un                    -- an operation that was passed by; no result
  | any
  | tf                    -- true or false
instance : Inhabited V := ⟨.any⟩

abbrev vs (x : Value) : V := .f (.s x)
abbrev I (n : Int) : V := .f (.s (.int .i64 n))
abbrev U8 (n : Int) : V := .f (.s (.int .u8 n))
abbrev U64 (n : Int) : V := .f (.s (.int .u64 n))
abbrev N (k : IntKind) (n : Int) : V := .f (.s (.int k n))
abbrev B (b : Bool) : V := .f (.s (.bool b))
abbrev S (b : ByteArray) : V := .f (.s (.string b))
abbrev nilS : V := .f (.s (.slice none 0 0))

/-- what kind of keys a map has -/
inductive KK where
  | str
  | int (k : IntKind)
  deriving DecidableEq
inductive Ob where
  | cells (cs : List V)
  | fz (cs : List F)
  | map (kk : KK) (es : List (Value × F))
  | lent (cs : List F)      -- the caller's: scalars are read of it; it stays as it is
  | dead
instance : Inhabited Ob := ⟨.dead⟩

abbrev H := List Ob
inductive Out where
  | ret (v : V)
  | pan (v : V)
abbrev R := Option (Out × H)
abbrev Fr := Nat → V
inductive Ex where
  | normal
  | exit (id : Nat)
  | ret
  | pan (v : V)
abbrev K := Ex → Fr → H → R

def upd (fr : Fr) (d : Nat) (v : V) : Fr := fun i => if i = d then v else fr i
def mk (l : List (Nat × V)) : Fr := fun i => (l.lookup i).getD .any

/-! ### typed looks -/
def F.int? (k : IntKind) : F → Option Int
  | .s (.int k' n) => if k' = k then some n else none
  | _ => none
def F.bool? : F → Option Bool
  | .s (.bool b) => some b
  | _ => none
def F.str? : F → Option ByteArray
  | .s (.string b) => some b
  | _ => none
def F.len? : F → Option Nat
  | .lst n _ => some n
  | .s (.slice none n _) => some n
  | _ => none
/-- a slice's cells; nil's -/
def F.sl? : F → Option (Nat × List F)
  | .lst n cs => some (n, cs)
  | .s (.slice none 0 0) => some (0, [])
  | _ => none
def V.f? : V → Option F
  | .f x => some x
  | _ => none
def V.int? (k : IntKind) (v : V) : Option Int := v.f?.bind (F.int? k)
def V.bool? (v : V) : Option Bool := v.f?.bind F.bool?
def V.str? (v : V) : Option ByteArray := v.f?.bind F.str?
def V.any? : V → Option (IntKind × Int)
  | .f (.s (.int k n)) => some (k, n)
  | _ => none
/-- A value that is read is looked at by its type's zero value: scalars are told as such. -/
def coeF (z : Value) (x : F) (k : V → R) : R :=
  match z with
  | .int ik _ => (F.int? ik x).bind fun n => k (.f (.s (.int ik n)))
  | .bool _ => (F.bool? x).bind fun b => k (.f (.s (.bool b)))
  | .string _ => (F.str? x).bind fun b => k (.f (.s (.string b)))
  | .slice _ _ _ => (F.sl? x).bind fun q => k (.f (.lst q.1 q.2))
  | _ => k (.f x)
def coe (z : Value) (v : V) (k : V → R) : R :=
  match z with
  | .int ik _ => (V.int? ik v).bind fun n => k (.f (.s (.int ik n)))
  | .bool _ => (V.bool? v).bind fun b => k (.f (.s (.bool b)))
  | .string _ => (V.str? v).bind fun b => k (.f (.s (.string b)))
  | .slice _ _ _ => match v with
    | .f x => (F.sl? x).bind fun q => k (.f (.lst q.1 q.2))
    | v => k v
  | _ => k v

/-- the same, where a slice that is nil is told as such -/
def coeU (z : Value) (v : V) (k : V → R) : R :=
  match z with
  | .slice a b c => (match v with
    | .f (.s (.slice none 0 0)) => k (.f (.s (.slice none 0 0)))
    | v => coe (.slice a b c) v k)
  | z => coe z v k

/-! ### the program's types -/
section
variable (P : Program)
def zr (t : TypeId) : Value := ((P.info? t).bind (·.zero)).getD undef
def szOf (t : TypeId) : Option Nat := (P.info? t).map (·.size)
def byOf (t : TypeId) : Option Nat := (P.info? t).map (·.bytes)
def zcellsF (t : TypeId) : Option (List F) := (P.info? t).bind fun i => i.zero.bind fun z => if z.cells.toList.all Value.oneCell' ∧ z.cells.size = i.size then some (z.cells.toList.map F.s) else none
def zcells (t : TypeId) : Option (List V) := (zcellsF P t).map fun l => l.map .f
def agg? (t : TypeId) : Option Bool := (P.underlying t).map fun | .struct _ | .array _ _ => true | _ => false
def elem? (t : TypeId) : Option TypeId := (P.underlying t).bind fun | .slice e => some e | _ => none
end

/-! ### the heap -/
def rd (h : H) (k off n : Nat) : Option (List V) :=
  match h[k]? with
  | some (.cells cs) => if off + n ≤ cs.length then some ((cs.drop off).take n) else none
  | some (.fz cs) => if off + n ≤ cs.length then some (((cs.drop off).take n).map .f) else none
  | _ => none
/-- cells of v from off on -/
def splice {α : Type} (cs : List α) (off : Nat) (v : List α) : List α :=
  match v with
  | [] => cs
  | x :: r => splice (cs.set off x) (off + 1) r
/-- no slice that is nil among what is frozen -/
def frzF (x : F) : F :=
  match x with
  | .s (.slice none 0 _) => .lst 0 []
  | x => x
def toFs : List V → Option (List F)
  | [] => some []
  | v :: r => v.f?.bind fun x => (toFs r).bind fun l => some (x :: l)
def nrmV : V → V
  | .f x => .f (frzF x)
  | v => v
/-- frozen cells that are written: they stay that, where what is written is frozen -/
def wrF (cs : List F) (off : Nat) (v : List V) : Ob :=
  match toFs v with
  | some w => .fz (splice cs off w)
  | none => .cells (splice (cs.map .f) off v)
def wr (h : H) (k off : Nat) (v : List V) : Option H :=
  match h[k]? with
  | some (.cells cs) => if off + v.length ≤ cs.length then some (h.set k (.cells (splice cs off v))) else none
  | some (.fz cs) => if off + v.length ≤ cs.length then some (h.set k (wrF cs off v)) else none
  | _ => none
def rdK (h : H) (k off n : Nat) (kk : List V → R) : R :=
  match h[k]? with
  | some (.cells cs) => if off + n ≤ cs.length then kk ((cs.drop off).take n) else none
  | some (.fz cs) => if off + n ≤ cs.length then kk (((cs.drop off).take n).map .f) else none
  | _ => none
def wrK (h : H) (k off : Nat) (v : List V) (kk : H → R) : R :=
  match h[k]? with
  | some (.cells cs) => if off + v.length ≤ cs.length then kk (h.set k (.cells (splice cs off v))) else none
  | some (.fz cs) => if off + v.length ≤ cs.length then kk (h.set k (wrF cs off v)) else none
  | _ => none
/-- scalars alone -/
def coeS (z : Value) (x : F) (k : V → R) : R :=
  match z with
  | .int ik _ => (F.int? ik x).bind fun n => k (.f (.s (.int ik n)))
  | .bool _ => (F.bool? x).bind fun b => k (.f (.s (.bool b)))
  | .string _ => (F.str? x).bind fun b => k (.f (.s (.string b)))
  | _ => none
def load1 (z : Value) (h : H) (k off : Nat) (kk : V → R) : R :=
  match h[k]? with
  | some (.cells cs) => (cs[off]?).bind fun v => coe z v kk
  | some (.fz cs) => (cs[off]?).bind fun x => coeF z x kk
  | some (.lent cs) => (cs[off]?).bind fun x => coeS z x kk
  | _ => none
/-- a value's cells -/
def cellsOf : V → Option (List V)
  | .agg cs => some cs
  | .tup _ => none
  | .any => none
  | .tf => none
  | .un => none
  | v => some [v]

/-- What a slice holds: of how many cells an element is es. -/
def slCells (h : H) (v : V) (es : Nat) : Option (Nat × List V) :=
  match v with
  | .f (.s (.slice none 0 _)) => some (0, [])
  | .f (.lst n cs) => some (n, cs.map .f)
  | .lit n cs => some (n, cs)
  | .ref k off n es' => if es' = es then (rd h k off (n * es)).map (n, ·) else none
  | _ => none

/-! ### freezing: what a pure function is handed, and answers -/
mutual
def frz (h : H) : Nat → V → Option F
  | 0, _ => none
  | d + 1, v =>
    match v with
    | .f x => some (frzF x)
    | .lit n cs => (frzs h d cs).map (.lst n)
    | .ref k off n es =>
      match h[k]? with
      | some (.fz cs) => if off + n * es ≤ cs.length then some (.lst n ((cs.drop off).take (n * es))) else none
      | some (.cells cs) => if off + n * es ≤ cs.length then (frzs h d ((cs.drop off).take (n * es))).map (.lst n) else none
      | _ => none
    | .ptr k off =>
      match h[k]? with
      | some (.fz cs) => some (.fp (cs.drop off))
      | some (.cells cs) => (frzs h d (cs.drop off)).map .fp
      | _ => none
    | _ => none
def frzs (h : H) : Nat → List V → Option (List F)
  | 0, _ => none
  | _ + 1, [] => some []
  | d + 1, v :: r => (frz h d v).bind fun x => (frzs h d r).bind fun l => some (x :: l)
end
def deep : Nat := 1000000
def frzArg (h : H) : V → Option V
  | .agg cs => (frzs h deep cs).map fun l => .agg (l.map .f)
  | v => (frz h deep v).map .f
def frzArgs (h : H) : List V → Option (List V)
  | [] => some []
  | v :: r => (frzArg h v).bind fun x => (frzArgs h r).bind fun l => some (x :: l)
def frzRes (h : H) : V → Option V
  | .tup l => (frzArgs h l).map .tup
  | v => frzArg h v

/-- the same, handed on -/
def frzK (h : H) (d : Nat) (v : V) (k : F → R) : R :=
  match v with
  | .f x => match d with
    | 0 => none
    | _ + 1 => k (frzF x)
  | .ref i off n es =>
    match d with
    | 0 => none
    | d + 1 =>
      match h[i]? with
      | some (.fz cs) => if off + n * es ≤ cs.length then k (.lst n ((cs.drop off).take (n * es))) else none
      | _ => (frz h (d + 1) (.ref i off n es)).bind k
  | v => (frz h d v).bind k
def frzsK (h : H) : Nat → List V → (List F → R) → R
  | 0, _, _ => none
  | _ + 1, [], k => k []
  | d + 1, v :: r, k => frzK h d v fun x => frzsK h d r fun l => k (x :: l)
def frz1K (h : H) (v : V) (k : V → R) : R :=
  match v with
  | .agg cs => frzsK h 1000000 cs fun l => k (.agg (l.map .f))
  | .lit n cs => frzsK h 999999 cs fun l => k (.f (.lst n l))
  | .ref i off n es =>
    match h[i]? with
    | some (.fz cs) => if off + n * es ≤ cs.length then k (.f (.lst n ((cs.drop off).take (n * es)))) else none
    | _ => (frzArg h (.ref i off n es)).bind k
  | v => (frzArg h v).bind k
def frzArgsK (h : H) : List V → (List V → R) → R
  | [], k => k []
  | v :: r, k => frz1K h v fun x => frzArgsK h r fun l => k (x :: l)
def frzResK (h : H) (v : V) (k : V → R) : R :=
  match v with
  | .tup l => frzArgsK h l fun m => k (.tup m)
  | v => frz1K h v k

/-! ### cut points: what is still to be read, and a heap of just that -/
inductive Sh where
  | val                     -- no object behind it
  | own (es : Nat)          -- nil, or a whole slice of the function's own
  | box (l : List Sh)       -- a pointer to a variable
  | mp                      -- a map
  | vec                     -- a pointer to cells that are all frozen (an array)
  | pin (l : List Sh)       -- what a function's first argument points to: object 0 from start to end
  | rows (l : List (Option Nat))  -- a whole slice of structures of the function's own: cells that are read alone; whole slices of its own
  | lend (l : List Nat)     -- a structure: some of its slices are lent to a callee, others are unknown there
  | lnt                     -- a slice of what was lent
  | apin (l : List Sh)      -- likewise as pin, where the pointer stands in a structure of its own
  | pbox (l : List Sh)      -- a pointer to a variable that holds just such a pointer: that is object 1
  | st (l : List Sh)        -- a structure, by its cells
  | raw
abbrev Ann := Nat → Option (List (Nat × Sh))

/-- Is there no object behind a value? -/
def flat : V → Bool
  | .f _ => true
  | .any => true
  | .agg cs => cs.all fun v => match v with | .f _ => true | .any => true | _ => false
  | _ => false
mutual
/-- Is there nothing of a function's own in it? What is frozen, and literals of such. -/
def ripe : V → Bool
  | .f _ => true
  | .any => true
  | .agg cs => ripes cs
  | .lit _ cs => ripes cs
  | _ => false
def ripes : List V → Bool
  | [] => true
  | v :: r => ripe v && ripes r
end
/-- the objects of a row's own slices -/
def takesR (l : List (Option Nat)) : Nat → List V → List Nat
  | _, [] => []
  | i, v :: cs =>
    match l.getD (i % l.length) none, v with
    | some _, .ref k _ _ _ => k :: takesR l (i + 1) cs
    | _, _ => takesR l (i + 1) cs
/-- the objects that the shapes take over -/
def takes (h : H) : Sh → V → List Nat
  | .own _, .ref k _ _ _ => [k]
  | .mp, .mp k => [k]
  | .vec, .ptr k _ => [k]
  | .rows l, .ref k off n es =>
    match h[k]? with
    | some (.cells cs) => k :: takesR l 0 ((cs.drop off).take (n * es))
    | _ => [k]
  | .box l, .ptr k _ =>
    match h[k]? with
    | some (.cells cs) => k :: takesL h l cs
    | _ => [k]
  | .pin l, .ptr k _ =>
    match h[k]? with
    | some (.cells cs) => k :: takesL h l cs
    | _ => [k]
  | .apin l, .agg [.ptr k _] =>
    match h[k]? with
    | some (.cells cs) => k :: takesL h l cs
    | _ => [k]
  | .pbox l, .ptr b _ =>
    match h[b]? with
    | some (.cells [.ptr k _]) =>
      match h[k]? with
      | some (.cells cs) => b :: k :: takesL h l cs
      | _ => [b, k]
    | _ => [b]
  | .st l, .agg cs => takesL h l cs
  | _, _ => []
where
  takesL (h : H) : List Sh → List V → List Nat
  | s :: l, v :: cs => takes h s v ++ takesL h l cs
  | _, _ => []
def Ob.isLent : Ob → Bool
  | .lent _ => true
  | _ => false
def kill (tk : List Nat) : Nat → H → H
  | _, [] => []
  | i, o :: h => (if tk.contains i && !o.isLent then .dead else o) :: kill tk (i + 1) h
def noLent : H → H
  | [] => []
  | .lent _ :: h => .dead :: noLent h
  | o :: h => o :: noLent h
/-- nothing is owned any more -/
def deadAll : H → H
  | [] => []
  | .lent cs :: h => .lent cs :: deadAll h
  | _ :: h => .dead :: deadAll h
/-- what is read of an object that is lent -/
def junkF : V → F
  | .f x => x
  | _ => .lst 0 []
def lentOf : Ob → Option (List F)
  | .cells cs => some (cs.map junkF)
  | .fz cs => some cs
  | .lent cs => some cs
  | _ => none
def isDead (h : H) (k : Nat) : Bool :=
  match h[k]? with
  | some .dead => true
  | none => true
  | _ => false
/-- new heap (its objects so far), old ids that were taken -/
abbrev Cn := Option (V × H × List Nat)
def canonVal (hk : H) (v : V) (nh : H) (us : List Nat) : Cn := if flat v then some (v, nh, us) else (frzArg hk v).map fun v => (v, nh, us)
def canonOwn (h : H) (tk : List Nat) (es : Nat) (v : V) (nh : H) (us : List Nat) : Cn :=
    match v with
    | .f (.s (.slice none 0 0)) => some (.ref nh.length 0 0 es, nh ++ [.fz []], us)
    | .lit n cs => if cs.all flat then some (.lit n cs, nh, us) else none
    | .ref k off n es' =>
      if es' = es ∧ tk.contains k ∧ !us.contains k then
        match h[k]? with
        | some (.fz cs) => if off + n * es ≤ cs.length then some (.ref nh.length 0 n es, nh ++ [.fz ((cs.drop off).take (n * es))], k :: us) else none
        | some (.cells cs) => if off + n * es ≤ cs.length then
            let l := (cs.drop off).take (n * es)
            if l.all flat then some (.ref nh.length 0 n es, nh ++ [.cells l], k :: us) else none
          else none
        | _ => none
      else none
    | _ => none
def canonRows (h hk : H) (tk : List Nat) (l : List (Option Nat)) : Nat → List V → H → List Nat → Option (List V × H × List Nat)
  | _, [], nh, us => some ([], nh, us)
  | i, v :: cs, nh, us => (match l.getD (i % l.length) none with | none => canonVal hk v nh us | some es => canonOwn h tk es v nh us).bind fun r =>
      (canonRows h hk tk l (i + 1) cs r.2.1 r.2.2).bind fun q => some (r.1 :: q.1, q.2.1, q.2.2)
/-- a slice that is lent -/
def canonLnt (h hk : H) (v : V) (nh : H) (us : List Nat) : Cn :=
  match v with
  | .ref k off n es => if !us.contains k ∧ isDead hk k then ((h[k]?).bind lentOf).map fun cs => (.ref nh.length off n es, nh ++ [.lent cs], k :: us) else none
  | _ => none
def canonLend (h hk : H) (l : List Nat) : Nat → List V → H → List Nat → Option (List V × H × List Nat)
  | _, [], nh, us => some ([], nh, us)
  | i, v :: cs, nh, us => (match v with
      | .ref k off n es => if l.contains i then canonLnt h hk (.ref k off n es) nh us else some (.any, nh, us)
      | .f x => some (.f x, nh, us)
      | .any => some (.any, nh, us)
      | _ => none).bind fun r => (canonLend h hk l (i + 1) cs r.2.1 r.2.2).bind fun q => some (r.1 :: q.1, q.2.1, q.2.2)
/-- the cells of an object of one's own -/
def cellsOb : Ob → Option (List V)
  | .cells cs => some cs
  | .fz cs => some (cs.map .f)
  | _ => none
mutual
/-- hk: the heap of what is not taken over; from there values are frozen -/
def canon (h hk : H) (tk : List Nat) : Sh → V → H → List Nat → Cn
  | .val, v, nh, us => if flat v then some (v, nh, us) else (frzArg hk v).map fun v => (v, nh, us)
  | .raw, _, _, _ => none
  | .rows l, v, nh, us =>
    match v with
    | .ref k off n es =>
      if es = l.length ∧ tk.contains k ∧ !us.contains k then
        ((h[k]?).bind cellsOb).bind fun cs => if off + n * es ≤ cs.length then
            (canonRows h hk tk l 0 ((cs.drop off).take (n * es)) (nh ++ [.dead]) (k :: us)).bind fun r => some (.ref nh.length 0 n es, r.2.1.set nh.length (.cells r.1), r.2.2)
          else none
      else none
    | _ => none
  | .lend l, v, nh, us =>
    match v with
    | .agg cs => (canonLend h hk l 0 cs nh us).map fun r => (.agg r.1, r.2.1, r.2.2)
    | _ => none
  | .lnt, v, nh, us => canonLnt h hk v nh us
  | .mp, v, nh, us =>
    match v with
    | .mp k =>
      if tk.contains k ∧ !us.contains k then
        match h[k]? with
        | some (.map q es) => some (.mp nh.length, nh ++ [.map q es], k :: us)
        | _ => none
      else none
    | _ => none
  | .vec, v, nh, us =>
    match v with
    | .ptr k 0 =>
      if tk.contains k ∧ !us.contains k then
        match h[k]? with
        | some (.fz cs) => some (.ptr nh.length 0, nh ++ [.fz cs], k :: us)
        | some (.cells cs) => (toFs cs).bind fun l => some (.ptr nh.length 0, nh ++ [.fz l], k :: us)
        | _ => none
      else none
    | _ => none
  | .st l, v, nh, us =>
    match v with
    | .agg cs => (canons h hk tk l cs nh us).bind fun r => some (.agg r.1, r.2.1, r.2.2)
    | _ => none
  | .own es, v, nh, us =>
    match v with
    | .f (.s (.slice none 0 0)) => some (.ref nh.length 0 0 es, nh ++ [.fz []], us)
    | .lit n cs => if cs.all flat then some (.lit n cs, nh, us) else none
    | .ref k off n es' =>
      if es' = es ∧ tk.contains k ∧ !us.contains k then
        match h[k]? with
        | some (.fz cs) => if off + n * es ≤ cs.length then some (.ref nh.length 0 n es, nh ++ [.fz ((cs.drop off).take (n * es))], k :: us) else none
        | some (.cells cs) => if off + n * es ≤ cs.length then
            let l := (cs.drop off).take (n * es)
            if l.all flat then some (.ref nh.length 0 n es, nh ++ [.cells l], k :: us) else none
          else none
        | _ => none
      else none
    | _ => none
  | .box l, v, nh, us =>
    match v with
    | .ptr k 0 =>
      if tk.contains k ∧ !us.contains k then
        match h[k]? with
        | some (.cells cs) =>
          (canons h hk tk l cs (nh ++ [.dead]) (k :: us)).bind fun r => some (.ptr nh.length 0, r.2.1.set nh.length (.cells r.1), r.2.2)
        | _ => none
      else none
    | _ => none
  | .pin l, v, nh, us =>
    match v, nh with
    | .ptr k 0, [] =>
      if tk.contains k ∧ !us.contains k then
        match h[k]? with
        | some (.cells cs) =>
          (canons h hk tk l cs [.dead] (k :: us)).bind fun r => some (.ptr 0 0, r.2.1.set 0 (.cells r.1), r.2.2)
        | _ => none
      else none
    | _, _ => none
  | .apin l, v, nh, us =>
    match v, nh with
    | .agg [.ptr k 0], [] =>
      if tk.contains k ∧ !us.contains k then
        match h[k]? with
        | some (.cells cs) =>
          (canons h hk tk l cs [.dead] (k :: us)).bind fun r => some (.agg [.ptr 0 0], r.2.1.set 0 (.cells r.1), r.2.2)
        | _ => none
      else none
    | _, _ => none
  | .pbox l, v, nh, us =>
    match v, nh with
    | .ptr b 0, [] =>
      if tk.contains b ∧ !us.contains b then
        match h[b]? with
        | some (.cells [.ptr k 0]) =>
          if tk.contains k ∧ !(b :: us).contains k then
            match h[k]? with
            | some (.cells cs) =>
              (canons h hk tk l cs [.dead, .dead] (k :: b :: us)).bind fun r => some (.ptr 1 0, (r.2.1.set 0 (.cells r.1)).set 1 (.cells [.ptr 0 0]), r.2.2)
            | _ => none
          else none
        | _ => none
      else none
    | _, _ => none
def canons (h hk : H) (tk : List Nat) : List Sh → List V → H → List Nat → Option (List V × H × List Nat)
  | [], [], nh, us => some ([], nh, us)
  | s :: l, v :: cs, nh, us => (canon h hk tk s v nh us).bind fun r => (canons h hk tk l cs r.2.1 r.2.2).bind fun q => some (r.1 :: q.1, q.2.1, q.2.2)
  | _, _, _, _ => none
end
def canonAll (h hk : H) (tk : List Nat) (fr : Fr) : List (Nat × Sh) → H → List Nat → Option (List (Nat × V) × H)
  | [], nh, _ => some ([], nh)
  | (i, s) :: l, nh, us => (canon h hk tk s (fr i) nh us).bind fun r => (canonAll h hk tk fr l r.2.1 r.2.2).bind fun q => some ((i, r.1) :: q.1, q.2)
/-! the same, each look's answer handed on (so that equations need no rearranging) -/
def canonValK (hk : H) (v : V) (nh : H) (us : List Nat) (k : V → H → List Nat → R) : R := if flat v then k v nh us else frz1K hk v fun v => k v nh us
def canonOwnK (h : H) (tk : List Nat) (es : Nat) (v : V) (nh : H) (us : List Nat) (k : V → H → List Nat → R) : R :=
    match v with
    | .f (.s (.slice none 0 0)) => k (.ref nh.length 0 0 es) (nh ++ [.fz []]) us
    | .lit n cs => if cs.all flat then k (.lit n cs) nh us else none
    | .ref i off n es' =>
      if es' = es ∧ tk.contains i ∧ !us.contains i then
        match h[i]? with
        | some (.fz cs) => if off + n * es ≤ cs.length then k (.ref nh.length 0 n es) (nh ++ [.fz ((cs.drop off).take (n * es))]) (i :: us) else none
        | some (.cells cs) => if off + n * es ≤ cs.length then
            let l := (cs.drop off).take (n * es)
            if l.all flat then k (.ref nh.length 0 n es) (nh ++ [.cells l]) (i :: us) else none
          else none
        | _ => none
      else none
    | _ => none
def canonRowsK (h hk : H) (tk : List Nat) (l : List (Option Nat)) : Nat → List V → H → List Nat → (List V → H → List Nat → R) → R
  | _, [], nh, us, k => k [] nh us
  | i, v :: cs, nh, us, k =>
    match l.getD (i % l.length) none with
    | none => canonValK hk v nh us fun v' nh1 us1 => canonRowsK h hk tk l (i + 1) cs nh1 us1 fun cs' nh2 us2 => k (v' :: cs') nh2 us2
    | some es => canonOwnK h tk es v nh us fun v' nh1 us1 => canonRowsK h hk tk l (i + 1) cs nh1 us1 fun cs' nh2 us2 => k (v' :: cs') nh2 us2
mutual
def canonK (h hk : H) (tk : List Nat) : Sh → V → H → List Nat → (V → H → List Nat → R) → R
  | .val, v, nh, us, k => if flat v then k v nh us else frz1K hk v fun v => k v nh us
  | .raw, _, _, _, _ => none
  | .rows l, v, nh, us, k =>
    match v with
    | .ref i off n es =>
      if es = l.length ∧ tk.contains i ∧ !us.contains i then
        ((h[i]?).bind cellsOb).bind fun cs => if off + n * es ≤ cs.length then
            canonRowsK h hk tk l 0 ((cs.drop off).take (n * es)) (nh ++ [.dead]) (i :: us) fun cs' nh' us' => k (.ref nh.length 0 n es) (nh'.set nh.length (.cells cs')) us'
          else none
      else none
    | _ => none
  | .lend l, v, nh, us, k => (canon h hk tk (.lend l) v nh us).bind fun r => k r.1 r.2.1 r.2.2
  | .lnt, v, nh, us, k => (canon h hk tk .lnt v nh us).bind fun r => k r.1 r.2.1 r.2.2
  | .apin l, v, nh, us, k => (canon h hk tk (.apin l) v nh us).bind fun r => k r.1 r.2.1 r.2.2
  | .pbox l, v, nh, us, k => (canon h hk tk (.pbox l) v nh us).bind fun r => k r.1 r.2.1 r.2.2
  | .mp, v, nh, us, k =>
    match v with
    | .mp i =>
      if tk.contains i ∧ !us.contains i then
        match h[i]? with
        | some (.map q es) => k (.mp nh.length) (nh ++ [.map q es]) (i :: us)
        | _ => none
      else none
    | _ => none
  | .vec, v, nh, us, k =>
    match v with
    | .ptr i 0 =>
      if tk.contains i ∧ !us.contains i then
        match h[i]? with
        | some (.fz cs) => k (.ptr nh.length 0) (nh ++ [.fz cs]) (i :: us)
        | some (.cells cs) => (toFs cs).bind fun l => k (.ptr nh.length 0) (nh ++ [.fz l]) (i :: us)
        | _ => none
      else none
    | _ => none
  | .st l, v, nh, us, k =>
    match v with
    | .agg cs => canonsK h hk tk l cs nh us fun cs' nh' us' => k (.agg cs') nh' us'
    | _ => none
  | .own es, v, nh, us, k =>
    match v with
    | .f (.s (.slice none 0 0)) => k (.ref nh.length 0 0 es) (nh ++ [.fz []]) us
    | .lit n cs => if cs.all flat then k (.lit n cs) nh us else none
    | .ref i off n es' =>
      if es' = es ∧ tk.contains i ∧ !us.contains i then
        match h[i]? with
        | some (.fz cs) => if off + n * es ≤ cs.length then k (.ref nh.length 0 n es) (nh ++ [.fz ((cs.drop off).take (n * es))]) (i :: us) else none
        | some (.cells cs) => if off + n * es ≤ cs.length then
            let l := (cs.drop off).take (n * es)
            if l.all flat then k (.ref nh.length 0 n es) (nh ++ [.cells l]) (i :: us) else none
          else none
        | _ => none
      else none
    | _ => none
  | .box l, v, nh, us, k =>
    match v with
    | .ptr i 0 =>
      if tk.contains i ∧ !us.contains i then
        match h[i]? with
        | some (.cells cs) => canonsK h hk tk l cs (nh ++ [.dead]) (i :: us) fun cs' nh' us' => k (.ptr nh.length 0) (nh'.set nh.length (.cells cs')) us'
        | _ => none
      else none
    | _ => none
  | .pin l, v, nh, us, k =>
    match v, nh with
    | .ptr i 0, [] =>
      if tk.contains i ∧ !us.contains i then
        match h[i]? with
        | some (.cells cs) => canonsK h hk tk l cs [.dead] (i :: us) fun cs' nh' us' => k (.ptr 0 0) (nh'.set 0 (.cells cs')) us'
        | _ => none
      else none
    | _, _ => none
def canonsK (h hk : H) (tk : List Nat) : List Sh → List V → H → List Nat → (List V → H → List Nat → R) → R
  | [], [], nh, us, k => k [] nh us
  | s :: l, v :: cs, nh, us, k => canonK h hk tk s v nh us fun v' nh1 us1 => canonsK h hk tk l cs nh1 us1 fun cs' nh2 us2 => k (v' :: cs') nh2 us2
  | _, _, _, _, _ => none
end
def canonAllK (h hk : H) (tk : List Nat) (fr : Fr) : List (Nat × Sh) → H → List Nat → (List (Nat × V) → H → R) → R
  | [], nh, _, k => k [] nh
  | (i, s) :: l, nh, us, k => canonK h hk tk s (fr i) nh us fun v' nh1 us1 => canonAllK h hk tk fr l nh1 us1 fun m nh2 => k ((i, v') :: m) nh2
def isRaw : List (Nat × Sh) → Bool
  | (_, .raw) :: _ => true
  | _ => false
def headPin : List (Nat × Sh) → Bool
  | (_, .pin _) :: _ => true
  | (_, .pbox _) :: _ => true
  | _ => false
/-- what was handed in first is still object 0 -/
def pinOk (fr : Fr) (h : H) : List (Nat × Sh) → Bool
  | (i, .pin _) :: _ => match fr i with
    | .ptr 0 0 => true
    | _ => false
  | (i, .pbox _) :: _ => match fr i with
    | .ptr b 0 => match h[b]? with
      | some (.cells [.ptr 0 0]) => true
      | _ => false
    | _ => false
  | _ => true
/-- At a cut: 'raw' slots first and all: the heap stays, what isn't named is forgotten; else the heap is made anew out of what is named. -/
def cut (an : Ann) (p : Nat) (fr : Fr) (h : H) (k kj : Fr → H → R) : R :=
  match an p with
  | none => k fr h
  | some l => if isRaw l then kj (mk (l.map fun x => (x.1, fr x.1))) h
    else
      if pinOk fr h l then
      let tk := l.flatMap fun x => takes h x.2 (fr x.1)
      canonAllK h (kill tk 0 (noLent h)) tk fr l [] [] fun m nh => kj (mk m) nh
      else none

/-! ### operations -/
abbrev CallF := FuncId → List V → H → R
/-- ob: which slice literals (by their slots) are objects; makes of cells that aren't frozen. oc: behind which operations (the region's place, its number) only these slots are still read -/
structure Fx where
  ob : Nat → Bool
  oc : Nat → Nat → Option (List Nat)
/-- where a function goes on, from a cut on: at a loop; at some code; within a region, at an operation -/
inductive Jp where
  | loop (b : Code)
  | code (c : Code)
  | ops (all : Array Oper) (i : Nat)
abbrev LF := Nat → Ann → Fx → Jp → Nat → K → Fr → H → R
/-- How a function hands its results over. -/
inductive Pol where
  | pure      -- what it is handed is frozen; its heap is its own; what it answers is frozen
  | give      -- likewise; but where what it is handed is no literal, all that was owned ahead of the call is dead behind it
  | keep
  | own (sh rs : List Sh) (zp zr : List Value)   -- zp, zr: zero values: of the cells behind the pin, of the results. It runs in a heap of just what it is handed, by these shapes; and hands back what its first argument points to, and its results, by those
def unpin : Sh → Sh
  | .pin _ => .val
  | .apin _ => .val
  | .pbox _ => .val
  | s => s
def takesL (h : H) : List Sh → List V → List Nat
  | s :: l, v :: cs => takes h s v ++ takesL h l cs
  | _, _ => []
/-- what is handed in as a value, for good: these objects are read alone from then on -/
def refsOf : V → List Nat
  | .ref k _ _ _ => [k]
  | .ptr k _ => [k]
  | .agg cs => cs.flatMap fun v => match v with | .ref k _ _ _ => [k] | _ => []
  | _ => []
def givs : List Sh → List V → List Nat
  | .val :: l, v :: cs => refsOf v ++ givs l cs
  | _ :: l, _ :: cs => givs l cs
  | _, _ => []
/-- just these objects, but for those that are taken -/
def only (gv tk : List Nat) : Nat → H → H
  | _, [] => []
  | i, o :: h => (if gv.contains i && !tk.contains i then o else .dead) :: only gv tk (i + 1) h
/-- Is it a pointer that is handed in first, and pinned? -/
def pinOf (sh : List Sh) (args : List V) : Option (List Sh × Nat) :=
  match sh, args with
  | .pin l :: _, .ptr k _ :: _ => some (l, k)
  | .apin l :: _, .agg [.ptr k _] :: _ => some (l, k)
  | _, _ => none
structure Cx where
  P : Program
  N : Nat
  an : Ann
  lit : Fx
  call : CallF
  L : LF
  po : FuncId → Pol

def Cx.ev (_cx : Cx) (fr : Fr) : Operand → V
  | .tmp t => fr t
  | .const (.agg cs) => if cs.toList.all Value.oneCell' then .agg (cs.toList.map vs) else .any
  | .const (.tuple _) => .any
  | .const v => vs v
  | .global g => match globTab g with
    | some cs => .f (.fp cs)
    | none => .any
  | .func f => .fn f []

/-- 'if', of a proposition -/
noncomputable def chk (p : Prop) (r : R) : R := open Classical in if p then r else none

def intBin (op : BinOp) (k : IntKind) (a b : Int) (kk : V → R) : R :=
  match op with
  | .add => kk (N k (k.wrap (a + b)))
  | .sub => kk (N k (k.wrap (a - b)))
  | .mul => kk (N k (k.wrap (a * b)))
  | .quo => if b = 0 then none else kk (N k (k.wrap (a.tdiv b)))
  | .rem => if b = 0 then none else kk (N k (a.tmod b))
  | .and => kk (N k (k.wrap (BitVec.ofInt k.bits a &&& BitVec.ofInt k.bits b).toNat))
  | .or => kk (N k (k.wrap (BitVec.ofInt k.bits a ||| BitVec.ofInt k.bits b).toNat))
  | .xor => kk (N k (k.wrap (BitVec.ofInt k.bits a ^^^ BitVec.ofInt k.bits b).toNat))
  | .andNot => kk (N k (k.wrap (BitVec.ofInt k.bits a &&& ~~~(BitVec.ofInt k.bits b)).toNat))
  | .eql => kk (B (a == b))
  | .neq => kk (B (a != b))
  | .lss => kk (B (decide (a < b)))
  | .leq => kk (B (decide (a ≤ b)))
  | .gtr => kk (B (decide (a > b)))
  | .geq => kk (B (decide (a ≥ b)))
  | _ => none
def shiftBin (op : BinOp) (k : IntKind) (a b : Int) (kk : V → R) : R :=
  if b < 0 then none else
  match op with
  | .shl => kk (N k (k.wrap (a * 2 ^ min b.toNat k.bits)))
  | .shr => kk (N k (a.fdiv (2 ^ min b.toNat k.bits)))
  | _ => none
def strBin (op : BinOp) (a b : ByteArray) (kk : V → R) : R :=
  match op with
  | .add => if ((a.size + b.size : Nat) : Int) > 9223372036854775807 then none else kk (S (a ++ b))
  | .eql => kk (B (a.toList == b.toList))
  | .neq => kk (B (!(a.toList == b.toList)))
  | .lss => kk (B (Op.bytesLess a.toList b.toList))
  | .leq => kk (B (Op.bytesLess a.toList b.toList || a.toList == b.toList))
  | .gtr => kk (B (!(Op.bytesLess a.toList b.toList || a.toList == b.toList)))
  | .geq => kk (B (!(Op.bytesLess a.toList b.toList)))
  | _ => none
def asIx (v : V) : Option Int := v.any?.map (·.2)

section
variable (P : Program)
/-- two scalars of a type: are they one? -/
def eq1 (t : TypeId) (x y : V) (k : Bool → R) : R :=
  match P.underlying t with
  | some (.int ik) => (V.int? ik x).bind fun a => (V.int? ik y).bind fun b => k (a == b)
  | some .bool => (V.bool? x).bind fun a => (V.bool? y).bind fun b => k (a == b)
  | some .string => (V.str? x).bind fun a => (V.str? y).bind fun b => k (a.toList == b.toList)
  | _ => none
def eqFs : List Field → List V → List V → (Bool → R) → R
  | [], _, _, k => k true
  | f :: fs, xs, ys, k => if f.name = "_" then none else (xs[f.offset]?).bind fun x => (ys[f.offset]?).bind fun y => eq1 P f.type x y fun b => eqFs fs xs ys fun c => k (b && c)
def eqS (t : TypeId) (xs ys : List V) (k : Bool → R) : R :=
  match P.underlying t with
  | some (.struct fs) => if P.stoodInHeld t = false ∧ P.eqGuardType P.depth t = false then eqFs P fs.toList xs ys k else none
  | _ => none
/-- is a pointer nil? -/
def ptrNil : V → Option Bool
  | .ptr _ _ => some false
  | .f (.fp _) => some false
  | .f (.s (.pointer none)) => some true
  | _ => none
def eqP (t : TypeId) (x y : V) (k : Bool → R) : R :=
  match P.underlying t with
  | some (.pointer _) => (ptrNil x).bind fun a => (ptrNil y).bind fun b => if b = true then k a else none
  | _ => none
/-- is a slice nil? Of one without elements that isn't known -/
def eqL (neg : Bool) (x y : V) (kk : V → R) : R :=
  match y with
  | .f (.s (.slice none 0 0)) =>
    match x with
    | .f (.s (.slice none 0 0)) => kk (B (!neg))
    | .f (.lst n _) => if n = 0 then kk .tf else kk (B neg)
    | .lit n _ => if n = 0 then kk .tf else kk (B neg)
    | .ref _ _ n _ => if n = 0 then kk .tf else kk (B neg)
    | _ => none
  | _ => none
/-- is a map nil? -/
def mapNil : V → Option Bool
  | .mp _ => some false
  | .f (.s (.map none)) => some true
  | _ => none
def eqM (neg : Bool) (x y : V) (kk : V → R) : R := (mapNil x).bind fun a => (mapNil y).bind fun b => if b = true then kk (B (neg ^^ a)) else none
/-- is a value of an interface nil? -/
def eqIf (neg : Bool) (x y : V) (kk : V → R) : R :=
  match x, y with
  | .f (.s .nilIface), .f (.s .nilIface) => kk (B (neg ^^ true))
  | .f (.s (.iface _ _)), .f (.s .nilIface) => kk (B (neg ^^ false))
  | _, _ => none
def eqN (t : TypeId) (neg : Bool) (x y : V) (kk : V → R) : R :=
  match P.underlying t with
  | some (.slice _) => eqL neg x y kk
  | some (.map _ _) => eqM neg x y kk
  | some (.interface ms) => if ms.isEmpty = true then eqIf neg x y kk else none
  | _ => eqP P t x y fun b => kk (B (neg ^^ b))
def binOp (op : BinOp) (t : TypeId) (x y : V) (kk : V → R) : R :=
  match x, y with
  | .f (.s (.int k a)), .f (.s (.int k' b)) =>
    match op with
    | .shl | .shr => shiftBin op k a b kk
    | _ => if k = k' then intBin op k a b kk else none
  | .f (.s (.string a)), .f (.s (.string b)) => strBin op a b kk
  | .f (.s (.bool a)), .f (.s (.bool b)) =>
    match P.underlying t, op with
    | some .bool, .eql => kk (B (a == b))
    | some .bool, .neq => kk (B (!(a == b)))
    | _, _ => none
  | .agg xs, .agg ys =>
    match op with
    | .eql => eqS P t xs ys fun b => kk (B b)
    | .neq => eqS P t xs ys fun b => kk (B (!b))
    | _ => none
  | x, y =>
    match op with
    | .eql => eqN P t false x y kk
    | .neq => eqN P t true x y kk
    | _ => none
def unOp (op : UnOp) (x : V) (kk : V → R) : R :=
  match op, x with
  | .neg, .f (.s (.int k n)) => kk (N k (k.wrap (0 - n)))
  | .xor, .f (.s (.int k n)) => kk (N k (k.wrap (BitVec.ofInt k.bits (if k.signed then -1 else k.max) ^^^ BitVec.ofInt k.bits n).toNat))
  | .not, .f (.s (.bool b)) => kk (B (!b))
  | _, _ => none
/-- the bytes of a row of numbers -/
def bytesOf : List V → Option ByteArray
  | [] => some ⟨#[]⟩
  | _ => none
def strOfF (cs : List F) : Option (List UInt8) :=
  match cs with
  | [] => some []
  | .s (.int .u8 n) :: r => (strOfF r).bind fun l => some (UInt8.ofNat n.toNat :: l)
  | _ => none
def strOfV (cs : List V) : Option (List UInt8) :=
  match cs with
  | [] => some []
  | .f (.s (.int .u8 n)) :: r => (strOfV r).bind fun l => some (UInt8.ofNat n.toNat :: l)
  | _ => none
def bytesToStr (h : H) (x : V) : Option ByteArray :=
  match x with
  | .f (.s (.slice none _ _)) => some ⟨#[]⟩
  | .f (.lst n cs) => if cs.length = n then (strOfF cs).map fun l => ⟨l.toArray⟩ else none
  | .lit n cs => if cs.length = n then (strOfV cs).map fun l => ⟨l.toArray⟩ else none
  | .ref k off n _ =>
    match h[k]? with
    | some (.fz cs) => if off + n ≤ cs.length then (strOfF ((cs.drop off).take n)).map fun l => ⟨l.toArray⟩ else none
    | some (.cells cs) => if off + n ≤ cs.length then (strOfV ((cs.drop off).take n)).map fun l => ⟨l.toArray⟩ else none
    | _ => none
  | _ => none
def convert (src dst : TypeId) (x : V) (h : H) (kk : V → R) : R :=
  match P.underlying src, P.underlying dst, x with
  | some (.int _), some (.int k), .f (.s (.int _ n)) => kk (N k (k.wrap n))
  | some .string, some .string, .f (.s (.string b)) => kk (S b)
  | some (.int _), some .string, .f (.s (.int _ n)) => if 0 ≤ n ∧ n < 128 then kk (S ⟨#[UInt8.ofNat n.toNat]⟩) else none
  | some (.slice e), some .string, x =>
    match P.underlying e with
    | some (.int .u8) => (bytesToStr h x).bind fun b => kk (S b)
    | _ => none
  | some (.slice _), some (.slice _), _ => none
  | _, _, _ => none

/-- a text as bytes: a new row -/
def isStr : V → Bool
  | .f (.s (.string _)) => true
  | _ => false
/-- is a row made, or a row's mark set? -/
def newB (s d : TypeId) : V → Bool
  | .f (.s (.string _)) => true
  | .ref _ _ _ _ => s == d
  | _ => false
def byteF (b : ByteArray) : List F := b.data.toList.map fun x => .s (.int .u8 x.toNat)
def bytesNew (src dst : TypeId) (x : V) (h : H) (kk : V → H → R) : R :=
  match P.underlying src, P.underlying dst, x with
  | some .string, some (.slice e), .f (.s (.string b)) =>
    match P.underlying e with
    | some (.int .u8) => kk (.ref h.length 0 b.size 1) (h ++ [.fz (byteF b)])
    | _ => none
  | some .string, some .string, .f (.s (.string b)) => kk (S b) h
  | some (.slice _), some (.slice e), .ref k off n es =>
    match P.underlying e with
    | some (.int .u8) => if src = dst ∧ 0 < n then
        match h[k]? with
        | some (.fz _) => kk (.ref k off n es) h
        | _ => none
      else none
    | _ => none
  | _, _, _ => none

def fieldOf (t : TypeId) (i : Nat) : Option Field :=
  (P.underlying t).bind fun | .struct fs => fs[i]? | _ => none

def addP : V → Nat → Option V
  | .ptr k off, n => some (.ptr k (off + n))
  | .f (.fp cs), n => some (.f (.fp (cs.drop n)))
  | _, _ => none
/-- from an element of a frozen slice on -/
def elem (x : F) (i : Int) (es : Nat) (K : List F → R) : R :=
  match x with
  | .lst n cs => if 0 ≤ i ∧ i < n then K (cs.drop (i.toNat * es)) else none
  | _ => none
/-- the place of an element -/
def idx (t : TypeId) (x : V) (i : Int) (kk : V → R) : R :=
  match P.underlying t with
  | some (.slice e) => (szOf P e).bind fun es =>
    match x with
    | .f x => elem x i es fun cs => kk (.f (.fp cs))
    | .ref k off n es' => if es' = es ∧ 0 ≤ i ∧ i < n then kk (.ptr k (off + i.toNat * es)) else none
    | _ => none
  | some (.array n e) => (szOf P e).bind fun es =>
    match x with
    | .ptr k off => if 0 ≤ i ∧ i < n then kk (.ptr k (off + i.toNat * es)) else none
    | .f (.fp cs) => if 0 ≤ i ∧ i < n then kk (.f (.fp (cs.drop (i.toNat * es)))) else none
    | _ => none
  | _ => none
def ldF (z : Value) (p : F) (kk : V → R) : R :=
  match p with
  | .fp cs => (cs[0]?).bind fun x => coeF z x kk
  | _ => none
/-- frozen cells, by their types' zero values -/
def coeFN : List Value → Nat → List F → (List V → R) → R
  | [], _, _, k => k []
  | z :: zs, i, cs, k => (cs[i]?).bind fun x => coeF z x fun v => coeFN zs (i + 1) cs fun l => k (v :: l)
def coeFA (z : Value) (n off : Nat) (cs : List F) (k : List V → R) : R :=
  match z with
  | .agg zs => if zs.size = n ∧ 0 < n then coeFN zs.toList off cs k else none
  | _ => none
def load (t : TypeId) (a : V) (h : H) (kk : V → R) : R :=
  (agg? P t).bind fun ag => if ag then
      (szOf P t).bind fun n =>
        match a with
        | .ptr k off =>
          match h[k]? with
          | some (.cells cs) => if off + n ≤ cs.length then kk (.agg ((cs.drop off).take n)) else none
          | some (.fz cs) => coeFA (zr P t) n off cs fun l => kk (.agg l)
          | _ => none
        | .f (.fp cs) => coeFA (zr P t) n 0 cs fun l => kk (.agg l)
        | _ => none
    else
      match a with
      | .ptr k off => load1 (zr P t) h k off kk
      | .f p => ldF (zr P t) p kk
      | _ => none
/-- a slice's variable that holds nil -/
def isNilSl (t : TypeId) (h : H) (a : V) : Bool :=
  (match agg? P t with
    | some false => true
    | _ => false) &&
  match a with
  | .ptr k off =>
    match h[k]? with
    | some (.cells cs) =>
      match cs[off]? with
      | some (.f (.s (.slice none 0 0))) => true
      | _ => false
    | some (.fz cs) =>
      match cs[off]? with
      | some (.s (.slice none 0 0)) => true
      | _ => false
    | _ => false
  | _ => false
/-- likewise; keep: what is nil stays that -/
def loadN (keep : Bool) (t : TypeId) (a : V) (h : H) (kk : V → R) : R := load P t a h fun v => kk (if keep && isNilSl P t h a then nilS else v)
def store (t : TypeId) (a v : V) (h : H) (kk : H → R) : R :=
  (szOf P t).bind fun n => (cellsOf v).bind fun cs =>
    match a with
    | .ptr k off => if cs.length = n then wrK h k off cs kk else none
    | _ => none
/-- part of a flat row of cells: of a type -/
def part (t : TypeId) (cs : List V) (off : Nat) (kk : V → R) : R :=
  (agg? P t).bind fun ag => if ag then (szOf P t).bind fun n => kk (.agg ((cs.drop off).take n))
    else (cs[off]?).bind fun v => coe (zr P t) v kk
def field (t : TypeId) (x : V) (i : Nat) (kk : V → R) : R :=
  (fieldOf P t i).bind fun f =>
    match x with
    | .agg cs => part P f.type cs f.offset kk
    | _ => none

def fill (place : Nat → Option (Nat × Nat)) (cells : List V) : List (Nat × V) → Option (List V)
  | [] => some cells
  | (i, v) :: rest => (place i).bind fun q => (cellsOf v).bind fun cs =>
      if cs.length = q.2 ∧ q.1 + cs.length ≤ cells.length then fill place (splice cells q.1 cs) rest else none
def build (t : TypeId) (parts : List (Nat × V)) (kk : V → R) : R :=
  (zcells P t).bind fun z =>
    match P.underlying t with
    | some (.struct fs) => (fs.toList.mapM fun f => (P.info? f.type).map fun i => (f.offset, i.size)).bind fun places => (fill (fun i => places[i]?) z parts).bind fun cs => kk (.agg cs)
    | some (.array _ e) => (szOf P e).bind fun n => (fill (fun i => some (i * n, n)) z parts).bind fun cs => kk (.agg cs)
    | _ => none
def repl {α : Type} (z : List α) : Nat → List α
  | 0 => []
  | n + 1 => z ++ repl z n
/-- whole slices of elements: one behind the other, from the first on -/
def rowOf (es : Nat) : Nat → List (Nat × V) → Option (List V)
  | _, [] => some []
  | j, (i, v) :: rest => if i = j then (cellsOf v).bind fun cs => if cs.length = es then (rowOf es (j + 1) rest).bind fun l => some (cs ++ l) else none else none
/-- a new row: of frozen cells, where they are -/
def newRow (cs : List V) : Ob :=
  match toFs cs with
  | some l => .fz l
  | none => .cells cs
def buildSlice (t : TypeId) (len : Nat) (parts : List (Nat × V)) (ob : Bool) (h : H) (kk : V → H → R) : R :=
  (elem? P t).bind fun e => (szOf P e).bind fun es => (zcells P e).bind fun _ => (rowOf es 0 parts).bind fun cs =>
    if parts.length = len ∧ len * es ≤ 16777216 ∧ 0 < es then
      if ob then kk (.ref h.length 0 len es) (h ++ [newRow (cs.map nrmV)]) else kk (.lit len cs) h
    else none

/-- append -/
def app (es by_ : Nat) (s : V) (n : Nat) (xs : List V) (h : H) (kk : V → H → R) : R :=
  if 0 < es ∧ xs.length = n * es ∧ 0 < by_ then
  match s with
  | .f (.s (.slice none 0 0)) => if n * by_ ≤ 140737488355328 then kk (.ref h.length 0 n es) (h ++ [newRow xs]) else none
  | .lit m cs => if n = 0 then kk (.lit m cs) h else if 0 < n ∧ cs.length = m * es ∧ (m + n) * by_ ≤ 140737488355328 then kk (.ref h.length 0 (m + n) es) (h ++ [newRow (cs ++ xs)]) else none
  | .ref k off m es' =>
    if es' = es ∧ (m + n) * by_ ≤ 140737488355328 then
      match h[k]? with
      | some (.fz cs) =>
        if off + m * es ≤ cs.length then
          match toFs xs with
          | some ys => kk (.ref h.length 0 (m + n) es) (h.set k .dead ++ [.fz ((cs.drop off).take (m * es) ++ ys)])
          | none => kk (.ref h.length 0 (m + n) es) (h.set k .dead ++ [.cells (((cs.drop off).take (m * es)).map .f ++ xs)])
        else none
      | some (.cells cs) =>
        if off + m * es ≤ cs.length then kk (.ref h.length 0 (m + n) es) (h.set k .dead ++ [.cells ((cs.drop off).take (m * es) ++ xs)]) else none
      | _ => none
    else none
  | _ => none
  else none
/-- the same, of frozen cells -/
def appF (es by_ : Nat) (s : V) (n : Nat) (ys : List F) (h : H) (kk : V → H → R) : R :=
  if 0 < es ∧ ys.length = n * es ∧ 0 < by_ then
  match s with
  | .f (.s (.slice none 0 0)) => if n * by_ ≤ 140737488355328 then kk (.ref h.length 0 n es) (h ++ [.fz ys]) else none
  | .lit m cs => if n = 0 then kk (.lit m cs) h else if 0 < n ∧ cs.length = m * es ∧ (m + n) * by_ ≤ 140737488355328 then kk (.ref h.length 0 (m + n) es) (h ++ [newRow (cs ++ ys.map .f)]) else none
  | .ref k off m es' =>
    if es' = es ∧ (m + n) * by_ ≤ 140737488355328 then
      match h[k]? with
      | some (.fz cs) => if off + m * es ≤ cs.length then kk (.ref h.length 0 (m + n) es) (h.set k .dead ++ [.fz ((cs.drop off).take (m * es) ++ ys)]) else none
      | some (.cells cs) => if off + m * es ≤ cs.length then kk (.ref h.length 0 (m + n) es) (h.set k .dead ++ [.cells ((cs.drop off).take (m * es) ++ ys.map .f)]) else none
      | _ => none
    else none
  | _ => none
  else none
def byteCells (b : ByteArray) : List V := b.data.toList.map fun x => U8 x.toNat
/-- rows whose new cells stay as they are: a slice that is nil is told as such -/
def rawEs : List Nat := [5, 7]
def nrmE (es : Nat) (l : List V) : List V := if rawEs.contains es then l else l.map nrmV
def append (st xt : TypeId) (s x : V) (h : H) (kk : V → H → R) : R :=
  (elem? P st).bind fun e => (szOf P e).bind fun es => (byOf P e).bind fun by_ => (zcellsF P e).bind fun _ =>
    match P.underlying xt, x with
    | some .string, .f (.s (.string b)) => if es = 1 then appF es by_ s b.size (byteF b) h kk else none
    | some (.slice _), .f (.lst n cs) => appF es by_ s n cs h kk
    | some (.slice _), .ref k off n es' =>
      match h[k]? with
      | some (.fz cs) => if es' = es ∧ off + n * es ≤ cs.length then appF es by_ s n ((cs.drop off).take (n * es)) h kk else none
      | _ => (slCells h (.ref k off n es') es).bind fun q => app es by_ s q.1 (nrmE es q.2) h kk
    | some (.slice _), x => (slCells h x es).bind fun q => app es by_ s q.1 (nrmE es q.2) h kk
    | _, _ => none

def len (t : TypeId) (x : V) (h : H) (kk : V → R) : R :=
  match P.underlying t with
  | some .string => (V.str? x).bind fun b => kk (I b.size)
  | some (.array n _) => kk (I n)
  | some (.slice _) =>
    match x with
    | .f x => (F.len? x).bind fun n => kk (I n)
    | .ref _ _ n _ => kk (I n)
    | .lit n _ => kk (I n)
    | _ => none
  | some (.map _ _) =>
    match x with
    | .mp k => match h[k]? with
      | some (.map _ es) => kk (I es.length)
      | _ => none
    | .f (.s (.map none)) => kk (I 0)
    | _ => none
  | _ => none

def makeSlice (t : TypeId) (l c : V) (ob : Bool) (h : H) (kk : V → H → R) : R :=
  (elem? P t).bind fun e => (szOf P e).bind fun es => (byOf P e).bind fun by_ => (V.any? l).bind fun l => (V.any? c).bind fun c =>
    if l = c ∧ 0 ≤ l.2 ∧ l.2 ≤ 9223372036854775807 ∧ (by_ : Int) * l.2 ≤ 140737488355328 ∧ 0 < es then
      if ob then (zcells P e).bind fun z => kk (.ref h.length 0 l.2.toNat es) (h ++ [.cells (repl z l.2.toNat)])
      else (zcellsF P e).bind fun z => kk (.ref h.length 0 l.2.toNat es) (h ++ [.fz (repl (z.map frzF) l.2.toNat)])
    else none

/-- a bound of a slice expression -/
def bnd (v : Option V) (d : Nat) (top : Nat) : Option Nat :=
  match v with
  | none => some d
  | some v => (asIx v).bind fun i => if 0 ≤ i ∧ i ≤ top then some i.toNat else none
def sliceStr (b : ByteArray) (lo hi : Option V) (kk : V → R) : R :=
  (bnd hi b.size b.size).bind fun hh => (bnd lo 0 hh).bind fun l => kk (S (b.extract l hh))
/-- x[lo:hi:hi], of what is frozen: no room behind it -/
def slice3 (t : TypeId) (x : V) (lo : Option V) (hi mx : V) (kk : V → R) : R :=
  (elem? P t).bind fun e => (szOf P e).bind fun es => (asIx mx).bind fun m =>
    match x with
    | .f (.lst n cs) => (bnd (some hi) n n).bind fun hh => if m = hh then (bnd lo 0 hh).bind fun l => kk (.lit (hh - l) (((cs.drop (l * es)).take ((hh - l) * es)).map .f)) else none
    | .lit n cs => (bnd (some hi) n n).bind fun hh => if m = hh then (bnd lo 0 hh).bind fun l => kk (.lit (hh - l) ((cs.drop (l * es)).take ((hh - l) * es))) else none
    | _ => none
/-- x[lo:hi]: within its length -/
def slice (t : TypeId) (x : V) (lo hi mx : Option V) (h : H) (kk : V → R) : R :=
  match mx with
  | some mx => match hi with
    | some hi => slice3 P t x lo hi mx kk
    | none => none
  | none =>
  match P.underlying t with
  | some .string => (V.str? x).bind fun b => sliceStr b lo hi kk
  | some (.slice e) => (szOf P e).bind fun es =>
    match x with
    | .f (.s (.slice none 0 0)) => (bnd hi 0 0).bind fun hh => (bnd lo 0 hh).bind fun _ => kk nilS
    | .f (.lst n cs) => (bnd hi n n).bind fun hh => (bnd lo 0 hh).bind fun l => kk (.f (.lst (hh - l) ((cs.drop (l * es)).take ((hh - l) * es))))
    | .ref k off n es' => if es' = es then (bnd hi n n).bind fun hh => (bnd lo 0 hh).bind fun l => kk (.ref k (off + l * es) (hh - l) es) else none
    | _ => none
  | some (.array n e) => (szOf P e).bind fun es =>
    match x with
    | .ptr k off => (rd h k off (n * es)).bind fun _ => (bnd hi n n).bind fun hh => (bnd lo 0 hh).bind fun l => kk (.ref k (off + l * es) (hh - l) es)
    | _ => none
  | _ => none
def index (t : TypeId) (x : V) (i : Int) (kk : V → R) : R :=
  match P.underlying t with
  | some .string => (V.str? x).bind fun b => if h : 0 ≤ i ∧ i.toNat < b.size then kk (U8 (b[i.toNat]'h.2).toNat) else none
  | some (.array n e) =>
    match x with
    | .agg cs => if 0 ≤ i ∧ i < n then (szOf P e).bind fun es => part P e cs (i.toNat * es) kk else none
    | _ => none
  | _ => none

/-! maps: keys are strings, or whole numbers of a kind -/
def kkOf (t : TypeId) : Option KK :=
  match P.underlying t with
  | some (.int k) => some (.int k)
  | some .string => some .str
  | _ => none
def keyOk (kk : KK) (k : V) : Option Value :=
  match kk with
  | .int ik => (V.int? ik k).map fun n => .int ik n
  | .str => (V.str? k).map fun b => .string b
def sameKey : Value → Value → Bool
  | .int k a, .int k' b => k == k' && a == b
  | .string a, .string b => a == b
  | _, _ => false
def mfind (k : Value) : List (Value × F) → Option F
  | [] => none
  | (a, x) :: r => if sameKey k a then some x else mfind k r
def mput (k : Value) (x : F) : List (Value × F) → List (Value × F)
  | [] => [(k, x)]
  | (a, y) :: r => if sameKey k a then (k, x) :: r else (a, y) :: mput k x r
def lookup (t : TypeId) (m i : V) (ok : Bool) (h : H) (kk : V → R) : R :=
  match P.underlying t with
  | some (.map kt et) => (kkOf P kt).bind fun q => (keyOk q i).bind fun key => ((P.info? et).bind (·.zero)).bind fun z =>
      if z.oneCell' then
      let go (es : List (Value × F)) : R :=
        if ok then
          match mfind key es with
          | some x => kk (.tup [.f x, B true])
          | none => kk (.tup [vs z, B false])
        else coeF z ((mfind key es).getD (.s z)) kk
      match m with
      | .mp k => match h[k]? with
        | some (.map q' es) => if q' = q then go es else none
        | _ => none
      | .f (.s (.map none)) => go []
      | _ => none
      else none
  | _ => none
def mapUpdate (t : TypeId) (m i x : V) (h : H) (kk : H → R) : R :=
  match P.underlying t with
  | some (.map kt _) => (kkOf P kt).bind fun q => (keyOk q i).bind fun key => x.f?.bind fun x =>
      match m with
      | .mp k => match h[k]? with
        | some (.map q' es) => if q' = q then kk (h.set k (.map q' (mput key x es))) else none
        | _ => none
      | _ => none
  | _ => none
def mfindI (k : Value) : List (Value × F) → Nat → Option (Nat × F)
  | [], _ => none
  | (a, x) :: r, i => if sameKey k a then some (i, x) else mfindI k r (i + 1)
/-- m[k] op= ..: the entry's value, and which it is -/
def mapEntry (t : TypeId) (m i : V) (h : H) (kk : V → H → R) : R :=
  match P.underlying t with
  | some (.map kt et) => (kkOf P kt).bind fun q => (keyOk q i).bind fun key => ((P.info? et).bind (·.zero)).bind fun z =>
      if z.oneCell' then
      match m with
      | .mp k => match h[k]? with
        | some (.map q' es) => if q' = q then
            match mfindI key es 0 with
            | some (j, x) => kk (.tup [.f x, I j]) (h.set k (.map q' es))
            | none => kk (.tup [.f (.s z), I es.length]) (h.set k (.map q' (mput key (.s z) es)))
          else none
        | _ => none
      | _ => none
      else none
  | _ => none
def entryStore (m st x : V) (h : H) (kk : H → R) : R :=
  match m with
  | .mp k => match h[k]? with
    | some (.map q es) => (V.int? .i64 st).bind fun n => x.f?.bind fun x => if 0 ≤ n ∧ n < es.length then kk (h.set k (.map q (es.modify n.toNat fun a => (a.1, x)))) else none
    | _ => none
  | _ => none
def makeMap (t : TypeId) (h : H) (kk : V → H → R) : R :=
  match P.underlying t with
  | some (.map kt _) => (kkOf P kt).bind fun q => kk (.mp h.length) (h ++ [.map q []])
  | _ => none

/-- all elements of a slice become zero values -/
def clearS (t : TypeId) (x : V) (h : H) (kk : V → H → R) : R :=
  (elem? P t).bind fun e => (szOf P e).bind fun es => (zcells P e).bind fun z =>
    match x with
    | .f (.s (.slice none 0 0)) => kk (.tup []) h
    | .ref k off n es' => if n = 0 then kk (.tup []) h else if es' = es then wrK h k off (repl z n) fun h => kk (.tup []) h else none
    | _ => none
def builtin (b : Builtin) (at_ : Array TypeId) (xs : List V) (h : H) (kk : V → H → R) : R :=
  match b, at_.toList, xs with
  | .clear, [t], [x] => clearS P t x h kk
  | .len, [t], [x] => len P t x h fun v => kk v h
  | .append, [st, xt], [s, x] => append P st xt s x h kk
  | .max, _, [.f (.s (.int k x)), .f (.s (.int _ y))] => kk (N k (if y > x then y else x)) h
  | .min, _, [.f (.s (.int k x)), .f (.s (.int _ y))] => kk (N k (if y < x then y else x)) h
  | _, _, _ => none
end

/-! what a call answers, by its type's zero value; by the callee's shapes -/
def V.agg? : V → Option (List V)
  | .agg cs => some cs
  | _ => none
def V.tup? : V → Option (List V)
  | .tup cs => some cs
  | _ => none
def F.lst? : F → Option (Nat × List F)
  | .lst n cs => some (n, cs)
  | _ => none
def V.lst? (v : V) : Option (Nat × List F) := v.f?.bind F.lst?
def coe1 (z : Value) (v : V) (k : V → R) : R :=
  match z with
  | .int ik _ => (V.int? ik v).bind fun n => k (.f (.s (.int ik n)))
  | .bool _ => (V.bool? v).bind fun b => k (.f (.s (.bool b)))
  | .string _ => (V.str? v).bind fun b => k (.f (.s (.string b)))
  | .slice _ _ _ => (V.lst? v).bind fun q => k (.f (.lst q.1 q.2))
  | _ => v.f?.bind fun x => k (.f x)
def coeN : List Value → Nat → List V → (List V → R) → R
  | [], i, cs, k => if cs.length = i then k [] else none
  | z :: zs, i, cs, k => (cs[i]?).bind fun v => coe1 z v fun v' => coeN zs (i + 1) cs fun l => k (v' :: l)
def coeZ (z : Value) (v : V) (k : V → R) : R :=
  match z with
  | .agg zs => v.agg?.bind fun cs => coeN zs.toList 0 cs fun l => k (.agg l)
  | z => coe1 z v k
def coeM : List Value → Nat → List V → (List V → R) → R
  | [], i, cs, k => if cs.length = i then k [] else none
  | z :: zs, i, cs, k => (cs[i]?).bind fun v => coeZ z v fun v' => coeM zs (i + 1) cs fun l => k (v' :: l)
def coeT (z : Value) (v : V) (k : V → R) : R :=
  match z with
  | .tuple zs => v.tup?.bind fun cs => coeM zs.toList 0 cs fun l => k (.tup l)
  | .slice _ _ _ => v.f?.bind fun x => (F.sl? x).bind fun q => k (.f (.lst q.1 q.2))
  | z => coeZ z v k
/-- a slice of all of the object i; the object; how many there are -/
def asRef (i es : Nat) : V → Option Nat
  | .ref k 0 n es' => if k = i ∧ es' = es then some n else none
  | _ => none
def asFz (g : H) (i : Nat) : Option (List F) :=
  match g[i]? with
  | some (.fz c) => some c
  | _ => none
def asCells (g : H) (i : Nat) : Option (List V) :=
  match g[i]? with
  | some (.cells c) => some c
  | _ => none
def asMap (g : H) (i : Nat) : Option (KK × List (Value × F)) :=
  match g[i]? with
  | some (.map q es) => some (q, es)
  | _ => none
def asPtr (i : Nat) : V → Option Unit
  | .ptr k 0 => if k = i then some () else none
  | _ => none
def asMp (i : Nat) : V → Option Unit
  | .mp k => if k = i then some () else none
  | _ => none
def zsOf : Value → List Value
  | .agg zs => zs.toList
  | _ => []
mutual
/-- n: the first new object's number; acc: the new objects so far; z: the zero value of the type (of a box: of what it points to) -/
def reS (n : Nat) (g : H) : Sh → Value → V → H → (V → H → R) → R
  | .val, z, v, acc, k => coeZ z v fun v => k v acc
  | .own es, _, v, acc, k => (asRef (n + acc.length) es v).bind fun m => (asFz g (n + acc.length)).bind fun c => k (.ref (n + acc.length) 0 m es) (acc ++ [.fz c])
  | .vec, _, v, acc, k => (asPtr (n + acc.length) v).bind fun _ => (asFz g (n + acc.length)).bind fun c => k (.ptr (n + acc.length) 0) (acc ++ [.fz c])
  | .mp, _, v, acc, k => (asMp (n + acc.length) v).bind fun _ => (asMap g (n + acc.length)).bind fun c => k (.mp (n + acc.length)) (acc ++ [.map c.1 c.2])
  | .box l, z, v, acc, k => (asPtr (n + acc.length) v).bind fun _ => (asCells g (n + acc.length)).bind fun cs =>
      reM n g l (zsOf z) 0 cs (acc ++ [.dead]) fun cs' acc' => k (.ptr (n + acc.length) 0) (acc'.set acc.length (.cells cs'))
  | .st l, z, v, acc, k => v.agg?.bind fun cs => reM n g l (zsOf z) 0 cs acc fun cs' acc' => k (.agg cs') acc'
  | _, _, _, _, _ => none
/-- several, by shapes and zero values -/
def reM (n : Nat) (g : H) : List Sh → List Value → Nat → List V → H → (List V → H → R) → R
  | [], [], i, cs, acc, k => if cs.length = i then k [] acc else none
  | s :: l, z :: zs, i, cs, acc, k => (cs[i]?).bind fun v => reS n g s z v acc fun v' acc' => reM n g l zs (i + 1) cs acc' fun l' acc'' => k (v' :: l') acc''
  | _, _, _, _, _, _ => none
end
/-- the results -/
def reR (n : Nat) (g : H) (rs : List Sh) (zs : List Value) (v : V) (acc : H) (k : V → H → R) : R :=
  match rs, zs with
  | [s], [z] => reS n g s z v acc k
  | [], _ => k v acc
  | rs, zs => v.tup?.bind fun cs => reM n g rs zs 0 cs acc fun l acc => k (.tup l) acc
/-- A call's answer, by the callee's policy: h: the heap ahead of it; g: behind it. -/
def tidy (po : Pol) (z : Value) (args : List V) (h : H) (v : V) (g : H) (k : V → H → R) : R :=
  match po with
  | .keep => coeU z v fun v => k v g
  | .pure => coeT z v fun v => k v h
  | .give => coeT z v fun v => k v (if args.all ripe then h else deadAll h)
  | .own sh rs zp zr =>
    match pinOf sh args with
    | none =>
      let hk := kill (takesL h (sh.map unpin) args ++ givs (sh.map unpin) args) 0 h
      reR h.length g rs zr v [] fun v acc => if g.length = h.length + acc.length then k v (hk ++ acc) else none
    | some (l, p) =>
      let hk := kill (takesL h sh args ++ givs sh args) 0 h
      (asCells g p).bind fun cs => reM h.length g l zp 0 cs [] fun cs' acc =>
        reR h.length g rs zr v acc fun v acc => if g.length = h.length + acc.length then k v (hk.set p (.cells cs') ++ acc) else none
def onCall (r : R) (k : V → H → R) (kp : V → H → R) : R :=
  match r with
  | some (.ret v, h) => k v h
  | some (.pan v, h) => kp v h
  | none => none

/-- a scalar as a value of an interface -/
def mkIface (P : Program) (t : TypeId) (v : V) (kk : V → R) : R :=
  match P.underlying t, v with
  | some (.int _), .f (.s (.int k n)) => kk (.f (.s (.iface t (.int k n))))
  | some .string, .f (.s (.string s)) => kk (.f (.s (.iface t (.string s))))
  | _, _ => none
/-- what a value of an interface holds, where it is of that type -/
def assertI (P : Program) (t : TypeId) (ok : Bool) (v : V) (kk : V → R) : R :=
  match P.underlying t, v with
  | some (.int _), .f (.s (.iface t' (.int k n))) => if t' = t ∧ ok = true then kk (.tup [.f (.s (.int k n)), B true]) else none
  | _, _ => none
def goPan (v : V) (h : H) (kp : V → H → R) : R :=
  match v with
  | .f (.s (.iface t x)) => kp (.f (.s (.iface t x))) h
  | _ => none
def Cx.parts (cx : Cx) (fr : Fr) (ps : Array (Nat × Operand)) : List (Nat × V) := ps.toList.map fun x => (x.1, cx.ev fr x.2)
def Cx.exec (cx : Cx) (o : Oper) (fr : Fr) (h : H) (k : V → H → R) (kp : V → H → R) : R :=
  match o.op with
  | .move x => k (cx.ev fr x) h
  | .assign x => k (cx.ev fr x) h
  | .pick c a b => (V.bool? (cx.ev fr c)).bind fun q => if q then k (cx.ev fr a) h else k (cx.ev fr b) h
  | .alloc t => (zcells cx.P t).bind fun cs => k (.ptr h.length 0) (h ++ [.cells cs])
  | .box _ x => (cellsOf (cx.ev fr x)).bind fun cs => k (.ptr h.length 0) (h ++ [.cells cs])
  | .build t ps => build cx.P t (cx.parts fr ps) fun v => k v h
  | .buildSlice t n ps => buildSlice cx.P t n (cx.parts fr ps) (cx.lit.ob (o.dst.getD 0)) h k
  | .load t a => loadN cx.P (cx.lit.ob (o.dst.getD 0)) t (cx.ev fr a) h fun v => k v h
  | .store t a x => store cx.P t (cx.ev fr a) (cx.ev fr x) h fun h => k .un h
  | .nilCheck x => match cx.ev fr x with
    | .ptr i off => k (.ptr i off) h
    | .f (.fp cs) => k (.f (.fp cs)) h
    | _ => none
  | .binOp op t x y _ => binOp cx.P op t (cx.ev fr x) (cx.ev fr y) fun v => k v h
  | .unOp op _ x => unOp op (cx.ev fr x) fun v => k v h
  | .convert s d x => if newB s d (cx.ev fr x) then bytesNew cx.P s d (cx.ev fr x) h k else convert cx.P s d (cx.ev fr x) h fun v => k v h
  | .makeSlice t l c => makeSlice cx.P t (cx.ev fr l) (cx.ev fr c) (cx.lit.ob (o.dst.getD 0)) h k
  | .makeMap t none => makeMap cx.P t h k
  | .slice t x lo hi mx => slice cx.P t (cx.ev fr x) (lo.map (cx.ev fr)) (hi.map (cx.ev fr)) (mx.map (cx.ev fr)) h fun v => k v h
  | .fieldAddr t x i => (fieldOf cx.P t i).bind fun f => (szOf cx.P f.type).bind fun n => if n = 0 then none else (addP (cx.ev fr x) f.offset).bind fun v => k v h
  | .field t x i => field cx.P t (cx.ev fr x) i fun v => k v h
  | .indexAddr t x i => (asIx (cx.ev fr i)).bind fun i => idx cx.P t (cx.ev fr x) i fun v => k v h
  | .index t x i => (asIx (cx.ev fr i)).bind fun i => index cx.P t (cx.ev fr x) i fun v => k v h
  | .lookup t m i ok => lookup cx.P t (cx.ev fr m) (cx.ev fr i) ok h fun v => k v h
  | .mapUpdate t m i x => mapUpdate cx.P t (cx.ev fr m) (cx.ev fr i) (cx.ev fr x) h fun h => k .un h
  | .mapEntry t m i => mapEntry cx.P t (cx.ev fr m) (cx.ev fr i) h k
  | .entryStore _ m st x => entryStore (cx.ev fr m) (cx.ev fr st) (cx.ev fr x) h fun h => k .un h
  | .extract t i => match cx.ev fr t with
    | .tup l => (l[i]?).bind fun v => coe (zr cx.P o.type) v fun v => k v h
    | _ => none
  | .call c => match c.callee with
    | .value f => match cx.ev fr f with
      | .fn g cap => onCall (cx.call g (c.args.toList.map (cx.ev fr) ++ cap) h) (fun v g' => tidy (cx.po g) (zr cx.P o.type) (c.args.toList.map (cx.ev fr) ++ cap) h v g' k) kp
      | _ => none
    | .builtin b => builtin cx.P b c.argTypes (c.args.toList.map (cx.ev fr)) h k
    | _ => none
  | .makeFunc (.func g) first caps => if first.size = 0 then k (.fn g (caps.toList.map (cx.ev fr))) h else none
  | .makeInterface t x => mkIface cx.P t (cx.ev fr x) fun v => k v h
  | .panic x => goPan (cx.ev fr x) h kp
  | .typeAssert x _ t ok => assertI cx.P t ok (cx.ev fr x) fun v => k v h
  | _ => none

/-- The slot that an operation of a region writes. -/
def dstOf (all : Array Oper) (j : Nat) : Option Nat := (all[j]?).bind (·.dst)
def put (fr : Fr) (d : Option Nat) (v : V) : Fr :=
  match d with
  | some d => upd fr d v
  | none => fr
def okDst (n : Nat) (d : Option Nat) : Bool :=
  match d with
  | some d => decide (d < n)
  | none => true

/-- on in the same function, one level down -/
def Cx.go (cx : Cx) (j : Jp) (p : Nat) (K0 : K) (fr : Fr) (h : H) : R := cx.L cx.N cx.an cx.lit j p K0 fr h
/-- behind an operation: on, or a cut -/
def Cx.cutO (cx : Cx) (all : Array Oper) (K0 : K) (p i : Nat) (fr : Fr) (h : H) (k : Fr → H → R) : R :=
  match cx.lit.oc p i with
  | none => k fr h
  | some l => cx.go (.ops all (i + 1)) p K0 (Go.Abs.mk (l.map fun j => (j, fr j))) h
def noFr : Fr := fun _ => .any
/-- p: the region's place; i: the first operation's number -/
def Cx.ops (cx : Cx) (all : Array Oper) (K0 : K) (p : Nat) : Nat → List Oper → Fr → H → R
  | _, [], fr, h => K0 .normal fr h
  | i, o :: rest, fr, h =>
    if okDst cx.N o.dst then
      let go (fr : Fr) : R := cx.exec o fr h (fun v h => cx.cutO all K0 p i (put fr o.dst v) h (cx.ops all K0 p (i + 1) rest)) (fun v h => K0 (.pan v) fr h)
      let no (fr : Fr) : R := cx.ops all K0 p (i + 1) rest (put fr o.dst .un) h
      match o.guard with
      | none => go fr
      | some (j, want) =>
        match dstOf all j with
        | none => no fr
        | some d =>
          match fr d with
          | .f (.s (.bool b)) => if b = want then go (upd fr d (B want)) else no (upd fr d (B (!want)))
          | .un => no fr
          | _ => none
    else none

/-! ### regions of open order: each order comes to what the canonical one comes to -/
/-- what an operation reads of the heap; what it may change: some objects, and those from n on -/
inductive Foot where
  | rd (l : List Nat)
  | rdAll
  | wr (l : List Nat) (n : Nat)
  | wrAll
  | ldc (k off n : Nat)     -- these cells alone are read
  | swap (h g : H)          -- the heap h becomes g
  | sto (k : Nat)           -- this object alone is looked at, and written
def objOf : V → List Nat
  | .ref k _ _ _ => [k]
  | .ptr k _ => [k]
  | .mp k => [k]
  | _ => []
def stoFoot (v : V) (n : Nat) : Foot :=
  match v with
  | .ptr k _ => .sto k
  | v => .wr (objOf v) n
/-- how many cells a load looks at -/
def ldSize (P : Program) (t : TypeId) : Nat :=
  match agg? P t with
  | some true => (szOf P t).getD 0
  | _ => 1
def ldFoot (P : Program) (t : TypeId) (a : V) : Foot :=
  match a with
  | .ptr k off => if ldSize P t = 0 then .rd [k] else .ldc k off (ldSize P t)
  | a => .rd (objOf a)
def Cx.foot (cx : Cx) (o : Oper) (fr : Fr) (h : H) : Foot :=
  match o.op with
  | .load t a => ldFoot cx.P t (cx.ev fr a)
  | .lookup _ m _ _ => .rd (objOf (cx.ev fr m))
  | .convert s d x => if newB s d (cx.ev fr x) then .wr (objOf (cx.ev fr x)) h.length else .rd (objOf (cx.ev fr x))
  | .slice _ x _ _ _ => .rd (objOf (cx.ev fr x))
  | .move _ | .assign _ | .pick _ _ _ | .build _ _ | .nilCheck _ | .binOp _ _ _ _ _ | .unOp _ _ _ | .fieldAddr _ _ _ | .field _ _ _ | .indexAddr _ _ _ | .index _ _ _ | .extract _ _ | .makeFunc _ _ _ => .rd []
  | .buildSlice _ _ _ => if cx.lit.ob (o.dst.getD 0) then .wr [] h.length else .rd []
  | .store _ a _ => stoFoot (cx.ev fr a) h.length
  | .mapUpdate _ m _ _ => .wr (objOf (cx.ev fr m)) h.length
  | .mapEntry _ m _ => .wr (objOf (cx.ev fr m)) h.length
  | .entryStore _ m _ _ => .wr (objOf (cx.ev fr m)) h.length
  | .alloc _ | .box _ _ | .makeSlice _ _ _ | .makeMap _ _ => .wr [] h.length
  | .call c => match c.callee with
    | .builtin b => match b, c.args.toList with
      | .len, [x] => .rd (objOf (cx.ev fr x))
      | .append, s :: _ => .wr (objOf (cx.ev fr s)) h.length
      | .max, _ => .rd []
      | .min, _ => .rd []
      | _, _ => .wrAll
    | .value f => match cx.ev fr f with
      | .fn g cap =>
        let args := c.args.toList.map (cx.ev fr) ++ cap
        match cx.po g with
        | .keep => .wrAll
        | .pure => if args.all ripe then .rd [] else .rdAll
        | .give => if args.all ripe then .rd [] else .wrAll
        | .own sh _ _ _ => if (pinOf sh args).isSome then .wr (takesL h sh args ++ givs sh args) h.length else .wr (takesL h (sh.map unpin) args ++ givs (sh.map unpin) args) h.length
      | _ => .wrAll
    | _ => .wrAll
  | _ => .wrAll
mutual
/-- surely the same -/
def sameF : F → F → Bool
  | .s (.int k a), .s (.int k' b) => decide (k = k') && decide (a = b)
  | .s (.bool a), .s (.bool b) => decide (a = b)
  | .s (.string a), .s (.string b) => decide (a = b)
  | .s (.slice none 0 0), .s (.slice none 0 0) => true
  | .s (.pointer none), .s (.pointer none) => true
  | .lst n cs, .lst m ds => decide (n = m) && sameFs cs ds
  | .fp cs, .fp ds => sameFs cs ds
  | _, _ => false
def sameFs : List F → List F → Bool
  | [], [] => true
  | x :: l, y :: m => sameF x y && sameFs l m
  | _, _ => false
end
mutual
def sameV : V → V → Bool
  | .f x, .f y => sameF x y
  | .ref a b c d, .ref a' b' c' d' => decide (a = a') && decide (b = b') && decide (c = c') && decide (d = d')
  | .ptr a b, .ptr a' b' => decide (a = a') && decide (b = b')
  | .mp a, .mp b => decide (a = b)
  | .agg l, .agg m => sameVs l m
  | .tup l, .tup m => sameVs l m
  | .lit a l, .lit b m => decide (a = b) && sameVs l m
  | .un, .un => true
  | _, _ => false
def sameVs : List V → List V → Bool
  | [], [] => true
  | x :: l, y :: m => sameV x y && sameVs l m
  | _, _ => false
end
def sameO : Ob → Ob → Bool
  | .cells l, .cells m => sameVs l m
  | .fz l, .fz m => sameFs l m
  | .dead, .dead => true
  | _, _ => false
/-- what is seen of some cells -/
def view (h : H) (k off n : Nat) : Option Ob :=
  (h[k]?).map fun o => match o with
    | .cells cs => .cells ((cs.drop off).take n)
    | .fz cs => .fz ((cs.drop off).take n)
    | .lent cs => .lent ((cs.drop off).take n)
    | o => o
def sameOO : Option Ob → Option Ob → Bool
  | some a, some b => sameO a b
  | none, none => true
  | _, _ => false
/-- a swap that changes nothing of what is seen -/
noncomputable def sameView (h g : H) (k off n : Nat) : Bool := open Classical in sameOO (view h k off n) (view g k off n) || decide (view h k off n = view g k off n)
noncomputable def sameAt (h g : H) (k : Nat) : Bool := open Classical in sameOO h[k]? g[k]? || decide (h[k]? = g[k]?)
noncomputable def Foot.clash : Foot → Foot → Bool
  | .rd _, .rd _ => false
  | .rd _, .rdAll => false
  | .rdAll, .rd _ => false
  | .rdAll, .rdAll => false
  | .ldc _ _ _, .rd _ => false
  | .ldc _ _ _, .rdAll => false
  | .ldc _ _ _, .ldc _ _ _ => false
  | .rd _, .ldc _ _ _ => false
  | .rdAll, .ldc _ _ _ => false
  | .rd l, .wr m n => l.any fun k => m.contains k || decide (n ≤ k)
  | .wr m n, .rd l => l.any fun k => m.contains k || decide (n ≤ k)
  | .ldc k _ _, .wr m n => m.contains k || decide (n ≤ k)
  | .wr m n, .ldc k _ _ => m.contains k || decide (n ≤ k)
  | .rd l, .wrAll => !l.isEmpty
  | .wrAll, .rd l => !l.isEmpty
  | .rd l, .swap h g => l.any fun k => !sameAt h g k
  | .swap h g, .rd l => l.any fun k => !sameAt h g k
  | .sto k, .sto j => k == j
  | .rd l, .sto k => l.contains k
  | .sto k, .rd l => l.contains k
  | .ldc j _ _, .sto k => j == k
  | .sto k, .ldc j _ _ => j == k
  | .ldc k off n, .swap h g => !sameView h g k off n
  | .swap h g, .ldc k off n => !sameView h g k off n
  | _, _ => true
def onNats : List Nat → (List Nat → R) → R
  | [], k => k []
  | a :: r, k => onNats r fun r => k (a :: r)
def onFoot (f : Foot) (k : Foot → R) : R :=
  match f with
  | .rd l => onNats l fun l => k (.rd l)
  | .rdAll => k .rdAll
  | .wr l n => onNats l fun l => k (.wr l n)
  | .wrAll => k .wrAll
  | .ldc i off n => k (.ldc i off n)
  | .swap h g => k (.swap h g)
  | .sto i => k (.sto i)
/-- of each operation: which must be ahead of it (a number's bits) -/
def maskOf (o : Oper) (acc : List Nat) : Nat := o.after.toList.foldl (fun s e => if Region.binds .any e then s ||| 2 ^ e.on ||| acc.getD e.on 0 else s) 0
def befs : List Oper → List Nat → List Nat
  | [], acc => acc
  | o :: r, acc => befs r (acc ++ [maskOf o acc])
def unord (bef : List Nat) (i : Nat) : List (Nat × Foot) → List Foot
  | [] => []
  | x :: r => if (bef.getD i 0).testBit x.1 then unord bef i r else x.2 :: unord bef i r
noncomputable def nocl (l : List Foot) (f : Foot) : Bool := l.all fun g => !g.clash f
noncomputable def okFoot (bef : List Nat) (i : Nat) (acc : List (Nat × Foot)) (f : Foot) : Bool := nocl (unord bef i acc) f
/-- an operation that surely neither looks at memory nor changes it -/
def quietOp (o : Oper) : Bool :=
  match o.op with
  | .move _ | .assign _ | .pick _ _ _ | .build _ _ | .nilCheck _ | .binOp _ _ _ _ _ | .unOp _ _ _ | .fieldAddr _ _ _ | .field _ _ _ | .indexAddr _ _ _ | .index _ _ _ | .extract _ _ | .makeFunc _ _ _ => true
  | _ => false
/-- is what an operation looks at written by those that are ahead, or behind, alone? do all wait for such as stand ahead? -/
def statOk (all : Array Oper) (bef : List Nat) : Bool :=
  (List.range all.size).all fun i => match all[i]? with
    | none => true
    | some oi => (oi.after.toList.all fun e => !Region.binds .any e || decide (e.on < i)) &&
      (List.range i).all fun j => (bef.getD i 0).testBit j || match all[j]? with
        | none => true
        | some oj => oj.apart all oi
/-- an operation that neither looks at memory nor changes it -/
def quietB (all : Array Oper) (x : Nat) : Bool :=
  match all[x]? with
  | some o => (match o.op with
    | .extract _ _ => true
    | _ => false)
  | none => false
/-- a new variable, before which nothing must stand, and behind all of which what uses it stands: it may be made as late as one likes -/
def lateB (all : Array Oper) (bef : List Nat) (i : Nat) : Bool :=
  match all[i]? with
  | some o => (match o.op with
    | .alloc _ => true
    | .makeMap _ none => true
    | _ => false) && o.guard.isNone && o.dst.isSome && decide (bef.getD i 0 = 0) &&
    (List.range all.size).all fun j => decide (j ≤ i) || !(bef.getD j 0).testBit i || (List.range i).all fun x => (bef.getD j 0).testBit x || quietB all x
  | none => false
/-- the call of a function that keeps the heap as it leaves it -/
def Cx.keeps (cx : Cx) (o : Oper) (fr : Fr) : Bool :=
  match o.op with
  | .call c => match c.callee with
    | .value f => match cx.ev fr f with
      | .fn g _ => match cx.po g with
        | .keep => true
        | _ => false
      | _ => false
    | _ => false
  | _ => false
/-- likewise, when it is done -/
def Cx.footP (cx : Cx) (o : Oper) (fr : Fr) (h h1 : H) : Foot := if cx.keeps o fr then .swap h h1 else cx.foot o fr h
def Foot.reads : Foot → Bool
  | .rd _ => true
  | .rdAll => true
  | .ldc _ _ _ => true
  | _ => false
def allReads : List Foot → Bool
  | [] => true
  | f :: l => f.reads && allReads l
/-- may an operation end it all? What is behind it in the row waits for it; what is ahead of it and need not be only looks; nothing is late -/
def panOk (all : Array Oper) (bef : List Nat) (i : Nat) (acc : List (Nat × Foot)) : Bool :=
  ((List.range all.size).all fun j => decide (j ≤ i) || (bef.getD j 0).testBit i) && ((List.range i).all fun j => !lateB all bef j) && allReads (unord bef i acc)
noncomputable def Cx.opsD (cx : Cx) (all : Array Oper) (bef : List Nat) (K0 : K) : Nat → List Oper → List (Nat × Foot) → Fr → H → R
  | _, [], _, fr, h => K0 .normal fr h
  | i, o :: rest, acc, fr, h =>
    if okDst cx.N o.dst then
      let go (fr : Fr) : R := if quietOp o then cx.exec o fr h (fun v h => cx.opsD all bef K0 (i + 1) rest acc (put fr o.dst v) h) (fun _ _ => none)
        else cx.exec o fr h (fun v h1 => onFoot (cx.footP o fr h h1) fun f => if okFoot bef i acc f || lateB all bef i then cx.opsD all bef K0 (i + 1) rest ((i, f) :: acc) (put fr o.dst v) h1 else none)
          (fun v h1 => if panOk all bef i acc then K0 (.pan v) noFr h1 else none)
      let no (fr : Fr) : R := cx.opsD all bef K0 (i + 1) rest acc (put fr o.dst .un) h
      match o.guard with
      | none => go fr
      | some (j, want) =>
        match dstOf all j with
        | none => no fr
        | some d =>
          match fr d with
          | .f (.s (.bool b)) => if b = want then go (upd fr d (B want)) else no (upd fr d (B (!want)))
          | .un => no fr
          | _ => none
    else none
/-- operations in this order -/
def Cx.opsP (cx : Cx) (K0 : K) : List Oper → Fr → H → R
  | [], fr, h => K0 .normal fr h
  | o :: rest, fr, h => if okDst cx.N o.dst && o.guard.isNone then cx.exec o fr h (fun v h => cx.opsP K0 rest (put fr o.dst v) h) (fun _ _ => none) else none
def sameH : H → H → Bool
  | [], [] => true
  | x :: l, y :: m => sameO x y && sameH l m
  | _, _ => false
def sameR : Out × H → Out × H → Bool
  | (.ret v, h), (.ret u, g) => sameV v u && sameH h g
  | _, _ => false
/-- both come to the same -/
noncomputable def both (a b : R) : R := open Classical in match a, b with
  | some x, some y => if sameR x y = true then some x else if x = y then some x else none
  | _, _ => none
def isRdy (all : Array Oper) (l : List Bool) (r : List Nat) : Bool := decide (Region.ready .any all l.toArray = r)
/-- four operations, of which two may stand in either order -/
def twoWay (all : Array Oper) : Bool :=
  isRdy all [false, false, false, false] [0] && isRdy all [true, false, false, false] [1, 2] && isRdy all [true, true, false, false] [2] && isRdy all [true, false, true, false] [1] &&
  isRdy all [true, true, true, false] [3] && isRdy all [true, true, true, true] []
noncomputable def Cx.draw (cx : Cx) (all : Array Oper) (K0 : K) (fr : Fr) (h : H) : R :=
  if cx.P.follows .mixedOrders then
    if all.size == 4 && twoWay all then
      match all.toList with
      | [a, b, c, d] => both (cx.opsP K0 [a, b, c, d] fr h) (cx.opsP K0 [a, c, b, d] fr h)
      | _ => none
    else if statOk all (befs all.toList []) then cx.opsD all (befs all.toList []) K0 0 all.toList [] fr h else none
  else none

def thenK (cx : Cx) (p : Nat) (b : Code) (go : Fr → H → R) (K0 : K) : K := fun e fr h =>
  match e with
  | .normal => cut cx.an p fr h go (cx.go (.code b) p K0)
  | e => K0 e fr h
def blockK (id : Nat) (K0 : K) : K := fun e fr h =>
  match e with
  | .exit i => if i = id then K0 .normal fr h else K0 (.exit i) fr h
  | e => K0 e fr h
def loopK (cx : Cx) (p : Nat) (b : Code) (K0 : K) : K := fun e fr h =>
  match e with
  | .normal => cut cx.an p fr h (cx.go (.loop b) p K0) (cx.go (.loop b) p K0)
  | e => K0 e fr h

/-- Code at the place p of its function (the root is 1; left 2 p, right 2 p + 1). -/
noncomputable def code (cx : Cx) : Code → Nat → K → Fr → H → R
  | .skip, _, K0, fr, h => K0 .normal fr h
  | .region _ all draw, p, K0, fr, h => if draw then cx.draw all K0 fr h else cx.ops all K0 p 0 all.toList fr h
  | .seq a b, p, K0, fr, h => code cx a (2 * p) (thenK cx (2 * p + 1) b (code cx b (2 * p + 1) K0) K0) fr h
  | .cond c a b, p, K0, fr, h =>
    match cx.ev fr c with
    | .tf => both (cut cx.an (2 * p) fr h (code cx a (2 * p) K0) (cx.go (.code a) (2 * p) K0)) (cut cx.an (2 * p + 1) fr h (code cx b (2 * p + 1) K0) (cx.go (.code b) (2 * p + 1) K0))
    | v => (V.bool? v).bind fun q =>
      if q then cut cx.an (2 * p) fr h (code cx a (2 * p) K0) (cx.go (.code a) (2 * p) K0) else cut cx.an (2 * p + 1) fr h (code cx b (2 * p + 1) K0) (cx.go (.code b) (2 * p + 1) K0)
  | .block id b, p, K0, fr, h => code cx b (2 * p) (blockK id K0) fr h
  | .loop b, p, K0, fr, h => cut cx.an p fr h (cx.go (.loop b) p K0) (cx.go (.loop b) p K0)
  | .exit id, _, K0, fr, h => K0 (.exit id) fr h
  | .ret, _, K0, fr, h => K0 .ret fr h
  | _, _, _, _, _ => none

structure Fann where
  pol : Pol
  cuts : Ann
  lit : Fx
/-- where the heap stays, all cuts are raw; where there is a pointer ahead, it is pinned down -/
def Fann.an (a : Fann) (pin : Bool) : Ann :=
  match a.pol with
  | .pure => a.cuts
  | .give => a.cuts
  | .keep => fun p => (a.cuts p).bind fun l => if isRaw l then some l else none
  | .own _ _ _ _ => fun p => (a.cuts p).bind fun l => if pin then (if isRaw l || headPin l then some l else none) else some (l.map fun x => (x.1, unpin x.2))
/-- no slice, no pointer in it -/
def scalF : F → Bool
  | .s (.slice ..) => false
  | .s _ => true
  | _ => false
def scal : V → Bool
  | .f x => scalF x
  | .agg cs => cs.all fun v => match v with | .f x => scalF x | _ => false
  | .tup cs => cs.all fun v => match v with
    | .f x => scalF x
    | .agg cs => cs.all fun v => match v with | .f x => scalF x | _ => false
    | _ => false
  | _ => false

def resV (P : Program) (fr : Fr) (h : H) (kk : V → R) : List ResultVar → List V → R
  | [], acc => match acc with
    | [v] => kk v
    | l => kk (.tup l.reverse)
  | .tmp t :: r, acc => resV P fr h kk r (fr t :: acc)
  | .cell a t :: r, acc => load P t (fr a) h fun v => resV P fr h kk r (v :: acc)
/-- 'all': nothing owned was handed in -/
def finP (P : Program) (fn : Func) : K := fun e fr h =>
  let fin : R := resV P fr h (fun v => frzResK h v fun v => some (.ret v, [])) fn.results.toList []
  match e with
  | .normal => fin
  | .ret => fin
  | _ => none
/-- a pure function's answer: the heap is as it was; all: nothing owned was handed in -/
def withH (all : Bool) (h : H) (r : R) : R :=
  match r with
  | some (.ret v, _) => if all || scal v then some (.ret v, h) else none
  | _ => none
def withG (all : Bool) (h : H) (r : R) : R :=
  match r with
  | some (.ret v, _) => if all then some (.ret v, h) else some (.ret v, deadAll h)
  | _ => none
def finH (P : Program) (fn : Func) : K := fun e fr h =>
  let fin : R := resV P fr h (fun v => some (.ret v, h)) fn.results.toList []
  match e with
  | .normal => fin
  | .ret => fin
  | .pan v => some (.pan v, h)
  | .exit _ => none
def ones (n : Nat) (l : List V) : V := if n = 1 then l.headD .any else .tup l
def unones (n : Nat) (v : V) : Option (List V) :=
  if n = 1 then some [v] else match v with
    | .tup l => some l
    | _ => none
/-- what is handed back: object 0, where it was handed in; results -/
def nrm1 : V → V
  | .agg cs => .agg (cs.map nrmV)
  | v => nrmV v
def nrmBy : List Sh → List V → List V
  | .val :: l, v :: r => nrm1 v :: nrmBy l r
  | _ :: l, v :: r => v :: nrmBy l r
  | _, r => r
def back (h : H) (rs : List Sh) (pin : Option (List Sh)) (v : V) : R :=
  (unones rs.length v).bind fun vs =>
  let vs := nrmBy rs vs
  match pin with
  | none =>
    let tk := takesL h rs vs
    canonsK h (kill tk 0 (noLent h)) tk rs vs [] [] fun us nh _ => if nh.any Ob.isLent then none else some (.ret (ones rs.length us), nh)
  | some l =>
    let tk := takes h (.pin l) (.ptr 0 0) ++ takesL h rs vs
    canonsK h (kill tk 0 (noLent h)) tk (.pin l :: rs) (.ptr 0 0 :: vs) [] [] fun us nh _ => if nh.any Ob.isLent then none else some (.ret (ones rs.length (us.drop 1)), nh)
def finO (P : Program) (fn : Func) (rs : List Sh) (pin : Option (List Sh)) : K := fun e fr h =>
  let fin : R := resV P fr h (fun v => back h rs pin v) fn.results.toList []
  match e with
  | .normal => fin
  | .ret => fin
  | _ => none
/-- into the caller's heap: object 0 to where it was (pin), the others behind -/
def reId (n : Nat) (pin : Option Nat) (j : Nat) : Nat :=
  match pin with
  | none => n + j
  | some k => if j = 0 then k else n + (j - 1)
mutual
def ren (m : Nat → Nat) : V → V
  | .ref k off n es => .ref (m k) off n es
  | .ptr k off => .ptr (m k) off
  | .mp k => .mp (m k)
  | .fn f cap => .fn f (rens m cap)
  | .agg cs => .agg (rens m cs)
  | .tup cs => .tup (rens m cs)
  | .lit n cs => .lit n (rens m cs)
  | .f x => .f x
  | .un => .un
  | .any => .any
  | .tf => .tf
def rens (m : Nat → Nat) : List V → List V
  | [] => []
  | v :: l => ren m v :: rens m l
end
def renO (m : Nat → Nat) : Ob → Ob
  | .cells cs => .cells (rens m cs)
  | o => o
def graft (h : H) (pin : Option Nat) (r : R) : R :=
  r.bind fun x =>
    match x with
    | (.ret v, g) =>
      match pin, g with
      | none, g => some (.ret (ren (reId h.length none) v), h ++ g.map (renO (reId h.length none)))
      | some k, o :: g => some (.ret (ren (reId h.length (some k)) v), h.set k (renO (reId h.length (some k)) o) ++ g.map (renO (reId h.length (some k))))
      | _, _ => none
    | _ => none
def entry (args : List V) : Fr := fun i => args.getD i .un

/-- one level of calls, of loops -/
noncomputable def core (P : Program) (an : FuncId → Fann) (po : FuncId → Pol) (call : CallF) (L : LF) (f : FuncId) (fn : Func) (c : Code) (rs : List Sh) (pin : Option (List Sh)) (args : List V) (h : H) : R :=
  let cx : Cx := { P, N := fn.ntmps, an := (an f).an pin.isSome, lit := (an f).lit, call, L, po }
  code cx c 1 (finO P fn rs pin) (entry args) h
/-- a function that defers a closure, once, ahead of what else it does -/
def dfrOf (c : Code) : Option (Code × FuncId × Array Operand × Nat × Code) :=
  match c with
  | .seq r0 (.seq (.region _ ops false) rest) =>
    match ops.toList with
    | [⟨some d, .makeFunc (.func g) first caps, _, _, _, none⟩, ⟨none, .defer ⟨.value (.tmp d'), args, _⟩, _, _, _, none⟩] => if first.size = 0 ∧ args.size = 0 ∧ d' = d then some (r0, g, caps, d, rest) else none
    | _ => none
  | _ => none
/-- a closure that recovers first of all -/
def hdlOf (P : Program) (g : FuncId) : Option (Func × Nat × Code) :=
  (P.funcs[g]?).bind fun fg =>
    match fg.body with
    | some (.seq (.region _ ops false) rest) =>
      match ops.toList with
      | [⟨some d, .call ⟨.builtin .recover, args, _⟩, _, _, _, none⟩] => if args.size = 0 ∧ (fg.name == "runtime.NumGoroutine") = false then some (fg, d, rest) else none
      | _ => none
    | _ => none
/-- the deferred closure: x is what it recovers -/
noncomputable def hdl (P : Program) (an : FuncId → Fann) (po : FuncId → Pol) (call : CallF) (L : LF) (g : FuncId) (caps : List V) (x : Value) (h : H) (k : H → R) : R :=
  match hdlOf P g with
  | none => none
  | some (fg, d, cg) =>
    match (an g).pol with
    | .keep =>
      if caps.length ≤ fg.ntmps ∧ d < fg.ntmps ∧ fg.results.size = 0 then
        code { P, N := fg.ntmps, an := (an g).an false, lit := (an g).lit, call, L, po } cg 3 (fun e _ h => match e with
          | .normal => k h
          | .ret => k h
          | _ => none) (upd (entry caps) d (.f (.s x))) h
      else none
    | _ => none
noncomputable def dfrK (P : Program) (an : FuncId → Fann) (po : FuncId → Pol) (call : CallF) (L : LF) (fn : Func) (g : FuncId) (caps : List V) : K := fun e fr h =>
  match e with
  | .normal => hdl P an po call L g caps .nilIface h fun h => finH P fn .ret fr h
  | .ret => hdl P an po call L g caps .nilIface h fun h => finH P fn .ret fr h
  | .pan (.f (.s (.iface t x))) => hdl P an po call L g caps (.iface t x) h fun h => finH P fn .ret fr h
  | _ => none
noncomputable def keepF (P : Program) (an : FuncId → Fann) (po : FuncId → Pol) (call : CallF) (L : LF) (f : FuncId) (fn : Func) (c : Code) (args : List V) (h : H) : R :=
  let cx : Cx := { P, N := fn.ntmps, an := (an f).an false, lit := (an f).lit, call, L, po }
  match dfrOf c with
  | none => code cx c 1 (finH P fn) (entry args) h
  | some (r0, g, caps, d, rest) =>
    code cx r0 2 (fun e fr h => match e with
      | .normal => if d < fn.ntmps then code cx rest 7 (dfrK P an po call L fn g (caps.toList.map (cx.ev fr))) (upd fr d (.fn g (caps.toList.map (cx.ev fr)))) h else none
      | _ => none) (entry args) h
noncomputable def runF (P : Program) (an : FuncId → Fann) (po : FuncId → Pol) (ext : FuncId → Option (List V → H → R)) (call : CallF) (L : LF) : CallF := fun f args h =>
  match ext f with
  | some e => e args h
  | none => match P.funcs[f]? with
    | none => none
    | some fn => match fn.body with
      | none => none
      | some c =>
        if fn.name == "runtime.NumGoroutine" then none else
        if args.length ≤ fn.ntmps then
          match (an f).pol with
          | .keep => keepF P an po call L f fn c args h
          | .pure =>
            let cx : Cx := { P, N := fn.ntmps, an := (an f).an false, lit := (an f).lit, call, L, po }
            frzArgsK h args fun args' => withH (args.all ripe) h (code cx c 1 (finP P fn) (entry args') [])
          | .give =>
            let cx : Cx := { P, N := fn.ntmps, an := (an f).an false, lit := (an f).lit, call, L, po }
            frzArgsK (if args.all ripe then h else noLent h) args fun args' => withG (args.all ripe) h (code cx c 1 (finP P fn) (entry args') [])
          | .own sh rs _ _ =>
            let pin := pinOf sh args
            let sh' := if pin.isSome then sh else sh.map unpin
            let tk := takesL h sh' args
            let gv := givs sh' args
            canonsK h (only gv tk 0 (noLent h)) tk sh' args [] [] fun args' nh _ =>
              graft (kill (tk ++ gv) 0 h) (pin.map (·.2)) (core P an po call L f fn c rs (pin.map (·.1)) args' nh)
        else none
noncomputable def runL (P : Program) (po : FuncId → Pol) (call : CallF) (L : LF) : LF := fun n an lit j p K0 fr h =>
  let cx : Cx := { P, N := n, an, lit, call, L, po }
  match j with
  | .loop b => code cx b (2 * p) (loopK cx p b K0) fr h
  | .code c => code cx c p K0 fr h
  | .ops all i => cx.ops all K0 p i (all.toList.drop i) fr h
structure World0 where
  P : Program
  an : FuncId → Fann
  ext : FuncId → Option (List V → H → R)
/-- who is called how; contracts from elsewhere keep the heap's form to themselves -/
def World0.po (w : World0) (f : FuncId) : Pol := if (w.ext f).isSome then .keep else (w.an f).pol
noncomputable def lvl (w : World0) : Nat → CallF × LF
  | 0 => (fun _ _ _ => none, fun _ _ _ _ _ _ _ _ => none)
  | n + 1 => (runF w.P w.an w.po w.ext (lvl w n).1 (lvl w n).2, runL w.P w.po (lvl w n).1 (lvl w n).2)
/-- what comes out at some level -/
noncomputable def lim {α : Type} (f : Nat → Option α) : Option α := open Classical in if h : ∃ n, (f n).isSome then f h.choose else none
noncomputable def run (w : World0) : CallF := fun f args h => lim fun n => (lvl w n).1 f args h
noncomputable def runLoop (w : World0) : LF := fun N an lit j p K0 fr h => lim fun n => (lvl w n).2 N an lit j p K0 fr h

end Go.Abs
