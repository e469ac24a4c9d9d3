import Derived.Test.YtemnahkpffafoaaDoorPackSpec2
set_option autoImplicit false
namespace Go.Proofs.YtemnahkpffafoaaDoor
open Go Go.Abs
def lenB : Nat := 1000000000000
def ReadsP {α : Type} (f : FuncId) (xs : List V) (l : List UInt8) (p : Rd α) (toV : α → V) : Prop :=
 ∀ ⦃h : H⦄ ⦃k a e : Nat⦄ ⦃v a' e'⦄, h[k]? = some (rdr l a e) → a ≤ l.length → p a e = (v, a', e') → run w0 f (.ptr k 0 :: xs) h = some (.ret (toV v), h.set k (rdr l a' e'))
def ReadsA {α : Type} (f : FuncId) (xs : List V) (l : List UInt8) (p : Rd α) (toV : α → V) : Prop :=
 ∀ ⦃h : H⦄ ⦃k a e : Nat⦄ ⦃v a' e'⦄, h[k]? = some (rdr l a e) → a ≤ l.length → p a e = (v, a', e') → run w0 f (.agg [.ptr k 0] :: xs) h = some (.ret (toV v), h.set k (rdr l a' e'))
abbrev intV (n : Nat) : V := N .i64 (n : Int)
abbrev lstV (l : List Int) : V := .f (.lst l.length (kF .i64 l))
abbrev bodyV (l : List MStmt) : V := .f (.lst l.length (stmtsF l))
abbrev refVV (r : MRef) : V := .agg (refV r)
theorem ReadsP.of {α : Type} {f : FuncId} {fn : Func} {sh : List Sh} {xs : List V} {l : List UInt8} {p : Rd α} {toV : α → V} (ho : OwnFn w0 f fn (.pin [.val, .val, .val] :: sh) [.val]) (hn : xs.length + 1 ≤ fn.ntmps) (hv : vals sh xs = true) (hr : ∀ v m, ren m (toV v) = toV v)
  (hc : ∀ a e v a' e', a ≤ l.length → p a e = (v, a', e') → coreOf w0 f fn [.val] (some [.val, .val, .val]) (.ptr 0 0 :: xs) [rdr l a e] = some (.ret (toV v), [rdr l a' e'])) : ReadsP f xs l p toV := by
 intro h k a e v a' e' hk ha hp
 rw [call_pin ho hk rfl hn hv]
 have hc' := hc a e v a' e' ha hp
 unfold rdr at hc' ⊢
 rw [hc', graft_pin _ _ _ _ (hr v) (fun m => rfl)]
 simp
theorem ReadsA.of {α : Type} {f : FuncId} {fn : Func} {sh : List Sh} {xs : List V} {l : List UInt8} {p : Rd α} {toV : α → V} (ho : OwnFn w0 f fn (.apin [.val, .val, .val] :: sh) [.val]) (hn : xs.length + 1 ≤ fn.ntmps) (hv : vals sh xs = true) (hr : ∀ v m, ren m (toV v) = toV v)
  (hc : ∀ a e v a' e', a ≤ l.length → p a e = (v, a', e') → coreOf w0 f fn [.val] (some [.val, .val, .val]) (.agg [.ptr 0 0] :: xs) [rdr l a e] = some (.ret (toV v), [rdr l a' e'])) : ReadsA f xs l p toV := by
 intro h k a e v a' e' hk ha hp
 rw [call_apin ho hk rfl hn hv]
 have hc' := hc a e v a' e' ha hp
 unfold rdr at hc' ⊢
 rw [hc', graft_pin _ _ _ _ (hr v) (fun m => rfl)]
 simp
theorem ReadsP.goI {f : FuncId} {xs : List V} {l : List UInt8} {p : Rd Nat} (r : ReadsP f xs l p intV) {a e : Nat} {v a' e' : Nat} (ha : a ≤ l.length) (hp : p a e = (v, a', e')) {rest : H} {L : Nat} (hL : rest.length + 1 = L) (K : F → Int → Int → Int → R) :
  (pO (run w0 f (.ptr 0 0 :: xs) (.cells [.f (.lst l.length (bF l)), N .i64 (a : Int), N .i64 (e : Int)] :: rest)) fun v g => (asCells g 0).bind fun l4 => (l4[0]?).bind fun v5 => (V.f? v5).bind fun x6 => (l4[1]?).bind fun v7 => (V.int? .i64 v7).bind fun n8 => (l4[2]?).bind fun v9 => (V.int? .i64 v9).bind fun n10 => if l4.length = 3 then (V.int? .i64 v).bind fun n11 => if g.length = L then K x6 n8 n10 n11 else none else none) = K (.lst l.length (bF l)) a' e' v := by
 subst hL
 rw [r (h := .cells [.f (.lst l.length (bF l)), N .i64 (a : Int), N .i64 (e : Int)] :: rest) (k := 0) rfl ha hp, pO_some]
 exact if_pos (show (rdr l a' e' :: rest).length = rest.length + 1 from rfl)
theorem ReadsA.goI {f : FuncId} {xs : List V} {l : List UInt8} {p : Rd Nat} (r : ReadsA f xs l p intV) {a e : Nat} {v a' e' : Nat} (ha : a ≤ l.length) (hp : p a e = (v, a', e')) {rest : H} {L : Nat} (hL : rest.length + 1 = L) (K : F → Int → Int → Int → R) :
  (pO (run w0 f (.agg [.ptr 0 0] :: xs) (.cells [.f (.lst l.length (bF l)), N .i64 (a : Int), N .i64 (e : Int)] :: rest)) fun v g => (asCells g 0).bind fun l4 => (l4[0]?).bind fun v5 => (V.f? v5).bind fun x6 => (l4[1]?).bind fun v7 => (V.int? .i64 v7).bind fun n8 => (l4[2]?).bind fun v9 => (V.int? .i64 v9).bind fun n10 => if l4.length = 3 then (V.int? .i64 v).bind fun n11 => if g.length = L then K x6 n8 n10 n11 else none else none) = K (.lst l.length (bF l)) a' e' v := by
 subst hL
 rw [r (h := .cells [.f (.lst l.length (bF l)), N .i64 (a : Int), N .i64 (e : Int)] :: rest) (k := 0) rfl ha hp, pO_some]
 exact if_pos (show (rdr l a' e' :: rest).length = rest.length + 1 from rfl)
theorem ReadsP.goS {f : FuncId} {xs : List V} {l : List UInt8} {p : Rd ByteArray} (r : ReadsP f xs l p S) {a e : Nat} {v : ByteArray} {a' e' : Nat} (ha : a ≤ l.length) (hp : p a e = (v, a', e')) {rest : H} {L : Nat} (hL : rest.length + 1 = L) (K : F → Int → Int → ByteArray → R) :
  (pO (run w0 f (.ptr 0 0 :: xs) (.cells [.f (.lst l.length (bF l)), N .i64 (a : Int), N .i64 (e : Int)] :: rest)) fun v g => (asCells g 0).bind fun l4 => (l4[0]?).bind fun v5 => (V.f? v5).bind fun x6 => (l4[1]?).bind fun v7 => (V.int? .i64 v7).bind fun n8 => (l4[2]?).bind fun v9 => (V.int? .i64 v9).bind fun n10 => if l4.length = 3 then (V.str? v).bind fun n11 => if g.length = L then K x6 n8 n10 n11 else none else none) = K (.lst l.length (bF l)) a' e' v := by
 subst hL
 rw [r (h := .cells [.f (.lst l.length (bF l)), N .i64 (a : Int), N .i64 (e : Int)] :: rest) (k := 0) rfl ha hp, pO_some]
 exact if_pos (show (rdr l a' e' :: rest).length = rest.length + 1 from rfl)
theorem ReadsA.goL {α : Type} {f : FuncId} {xs : List V} {l : List UInt8} {p : Rd α} {m : α → Nat} {c : α → List F} (r : ReadsA f xs l p (fun v => .f (.lst (m v) (c v)))) {a e : Nat} {v : α} {a' e' : Nat} (ha : a ≤ l.length) (hp : p a e = (v, a', e')) {rest : H} {L : Nat} (hL : rest.length + 1 = L) (K : F → Int → Int → (Nat × List F) → R) :
  (pO (run w0 f (.agg [.ptr 0 0] :: xs) (.cells [.f (.lst l.length (bF l)), N .i64 (a : Int), N .i64 (e : Int)] :: rest)) fun v g => (asCells g 0).bind fun l4 => (l4[0]?).bind fun v5 => (V.f? v5).bind fun x6 => (l4[1]?).bind fun v7 => (V.int? .i64 v7).bind fun n8 => (l4[2]?).bind fun v9 => (V.int? .i64 v9).bind fun n10 => if l4.length = 3 then (V.lst? v).bind fun n11 => if g.length = L then K x6 n8 n10 n11 else none else none) = K (.lst l.length (bF l)) a' e' (m v, c v) := by
 subst hL
 rw [r (h := .cells [.f (.lst l.length (bF l)), N .i64 (a : Int), N .i64 (e : Int)] :: rest) (k := 0) rfl ha hp, pO_some]
 exact if_pos (show (rdr l a' e' :: rest).length = rest.length + 1 from rfl)
theorem ReadsA.goR {f : FuncId} {xs : List V} {l : List UInt8} {p : Rd MRef} (r : ReadsA f xs l p refVV) {a e : Nat} {v : MRef} {a' e' : Nat} (ha : a ≤ l.length) (hp : p a e = (v, a', e')) {rest : H} {L : Nat} (hL : rest.length + 1 = L) (K : F → Int → Int → Int → Int → R) :
  (pO (run w0 f (.agg [.ptr 0 0] :: xs) (.cells [.f (.lst l.length (bF l)), N .i64 (a : Int), N .i64 (e : Int)] :: rest)) fun v g => (asCells g 0).bind fun l4 => (l4[0]?).bind fun v5 => (V.f? v5).bind fun x6 => (l4[1]?).bind fun v7 => (V.int? .i64 v7).bind fun n8 => (l4[2]?).bind fun v9 => (V.int? .i64 v9).bind fun n10 => if l4.length = 3 then (V.agg? v).bind fun l1053 => cI .u8 l1053 0 fun n1054 => cI .i64 l1053 1 fun n1055 => if l1053.length = 2 then if g.length = L then K x6 n8 n10 n1054 n1055 else none else none else none) = K (.lst l.length (bF l)) a' e' v.k v.id := by
 subst hL
 rw [r (h := .cells [.f (.lst l.length (bF l)), N .i64 (a : Int), N .i64 (e : Int)] :: rest) (k := 0) rfl ha hp, pO_some]
 exact if_pos (show (rdr l a' e' :: rest).length = rest.length + 1 from rfl)
theorem own_Int : OwnFn w0 50 Tryd.f50 [.pin [.val, .val, .val], .val] [.val] := ⟨rfl, by kernel_rfl, rfl, by kernel_rfl, _, _, rfl⟩
theorem own_Bytes : OwnFn w0 48 Tryd.f48 [.pin [.val, .val, .val], .val] [.val] := ⟨rfl, by kernel_rfl, rfl, by kernel_rfl, _, _, rfl⟩
theorem own_prcount : OwnFn w0 47 Tryd.f47 [.apin [.val, .val, .val]] [.val] := ⟨rfl, by kernel_rfl, rfl, by kernel_rfl, _, _, rfl⟩
theorem own_prlist : OwnFn w0 49 Tryd.f49 [.apin [.val, .val, .val]] [.val] := ⟨rfl, by kernel_rfl, rfl, by kernel_rfl, _, _, rfl⟩
theorem own_prref : OwnFn w0 66 Tryd.f66 [.apin [.val, .val, .val]] [.val] := ⟨rfl, by kernel_rfl, rfl, by kernel_rfl, _, _, rfl⟩
theorem own_prbody : OwnFn w0 51 Tryd.f51 [.apin [.val, .val, .val], .val] [.val] := ⟨rfl, by kernel_rfl, rfl, by kernel_rfl, _, _, rfl⟩
theorem own_prmodule : OwnFn w0 27 Tryd.f27 [.apin [.val, .val, .val]] [.val] := ⟨rfl, by kernel_rfl, rfl, by kernel_rfl, _, _, rfl⟩
variable {l : List UInt8}
theorem Int_reads (hl : l.length ≤ lenB) (most : Nat) (hm : most < 9223372036854775808) : ReadsP 50 [N .i64 (most : Int)] l (pInt most l) intV := by
 refine ReadsP.of own_Int (of_decide_eq_true (by kernel_rfl)) rfl (fun _ _ => rfl) fun a e v a' e' ha hp => ?_
 unfold lenB at hl
 have ec : coreOf w0 50 Tryd.f50 [.val] (some [.val, .val, .val]) [.ptr 0 0, N .i64 (most : Int)] [rdr l a e] = Int_0 (.lst l.length (bF l)) a e most := rfl
 rw [ec, Int_eq]
 have hw : IntKind.wrap .u64 (if (0 : Int) > (most : Int) then 0 else (most : Int)) = ((most : Nat) : Int) := by
  rw [if_neg (by omega), wrap_u64_in (by omega) (by omega)]
 rw [hw]
 have hv := pInt_most hp
 have hN := Num_at (h := [.cells [.f (.lst l.length (bF l)), N .i64 (a : Int), N .i64 (e : Int)]]) (k := 0) rfl (by omega) ha most
 have hx : (match (if e ≠ 0 then (0, 0, e) else rdN most (l.drop a) 0 0) with | (v, c, f) => some (Out.ret (N .u64 v), [rdr l (a + c) f])) = (some (Out.ret (N .u64 (v : Int)), [rdr l a' e']) : R) := by
  unfold pInt at hp
  by_cases he : e ≠ 0
  ·rw [if_pos he] at hp ⊢
   cases hp; rfl
  ·rw [if_neg he] at hp ⊢
   rcases hq : rdN most (l.drop a) 0 0 with ⟨v0, c, f⟩
   rw [hq] at hp
   cases hp; rfl
 have hN' := hN.trans (show _ = (some (Out.ret (N .u64 (v : Int)), [rdr l a' e']) : R) from hx)
 rw [hN', pO_some]
 show (if ([rdr l a' e'] : H).length = 1 then some (Out.ret (N .i64 (IntKind.wrap .i64 (v : Int))), [rdr l a' e']) else none) = _
 rw [wrap_i64 (by omega) (by omega)]
 rfl
theorem prcount_reads (hl : l.length ≤ lenB) : ReadsA 47 [] l (pCount l) intV := by
 refine ReadsA.of own_prcount (of_decide_eq_true (by kernel_rfl)) rfl (fun _ _ => rfl) fun a e v a' e' ha hp => ?_
 have hI : ReadsP 50 [N .i64 1048576] l (pInt 1048576 l) intV := Int_reads hl 1048576 (by omega)
 unfold lenB at hl
 have ec : coreOf w0 47 Tryd.f47 [.val] (some [.val, .val, .val]) [.agg [.ptr 0 0]] [rdr l a e] = prcount_0 (.lst l.length (bF l)) a e := rfl
 unfold pCount at hp
 rcases hq : pInt 1048576 l a e with ⟨n, a1, e1⟩
 rw [hq] at hp
 dsimp only at hp
 obtain ⟨p1, p2, p3, p4⟩ := pInt_ok 1048576 ha hq
 rw [ec, prcount_eq, hI.goI ha hq (rest := [.cells [.ptr 0 0]]) (L := 2) rfl]
 have hL : run w0 53 [.ptr 0 0] [.cells [.f (.lst l.length (bF l)), N .i64 (a1 : Int), N .i64 (e1 : Int)], .cells [.ptr 0 0]] = some (.ret (I ((l.length : Int) - a1)), [.cells [.f (.lst l.length (bF l)), N .i64 (a1 : Int), N .i64 (e1 : Int)], .cells [.ptr 0 0]]) := by
  rw [Left_p0_c3c1, Left_eq]
  have : F.sl? (frzF (.lst l.length (bF l))) = some (l.length, bF l) := rfl
  rw [this]
  simp only [Option.bind_some]
  rw [wrap_i64 (by omega) (by omega)]
  exact withH_scal _ _ _ _ rfl
 rw [hL, pI_some]
 by_cases hn : l.length - a1 < n
 ·rw [if_pos hn] at hp
  cases hp
  rw [if_pos (decide_eq_true (by omega)), show (3 : Int) = ((3 : Nat) : Int) from rfl, Fail_at (h := [.cells [.f (.lst l.length (bF l)), N .i64 (a' : Int), N .i64 (e1 : Int)], .cells [.ptr 0 0]]) (k := 0) rfl, pO_some]
  rfl
 ·rw [if_neg hn] at hp
  cases hp
  rw [if_neg (by simp; omega)]
  rfl
theorem keepC {c : List F} {m w : Nat} (hc : c.length = m * w) {x : R} : (if 0 + (m * w) ≤ c.length then x else none) = x := if_pos (by omega)
theorem takeC {c : List F} {m w : Nat} (hc : c.length = m * w) : (c.drop 0).take (m * w) = c := by rw [List.drop_zero, List.take_of_length_le (by omega)]
theorem growC {c y : List F} {m w : Nat} (hc : c.length = m * w) (hy : y.length = w) {K : List F → R} : (if 0 + (m * w) ≤ c.length then if 0 + ((m + 1) * w) ≤ (((c.drop 0).take (m * w)) ++ y).length then K (((((c.drop 0).take (m * w)) ++ y).drop 0).take ((m + 1) * w)) else none else none) = K (c ++ y) := by
 have : (m + 1) * w = m * w + w := Nat.succ_mul m w
 rw [keepC hc, takeC hc, if_pos (by rw [List.length_append]; omega), List.drop_zero, List.take_of_length_le (by rw [List.length_append]; omega)]
theorem prref_reads (hl : l.length ≤ lenB) : ReadsA 66 [] l (pRef l) refVV := by
 refine ReadsA.of own_prref (of_decide_eq_true (by kernel_rfl)) rfl (fun _ _ => rfl) fun a e v a' e' ha hp => ?_
 have hI : ReadsP 50 [N .i64 1048576] l (pInt 1048576 l) intV := Int_reads hl 1048576 (by omega)
 have ec : coreOf w0 66 Tryd.f66 [.val] (some [.val, .val, .val]) [.agg [.ptr 0 0]] [rdr l a e] = prref_0 (.lst l.length (bF l)) a e := rfl
 unfold pRef at hp
 rcases hq : pInt 1048576 l a e with ⟨n, a1, e1⟩
 rw [hq] at hp
 cases hp
 have hv := pInt_most hq
 rw [ec, prref_eq, hI.goI ha hq (rest := [.cells [.ptr 0 0], .cells [N .u8 0, N .i64 0]]) (L := 3) rfl]
 have ht : Int.tdiv (n : Int) 4 = ((n / 4 : Nat) : Int) := rfl
 have hm : Int.tmod (n : Int) 4 = ((n % 4 : Nat) : Int) := rfl
 rw [ht, hm]
 unfold refOf
 by_cases h0 : n = 0
 ·rw [if_pos h0, if_pos (by simp [h0])]
  rfl
 ·rw [if_neg h0, if_neg (by simp; omega)]
  by_cases h4 : n % 4 = 0
  ·rw [if_pos h4, if_pos (by simp [h4]), wrap_i64 (n := ((n / 4 : Nat) : Int)) (by omega) (by omega), wrap_i64 (by omega) (by omega)]
   rfl
  ·rw [if_neg h4, if_neg (by simp; omega), wrap_i64 (n := ((n / 4 : Nat) : Int)) (by omega) (by omega), wrap_u8_in (n := ((n % 4 : Nat) : Int)) (by omega) (by omega)]
   rfl
theorem Text_reads (hl : l.length ≤ lenB) : ReadsP 48 [N .i64 40] l (pText l) S := by
 refine ReadsP.of own_Bytes (of_decide_eq_true (by kernel_rfl)) rfl (fun _ _ => rfl) fun a e v a' e' ha hp => ?_
 have hI : ReadsP 50 [N .i64 40] l (pInt 40 l) intV := Int_reads hl 40 (by omega)
 unfold lenB at hl
 have ec : coreOf w0 48 Tryd.f48 [.val] (some [.val, .val, .val]) [.ptr 0 0, N .i64 40] [rdr l a e] = Bytes_0 (.lst l.length (bF l)) a e 40 := rfl
 unfold pText at hp
 rcases hq : pInt 40 l a e with ⟨n, a1, e1⟩
 rw [hq] at hp
 dsimp only at hp
 obtain ⟨p1, p2, p3, p4⟩ := pInt_ok 40 ha hq
 have hv := pInt_most hq
 rw [ec, Bytes_eq, hI.goI ha hq (rest := []) (L := 1) rfl, Fault_p _ _ _ (Fault_p0_c3 ..), pI_some]
 by_cases he : e1 ≠ 0
 ·rw [if_pos he] at hp
  cases hp
  rw [if_pos (by simpa using he)]
  rfl
 ·rw [if_neg he] at hp
  have he0 : e1 = 0 := by omega
  subst he0
  rw [if_neg (by simp)]
  have hs : F.sl? (.lst l.length (bF l)) = some (l.length, bF l) := rfl
  simp only [hs, Option.bind_some]
  rw [wrap_i64 (n := ((l.length : Nat) : Int) - (a1 : Int)) (by omega) (by omega)]
  by_cases hn : l.length - a1 < n
  ·rw [if_pos hn] at hp
   cases hp
   rw [if_pos (decide_eq_true (by omega)), show (3 : Int) = ((3 : Nat) : Int) from rfl, Fail_at (h := [.cells [.f (.lst l.length (bF l)), N .i64 (a' : Int), N .i64 ((0 : Nat) : Int)]]) (k := 0) rfl, pO_some]
   rfl
  ·rw [if_neg hn] at hp
   cases hp
   rw [if_neg (by simp; omega), wrap_i64 (n := (a1 : Int) + (n : Int)) (by omega) (by omega), if_pos (by omega)]
   simp only [Option.bind_some]
   rw [show ((a1 : Int) + (n : Int)).toNat = a1 + n by omega, if_pos (by omega)]
   simp only [Option.bind_some, Int.toNat_natCast, Nat.mul_one]
   have hd : ((bF l).drop a1).take (a1 + n - a1) = bF ((l.drop a1).take n) := by
    rw [show a1 + n - a1 = n by omega]
    simp [bF, List.map_drop, List.map_take]
   rw [hd, if_pos (by simp; omega), strOfF_bF]
   rfl
theorem prlist_loop (hl : l.length ≤ lenB) : ∀ (n : Nat) (acc : List Int) (T a e : Nat) {v a' e'}, acc.length + n = T → T ≤ l.length → a ≤ l.length → pMany (pNum l) n a e = (v, a', e') →
  prlist_1 acc.length T acc.length (.lst l.length (bF l)) a e (kF .i64 acc) = some (.ret (lstV (acc ++ v)), [rdr l a' e'])
 | 0, acc, T, a, e, v, a', e', hN, hNl, ha, hp => by
  rw [pMany] at hp
  cases hp
  rw [prlist_1_eq, if_neg (by simp; omega), keepC (by simp), takeC (by simp), List.append_nil]
  rfl
 | n + 1, acc, T, a, e, v, a', e', hN, hNl, ha, hp => by
  have hI : ReadsP 50 [N .i64 1048576] l (pInt 1048576 l) intV := Int_reads hl 1048576 (by omega)
  rw [pMany] at hp
  dsimp only at hp
  rcases h1 : pNum l a e with ⟨x, a1, e1⟩
  rw [h1] at hp
  rcases h2 : pMany (pNum l) n a1 e1 with ⟨r, a2, e2⟩
  simp only [h2] at hp
  cases hp
  have q := (pNum_ok ha h1).2.1
  unfold pNum at h1
  rcases hq : pInt 1048576 l a e with ⟨k, a3, e3⟩
  rw [hq] at h1
  cases h1
  have next := prlist_loop hl n (acc ++ [(k : Int)]) T a1 e1 (by simp; omega) hNl q h2
  unfold lenB at hl
  rw [prlist_1_eq, if_pos (decide_eq_true (by omega)), hI.goI ha hq (rest := [.cells [.ptr 0 0], .fz (kF .i64 acc)]) (L := 3) rfl, if_pos ⟨rfl, by omega⟩, growC (w := 1) (y := [F.s (.int .i64 (k : Int))]) (by simp) rfl (K := fun c => prlist_1 _ _ _ _ _ _ c)]
  rw [List.append_assoc] at next
  have hc : kF .i64 acc ++ [F.s (.int .i64 (k : Int))] = kF .i64 (acc ++ [(k : Int)]) := by simp [kF]
  rw [hc, show ((acc.length : Nat) : Int) + 1 = ((acc.length + 1 : Nat) : Int) by omega, wrap_i64 (by omega) (by omega)]
  simpa using next
theorem prlist_reads (hl : l.length ≤ lenB) : ReadsA 49 [] l (pSeq l (pNum l)) lstV := by
 refine ReadsA.of own_prlist (of_decide_eq_true (by kernel_rfl)) rfl (fun _ _ => rfl) fun a e v a' e' ha hp => ?_
 have ec : coreOf w0 49 Tryd.f49 [.val] (some [.val, .val, .val]) [.agg [.ptr 0 0]] [rdr l a e] = prlist_0 (.lst l.length (bF l)) a e := rfl
 unfold pSeq at hp
 rcases hq : pCount l a e with ⟨n, a1, e1⟩
 rw [hq] at hp
 dsimp only at hp
 have q := (pCount_ok ha hq).2.1
 have := pCount_le hq
 rw [ec, prlist_eq, (prcount_reads hl).goI ha hq (rest := [.cells [.ptr 0 0]]) (L := 2) rfl]
 exact prlist_loop hl n [] n a1 e1 (by simp) (by omega) q hp
theorem stmtsF_len (b : List MStmt) : (stmtsF b).length = b.length * 7 := flat_len MStmt.F_len b
theorem prbody_args (hl : l.length ≤ lenB) (d : Int) (k : Nat) (acc : List MStmt) (T : Nat) (i : Int) : ∀ (n : Nat) (ar : List MRef) (M a e : Nat) {v a' e'}, ar.length + n = M → M ≤ l.length → a ≤ l.length → pMany (pRef l) n a e = (v, a', e') →
  prbody_2 d acc.length T i M ar.length (.lst l.length (bF l)) a e (stmtsF acc) k 0 0 0 0 ar.length (refsF ar) = prbody_4 d acc.length T i (.lst l.length (bF l)) a' e' (stmtsF acc) k 0 0 0 0 (ar ++ v).length (refsF (ar ++ v))
 | 0, ar, M, a, e, v, a', e', hM, hMl, ha, hp => by
  rw [pMany] at hp
  cases hp
  have hr : (refsF ar).length = ar.length * 2 := flat_len MRef.F_len ar
  rw [prbody_2_eq, if_neg (by simp; omega), keepC (stmtsF_len acc), takeC (stmtsF_len acc), keepC hr, takeC hr, List.append_nil]
 | n + 1, ar, M, a, e, v, a', e', hM, hMl, ha, hp => by
  rw [pMany] at hp
  dsimp only at hp
  rcases h1 : pRef l a e with ⟨x, a1, e1⟩
  rw [h1] at hp
  rcases h2 : pMany (pRef l) n a1 e1 with ⟨r, a2, e2⟩
  simp only [h2] at hp
  cases hp
  have q := (pRef_ok ha h1).2.1
  have hr : (refsF ar).length = ar.length * 2 := flat_len MRef.F_len ar
  have next := prbody_args hl d k acc T i n (ar ++ [x]) M a1 e1 (by simp; omega) hMl q h2
  have hl' := hl
  unfold lenB at hl'
  rw [prbody_2_eq, if_pos (decide_eq_true (by omega)), (prref_reads hl).goR ha h1 (rest := [.cells [.ptr 0 0], .fz (stmtsF acc), .cells [N .u8 k, N .u8 0, N .i64 0, N .u8 0, N .i64 0, .ref 4 0 ar.length 2, nilS], .fz (refsF ar)]) (L := 5) rfl, if_pos ⟨rfl, by omega⟩]
  have hx : [F.s (.int .u8 x.k), F.s (.int .i64 x.id)] = x.F := rfl
  rw [keepC hr, keepC (stmtsF_len acc), takeC (stmtsF_len acc), takeC hr, hx]
  have e2 : (ar.length + 1) * 2 = ar.length * 2 + 2 := by omega
  rw [if_pos (by rw [List.length_append, hr, MRef.F_len]; omega), List.drop_zero, List.take_of_length_le (by rw [List.length_append, hr, MRef.F_len]; omega)]
  have hc : refsF ar ++ x.F = refsF (ar ++ [x]) := by simp
  rw [hc, show ((ar.length : Nat) : Int) + 1 = ((ar.length + 1 : Nat) : Int) by omega, wrap_i64 (by omega) (by omega)]
  rw [List.append_assoc] at next
  simpa using next
noncomputable abbrev PR1 (l : List UInt8) (d T i : Int) (a e : Nat) (acc : List MStmt) : R := prbody_1 d acc.length T i (.lst l.length (bF l)) a e (stmtsF acc)
theorem prbody_end4 (hl : l.length ≤ lenB) (d T i : Int) (acc : List MStmt) (hacc : acc.length ≤ l.length) (k : Nat) (args : List MRef) (a e : Nat) (ha : a ≤ l.length) {x y : MRef} {a3 e3 a4 e4 : Nat} (h3 : (if k ≠ 6 then pRef l a e else (⟨0, 0⟩, a, e)) = (x, a3, e3)) (h4 : pRef l a3 e3 = (y, a4, e4)) :
  prbody_4 d acc.length T i (.lst l.length (bF l)) a e (stmtsF acc) k 0 0 0 0 args.length (refsF args) = PR1 l d T (IntKind.wrap .i64 (i + 1)) a4 e4 (acc ++ [.mk k x y args []]) := by
 unfold lenB at hl
 have hs : ∀ (x y : MRef), stmtsF acc ++ [F.s (.int .u8 (k : Int)), F.s (.int .u8 x.k), F.s (.int .i64 x.id), F.s (.int .u8 y.k), F.s (.int .i64 y.id), F.lst args.length (refsF args), F.lst 0 []] = stmtsF (acc ++ [.mk k x y args []]) := by
  intro x y
  simp [MStmt.F_eq, MStmt.kind, MStmt.a, MStmt.b, MStmt.args, MStmt.body]
 have hlen : (acc ++ [MStmt.mk k x y args []]).length = acc.length + 1 := by simp
 unfold PR1
 rw [prbody_4_eq, hlen]
 by_cases h6 : k = 6
 ·subst h6
  rw [if_neg (by simp)] at h3
  cases h3
  rw [if_neg (by simp), (prref_reads hl).goR ha h4 (rest := [.cells [.ptr 0 0], .fz (stmtsF acc), .cells [N .u8 ((6 : Nat) : Int), N .u8 0, N .i64 0, N .u8 0, N .i64 0, .f (.lst args.length (refsF args)), nilS]]) (L := 4) rfl, if_pos ⟨rfl, by omega⟩,
   growC (w := 7) (y := [F.s (.int .u8 ((6 : Nat) : Int)), F.s (.int .u8 0), F.s (.int .i64 0), F.s (.int .u8 y.k), F.s (.int .i64 y.id), F.lst args.length (refsF args), F.lst 0 []]) (stmtsF_len acc) rfl (K := fun c => prbody_1 _ _ _ _ _ _ _ c)]
  rw [show stmtsF acc ++ [F.s (.int .u8 ((6 : Nat) : Int)), F.s (.int .u8 0), F.s (.int .i64 0), F.s (.int .u8 y.k), F.s (.int .i64 y.id), F.lst args.length (refsF args), F.lst 0 []] = stmtsF (acc ++ [.mk (6 : Nat) ⟨0, 0⟩ y args []]) from hs ⟨0, 0⟩ y]
 ·rw [if_pos h6] at h3
  have q := (pRef_ok ha h3).2.1
  rw [if_pos (by simp; omega), (prref_reads hl).goR ha h3 (rest := [.cells [.ptr 0 0], .fz (stmtsF acc), .cells [N .u8 (k : Int), N .u8 0, N .i64 0, N .u8 0, N .i64 0, .f (.lst args.length (refsF args)), nilS]]) (L := 4) rfl,
   (prref_reads hl).goR q h4 (rest := [.cells [.ptr 0 0], .fz (stmtsF acc), .cells [N .u8 (k : Int), N .u8 x.k, N .i64 x.id, N .u8 0, N .i64 0, .f (.lst args.length (refsF args)), nilS]]) (L := 4) rfl, if_pos ⟨rfl, by omega⟩,
   growC (w := 7) (y := [F.s (.int .u8 (k : Int)), F.s (.int .u8 x.k), F.s (.int .i64 x.id), F.s (.int .u8 y.k), F.s (.int .i64 y.id), F.lst args.length (refsF args), F.lst 0 []]) (stmtsF_len acc) rfl (K := fun c => prbody_1 _ _ _ _ _ _ _ c), hs x y]
theorem prbody_end3 (hl : l.length ≤ lenB) (d T i : Int) (acc : List MStmt) (hacc : acc.length ≤ l.length) (k : Nat) (a e : Nat) (ha : a ≤ l.length) {x y : MRef} {a3 e3 a4 e4 : Nat} (h3 : (if k ≠ 6 then pRef l a e else (⟨0, 0⟩, a, e)) = (x, a3, e3)) (h4 : pRef l a3 e3 = (y, a4, e4)) :
  prbody_3 d acc.length T i (.lst l.length (bF l)) a e (stmtsF acc) k 0 0 0 0 = PR1 l d T (IntKind.wrap .i64 (i + 1)) a4 e4 (acc ++ [.mk k x y [] []]) := by
 unfold lenB at hl
 have hs : ∀ (x y : MRef), stmtsF acc ++ [F.s (.int .u8 (k : Int)), F.s (.int .u8 x.k), F.s (.int .i64 x.id), F.s (.int .u8 y.k), F.s (.int .i64 y.id), F.lst 0 [], F.lst 0 []] = stmtsF (acc ++ [.mk k x y [] []]) := by
  intro x y
  simp [MStmt.F_eq, MStmt.kind, MStmt.a, MStmt.b, MStmt.args, MStmt.body]
 have hlen : (acc ++ [MStmt.mk k x y [] []]).length = acc.length + 1 := by simp
 unfold PR1
 rw [prbody_3_eq, hlen]
 by_cases h6 : k = 6
 ·subst h6
  rw [if_neg (by simp)] at h3
  cases h3
  rw [if_neg (by simp), (prref_reads hl).goR ha h4 (rest := [.cells [.ptr 0 0], .fz (stmtsF acc), .cells [N .u8 ((6 : Nat) : Int), N .u8 0, N .i64 0, N .u8 0, N .i64 0, nilS, nilS]]) (L := 4) rfl, if_pos ⟨rfl, by omega⟩,
   growC (w := 7) (y := [F.s (.int .u8 ((6 : Nat) : Int)), F.s (.int .u8 0), F.s (.int .i64 0), F.s (.int .u8 y.k), F.s (.int .i64 y.id), F.lst 0 [], F.lst 0 []]) (stmtsF_len acc) rfl (K := fun c => prbody_1 _ _ _ _ _ _ _ c)]
  rw [show stmtsF acc ++ [F.s (.int .u8 ((6 : Nat) : Int)), F.s (.int .u8 0), F.s (.int .i64 0), F.s (.int .u8 y.k), F.s (.int .i64 y.id), F.lst 0 [], F.lst 0 []] = stmtsF (acc ++ [.mk (6 : Nat) ⟨0, 0⟩ y [] []]) from hs ⟨0, 0⟩ y]
 ·rw [if_pos h6] at h3
  have q := (pRef_ok ha h3).2.1
  rw [if_pos (by simp; omega), (prref_reads hl).goR ha h3 (rest := [.cells [.ptr 0 0], .fz (stmtsF acc), .cells [N .u8 (k : Int), N .u8 0, N .i64 0, N .u8 0, N .i64 0, nilS, nilS]]) (L := 4) rfl,
   (prref_reads hl).goR q h4 (rest := [.cells [.ptr 0 0], .fz (stmtsF acc), .cells [N .u8 (k : Int), N .u8 x.k, N .i64 x.id, N .u8 0, N .i64 0, nilS, nilS]]) (L := 4) rfl, if_pos ⟨rfl, by omega⟩,
   growC (w := 7) (y := [F.s (.int .u8 (k : Int)), F.s (.int .u8 x.k), F.s (.int .i64 x.id), F.s (.int .u8 y.k), F.s (.int .i64 y.id), F.lst 0 [], F.lst 0 []]) (stmtsF_len acc) rfl (K := fun c => prbody_1 _ _ _ _ _ _ _ c), hs x y]
theorem prbody_loop (hl : l.length ≤ lenB) (d f : Nat) (hd : d ≤ 16) (ih : ReadsA 51 [N .i64 ((d + 1 : Nat) : Int)] l (pBody l f) bodyV) : ∀ (n : Nat) (acc : List MStmt) (T a e : Nat) {v a' e'}, acc.length + n = T → T ≤ l.length → a ≤ l.length → pMany (pStmt l (pBody l f)) n a e = (v, a', e') →
  PR1 l d T acc.length a e acc = some (.ret (bodyV (acc ++ v)), [rdr l a' e'])
 | 0, acc, T, a, e, v, a', e', hN, hNl, ha, hp => by
  rw [pMany] at hp
  cases hp
  unfold PR1
  rw [prbody_1_eq, if_neg (by simp; omega), keepC (stmtsF_len acc), takeC (stmtsF_len acc), List.append_nil]
  rfl
 | n + 1, acc, T, a, e, v, a', e', hN, hNl, ha, hp => by
  have hI : ReadsP 50 [N .i64 7] l (pInt 7 l) intV := Int_reads hl 7 (by omega)
  rw [pMany] at hp
  dsimp only at hp
  rcases h1 : pStmt l (pBody l f) a e with ⟨s, a1, e1⟩
  rw [h1] at hp
  rcases h2 : pMany (pStmt l (pBody l f)) n a1 e1 with ⟨r, a2, e2⟩
  simp only [h2] at hp
  cases hp
  have q := (pStmt_ok (pBody_ok f) ha h1).2.1
  have next := prbody_loop hl d f hd ih n (acc ++ [s]) T a1 e1 (by simp; omega) hNl q h2
  have hl' := hl
  unfold lenB at hl'
  have hi : IntKind.wrap .i64 ((acc.length : Int) + 1) = ((acc.length + 1 : Nat) : Int) := by rw [wrap_i64 (by omega) (by omega)]; omega
  rw [List.append_assoc, List.length_append] at next
  have next' : PR1 l d T (IntKind.wrap .i64 ((acc.length : Int) + 1)) a1 e1 (acc ++ [s]) = some (.ret (bodyV (acc ++ (s :: r))), [rdr l a' e']) := by rw [hi]; exact next
  unfold pStmt at h1
  rcases hk : pInt 7 l a e with ⟨k, a5, e5⟩
  rw [hk] at h1
  dsimp only at h1
  have k7 := pInt_most hk
  have q5 := (pInt_ok 7 ha hk).2.1
  refine Eq.trans ?_ next'
  have hw : IntKind.wrap .u8 (k : Int) = (k : Int) := wrap_u8_in (by omega) (by omega)
  rw [show PR1 l d T acc.length a e acc = prbody_1 d acc.length T acc.length (.lst l.length (bF l)) a e (stmtsF acc) from rfl]
  rw [prbody_1_eq, if_pos (decide_eq_true (by omega)), hI.goI ha hk (rest := [.cells [.ptr 0 0], .fz (stmtsF acc)]) (L := 3) rfl, hw]
  by_cases h7 : k = 7
  ·subst h7
   rw [if_pos rfl] at h1
   rcases hb : pBody l f a5 e5 with ⟨b, a6, e6⟩
   rw [hb] at h1
   dsimp only at h1
   cases h1
   have hd1 : IntKind.wrap .i64 ((d : Int) + 1) = ((d + 1 : Nat) : Int) := by rw [wrap_i64 (by omega) (by omega)]; omega
   rw [if_pos (by rfl), hd1, ih.goL q5 hb (rest := [.cells [.ptr 0 0], .fz (stmtsF acc), .cells [N .u8 ((7 : Nat) : Int), N .u8 0, N .i64 0, N .u8 0, N .i64 0, nilS, nilS]]) (L := 4) rfl, if_pos ⟨rfl, by omega⟩,
    growC (w := 7) (y := [F.s (.int .u8 ((7 : Nat) : Int)), F.s (.int .u8 0), F.s (.int .i64 0), F.s (.int .u8 0), F.s (.int .i64 0), F.lst 0 [], F.lst b.length (stmtsF b)]) (stmtsF_len acc) rfl (K := fun c => prbody_1 _ _ _ _ _ _ _ c)]
   have hs : stmtsF acc ++ [F.s (.int .u8 ((7 : Nat) : Int)), F.s (.int .u8 0), F.s (.int .i64 0), F.s (.int .u8 0), F.s (.int .i64 0), F.lst 0 [], F.lst b.length (stmtsF b)] = stmtsF (acc ++ [.mk 7 ⟨0, 0⟩ ⟨0, 0⟩ [] b]) := by
    simp [MStmt.F_eq, MStmt.kind, MStmt.a, MStmt.b, MStmt.args, MStmt.body]
   unfold PR1
   rw [hs, List.length_append]
   rfl
  ·rw [if_neg h7] at h1
   rw [if_neg (by simp; omega)]
   rcases hA : (if k = 5 then pSeq l (pRef l) a5 e5 else ([], a5, e5)) with ⟨args, a6, e6⟩
   rw [hA] at h1
   dsimp only at h1
   rcases hX : (if k ≠ 6 then pRef l a6 e6 else (⟨0, 0⟩, a6, e6)) with ⟨x, a8, e8⟩
   rw [hX] at h1
   dsimp only at h1
   rcases hY : pRef l a8 e8 with ⟨y, a9, e9⟩
   rw [hY] at h1
   dsimp only at h1
   cases h1
   by_cases h5 : k = 5
   ·subst h5
    rw [if_pos rfl] at hA
    unfold pSeq at hA
    rcases hC : pCount l a5 e5 with ⟨M, a10, e10⟩
    rw [hC] at hA
    dsimp only at hA
    have qC := (pCount_ok q5 hC).2.1
    have qM := pCount_le hC
    have qA := (pMany_ok pRef_ok M qC hA).2.1
    rw [if_pos (by rfl), (prcount_reads hl).goI q5 hC (rest := [.cells [.ptr 0 0], .fz (stmtsF acc), .cells [N .u8 ((5 : Nat) : Int), N .u8 0, N .i64 0, N .u8 0, N .i64 0, nilS, nilS]]) (L := 4) rfl, keepC (stmtsF_len acc), takeC (stmtsF_len acc)]
    have g := prbody_args hl d 5 acc T acc.length M [] M a10 e10 (by simp) (by omega) qC hA
    exact g.trans (prbody_end4 hl d T acc.length acc (by omega) 5 args a6 e6 qA hX hY)
   ·rw [if_neg h5] at hA
    cases hA
    rw [if_neg (by simp; omega), keepC (stmtsF_len acc), takeC (stmtsF_len acc)]
    exact prbody_end3 hl d T acc.length acc (by omega) k a5 e5 q5 hX hY
theorem prbody_reads (hl : l.length ≤ lenB) : ∀ (f d : Nat), d + f = 17 → ReadsA 51 [N .i64 (d : Int)] l (pBody l f) bodyV
 | 0, d, hd => by
  refine ReadsA.of own_prbody (of_decide_eq_true (by kernel_rfl)) rfl (fun _ _ => rfl) fun a e v a' e' ha hp => ?_
  have ec : coreOf w0 51 Tryd.f51 [.val] (some [.val, .val, .val]) [.agg [.ptr 0 0], N .i64 (d : Int)] [rdr l a e] = prbody_0 (.lst l.length (bF l)) a e d := rfl
  rw [pBody] at hp
  cases hp
  rw [ec, prbody_eq, if_pos (decide_eq_true (by omega)), show (4 : Int) = ((4 : Nat) : Int) from rfl, Fail_at (h := [.cells [.f (.lst l.length (bF l)), N .i64 (a : Int), N .i64 (e : Int)], .cells [.ptr 0 0]]) (k := 0) rfl, pO_some]
  rfl
 | f + 1, d, hd => by
  have ih := prbody_reads hl f (d + 1) (by omega)
  refine ReadsA.of own_prbody (of_decide_eq_true (by kernel_rfl)) rfl (fun _ _ => rfl) fun a e v a' e' ha hp => ?_
  have ec : coreOf w0 51 Tryd.f51 [.val] (some [.val, .val, .val]) [.agg [.ptr 0 0], N .i64 (d : Int)] [rdr l a e] = prbody_0 (.lst l.length (bF l)) a e d := rfl
  rw [pBody] at hp
  unfold pSeq at hp
  rcases hq : pCount l a e with ⟨n, a1, e1⟩
  rw [hq] at hp
  dsimp only at hp
  have q := (pCount_ok ha hq).2.1
  have := pCount_le hq
  rw [ec, prbody_eq, if_neg (by simp; omega), (prcount_reads hl).goI ha hq (rest := [.cells [.ptr 0 0]]) (L := 2) rfl]
  exact prbody_loop hl d f (by omega) ih n [] n a1 e1 (by simp) (by omega) q hp
end Go.Proofs.YtemnahkpffafoaaDoor
namespace Go.Proofs.YtemnahkpffafoaaDoor
open Go Go.Abs
variable {l : List UInt8}
abbrev modVV (m : Mod) : V := .agg (modV m)
noncomputable abbrev PM2 (l : List UInt8) (T i : Int) (a e : Nat) (ss : List ByteArray) (gs : List Int) (acc : List MFun) : R := prmodule_2 T i (.lst l.length (bF l)) a e ss.length (sF ss) gs.length (kF .i64 gs) acc.length (funsF acc)
theorem funsF_len (b : List MFun) : (funsF b).length = b.length * 5 := flat_len MFun.F_len b
theorem prmodule_funs (hl : l.length ≤ lenB) (ss : List ByteArray) (gs : List Int) : ∀ (n : Nat) (acc : List MFun) (T a e : Nat) {v a' e' es a2 e2}, acc.length + n = T → T ≤ l.length → a ≤ l.length → pMany (pFun l) n a e = (v, a', e') → pSeq l (pNum l) a' e' = (es, a2, e2) →
  PM2 l T acc.length a e ss gs acc = some (.ret (modVV ⟨ss, gs, acc ++ v, es⟩), [rdr l a2 e2]) := by
 intro n
 induction n with
 | zero =>
  intro acc T a e v a' e' es a2 e2 hN hNl ha hp hs
  rw [pMany] at hp
  cases hp
  unfold PM2
  rw [prmodule_2_eq, if_neg (by simp; omega), (prlist_reads hl).goL ha hs (rest := [.cells [.ptr 0 0], .cells [nilS, nilS, nilS, nilS], .cells [.f (.lst ss.length (sF ss)), .f (.lst gs.length (kF .i64 gs)), .ref 4 0 acc.length 5, nilS], .fz (funsF acc)]) (L := 5) rfl, keepC (funsF_len acc), takeC (funsF_len acc), List.append_nil]
  rfl
 | succ n ih =>
  intro acc T a e v a' e' es a2 e2 hN hNl ha hp hs
  have hI : ReadsP 50 [N .i64 1048576] l (pInt 1048576 l) intV := Int_reads hl 1048576 (by omega)
  rw [pMany] at hp
  dsimp only at hp
  rcases h1 : pFun l a e with ⟨s, a1, e1⟩
  rw [h1] at hp
  rcases h2 : pMany (pFun l) n a1 e1 with ⟨r, a3, e3⟩
  simp only [h2] at hp
  cases hp
  have q := (pFun_ok ha h1).2.1
  have next := ih (acc ++ [s]) T a1 e1 (by simp; omega) hNl q h2 hs
  have hl' := hl
  unfold lenB at hl'
  have hi : IntKind.wrap .i64 ((acc.length : Int) + 1) = ((acc.length + 1 : Nat) : Int) := by rw [wrap_i64 (by omega) (by omega)]; omega
  rw [List.append_assoc, List.length_append] at next
  have next' : PM2 l T (IntKind.wrap .i64 ((acc.length : Int) + 1)) a1 e1 ss gs (acc ++ [s]) = some (.ret (modVV ⟨ss, gs, acc ++ (s :: r), es⟩), [rdr l a2 e2]) := by rw [hi]; exact next
  refine Eq.trans ?_ next'
  unfold pFun at h1
  have hB : ReadsA 51 [N .i64 0] l (pBody l 17) bodyV := prbody_reads hl 17 0 rfl
  have hBo := pBody_ok (l := l) 17
  generalize pBody l 17 = B at h1 hB hBo
  rcases g1 : pNum l a e with ⟨nm, b1, d1⟩
  rw [g1] at h1; dsimp only at h1
  rcases g2 : pNum l b1 d1 with ⟨ps, b2, d2⟩
  rw [g2] at h1; dsimp only at h1
  rcases g3 : pSeq l (pNum l) b2 d2 with ⟨ls, b3, d3⟩
  rw [g3] at h1; dsimp only at h1
  rcases g4 : pSeq l (pNum l) b3 d3 with ⟨sits, b4, d4⟩
  rw [g4] at h1; dsimp only at h1
  rcases g5 : B b4 d4 with ⟨bd, b5, d5⟩
  rw [g5] at h1; dsimp only at h1
  cases h1
  have q1 := (pNum_ok ha g1).2.1
  have q2 := (pNum_ok q1 g2).2.1
  have q3 := (pSeq_ok pNum_ok q2 g3).2.1
  have q4 := (pSeq_ok pNum_ok q3 g4).2.1
  unfold pNum at g1 g2
  rcases k1 : pInt 1048576 l a e with ⟨n1, c1, f1⟩
  rw [k1] at g1
  cases g1
  rcases k2 : pInt 1048576 l b1 d1 with ⟨n2, c2, f2⟩
  rw [k2] at g2
  cases g2
  have hF : funsF acc ++ [F.s (.int .i64 (n1 : Int)), F.s (.int .i64 (n2 : Int)), F.lst ls.length (kF .i64 ls), F.lst sits.length (kF .i64 sits), F.lst bd.length (stmtsF bd)] = funsF (acc ++ [⟨n1, n2, ls, sits, bd⟩]) := by
   rw [funsF, funsF, List.flatMap_append]; rfl
  have hlen : (acc ++ [(⟨n1, n2, ls, sits, bd⟩ : MFun)]).length = acc.length + 1 := by simp
  unfold PM2
  rw [hlen, prmodule_2_eq, if_pos (decide_eq_true (by omega)), hI.goI ha k1 (rest := [.cells [.ptr 0 0], .cells [nilS, nilS, nilS, nilS], .cells [.f (.lst ss.length (sF ss)), .f (.lst gs.length (kF .i64 gs)), .ref 4 0 acc.length 5, nilS], .fz (funsF acc)]) (L := 5) rfl,
   hI.goI q1 k2 (rest := [.cells [.ptr 0 0], .cells [nilS, nilS, nilS, nilS], .cells [.f (.lst ss.length (sF ss)), .f (.lst gs.length (kF .i64 gs)), .ref 4 0 acc.length 5, nilS], .fz (funsF acc)]) (L := 5) rfl,
   (prlist_reads hl).goL q2 g3 (rest := [.cells [.ptr 0 0], .cells [nilS, nilS, nilS, nilS], .cells [.f (.lst ss.length (sF ss)), .f (.lst gs.length (kF .i64 gs)), .ref 4 0 acc.length 5, nilS], .fz (funsF acc), .cells [N .i64 (n1 : Int), N .i64 (n2 : Int), nilS, nilS, nilS]]) (L := 6) rfl,
   (prlist_reads hl).goL q3 g4 (rest := [.cells [.ptr 0 0], .cells [nilS, nilS, nilS, nilS], .cells [.f (.lst ss.length (sF ss)), .f (.lst gs.length (kF .i64 gs)), .ref 4 0 acc.length 5, nilS], .fz (funsF acc), .cells [N .i64 (n1 : Int), N .i64 (n2 : Int), nilS, nilS, nilS]]) (L := 6) rfl,
   hB.goL q4 g5 (rest := [.cells [.ptr 0 0], .cells [nilS, nilS, nilS, nilS], .cells [.f (.lst ss.length (sF ss)), .f (.lst gs.length (kF .i64 gs)), .ref 4 0 acc.length 5, nilS], .fz (funsF acc), .cells [N .i64 (n1 : Int), N .i64 (n2 : Int), .f (.lst ls.length (kF .i64 ls)), .f (.lst sits.length (kF .i64 sits)), nilS]]) (L := 6) rfl, if_pos ⟨rfl, by omega⟩,
   growC (w := 5) (y := [F.s (.int .i64 (n1 : Int)), F.s (.int .i64 (n2 : Int)), F.lst ls.length (kF .i64 ls), F.lst sits.length (kF .i64 sits), F.lst bd.length (stmtsF bd)]) (funsF_len acc) rfl (K := fun c => prmodule_2 _ _ _ _ _ _ _ _ _ _ c), hF]
theorem prmodule_texts (hl : l.length ≤ lenB) : ∀ (n : Nat) (acc : List ByteArray) (T a e : Nat) {v a' e' gs a2 e2 fs a3 e3 es a4 e4}, acc.length + n = T → T ≤ l.length → a ≤ l.length → pMany (pText l) n a e = (v, a', e') → pSeq l (pNum l) a' e' = (gs, a2, e2) → pSeq l (pFun l) a2 e2 = (fs, a3, e3) → pSeq l (pNum l) a3 e3 = (es, a4, e4) →
  prmodule_1 T acc.length (.lst l.length (bF l)) a e acc.length (sF acc) = some (.ret (modVV ⟨acc ++ v, gs, fs, es⟩), [rdr l a4 e4])
 | 0, acc, T, a, e, v, a', e', gs, a2, e2, fs, a3, e3, es, a4, e4, hN, hNl, ha, hp, hg, hf, hs => by
  rw [pMany] at hp
  cases hp
  have q2 := (pSeq_ok pNum_ok ha hg).2.1
  unfold pSeq at hf
  rcases hC : pCount l a2 e2 with ⟨n, a5, e5⟩
  rw [hC] at hf
  dsimp only at hf
  have qC := (pCount_ok q2 hC).2.1
  have qn := pCount_le hC
  rw [prmodule_1_eq, if_neg (by simp; omega), (prlist_reads hl).goL ha hg (rest := [.cells [.ptr 0 0], .cells [nilS, nilS, nilS, nilS], .cells [.ref 4 0 acc.length 1, nilS, nilS, nilS], .fz (sF acc)]) (L := 5) rfl,
   (prcount_reads hl).goI q2 hC (rest := [.cells [.ptr 0 0], .cells [nilS, nilS, nilS, nilS], .cells [.ref 4 0 acc.length 1, .f (.lst gs.length (kF .i64 gs)), nilS, nilS], .fz (sF acc)]) (L := 5) rfl, keepC (by simp), takeC (by simp), List.append_nil]
  exact prmodule_funs hl acc gs n [] n a5 e5 (by simp) (by omega) qC hf hs
 | n + 1, acc, T, a, e, v, a', e', gs, a2, e2, fs, a3, e3, es, a4, e4, hN, hNl, ha, hp, hg, hf, hs => by
  rw [pMany] at hp
  dsimp only at hp
  rcases h1 : pText l a e with ⟨s, a1, e1⟩
  rw [h1] at hp
  rcases h2 : pMany (pText l) n a1 e1 with ⟨r, a8, e8⟩
  simp only [h2] at hp
  cases hp
  have q := (pText_ok ha h1).2.1
  have next := prmodule_texts hl n (acc ++ [s]) T a1 e1 (by simp; omega) hNl q h2 hg hf hs
  have hl' := hl
  unfold lenB at hl'
  have hi : IntKind.wrap .i64 ((acc.length : Int) + 1) = ((acc.length + 1 : Nat) : Int) := by rw [wrap_i64 (by omega) (by omega)]; omega
  rw [List.append_assoc, List.length_append] at next
  have hF : sF acc ++ [F.s (.string s)] = sF (acc ++ [s]) := by simp [sF]
  rw [prmodule_1_eq, if_pos (decide_eq_true (by omega)), (Text_reads hl).goS ha h1 (rest := [.cells [.ptr 0 0], .cells [nilS, nilS, nilS, nilS], .cells [.ref 4 0 acc.length 1, nilS, nilS, nilS], .fz (sF acc)]) (L := 5) rfl, if_pos ⟨rfl, by omega⟩,
   growC (w := 1) (y := [F.s (.string s)]) (by simp) rfl (K := fun c => prmodule_1 _ _ _ _ _ _ c), hF, hi]
  exact next
theorem prmodule_reads (hl : l.length ≤ lenB) : ReadsA 27 [] l (pMod l) modVV := by
 refine ReadsA.of own_prmodule (of_decide_eq_true (by kernel_rfl)) rfl (fun _ _ => rfl) fun a e v a' e' ha hp => ?_
 have ec : coreOf w0 27 Tryd.f27 [.val] (some [.val, .val, .val]) [.agg [.ptr 0 0]] [rdr l a e] = prmodule_0 (.lst l.length (bF l)) a e := rfl
 unfold pMod at hp
 rcases h1 : pSeq l (pText l) a e with ⟨ss, a1, e1⟩
 rw [h1] at hp; dsimp only at hp
 rcases h2 : pSeq l (pNum l) a1 e1 with ⟨gs, a2, e2⟩
 rw [h2] at hp; dsimp only at hp
 rcases h3 : pSeq l (pFun l) a2 e2 with ⟨fs, a3, e3⟩
 rw [h3] at hp; dsimp only at hp
 rcases h4 : pSeq l (pNum l) a3 e3 with ⟨es, a4, e4⟩
 rw [h4] at hp; dsimp only at hp
 cases hp
 unfold pSeq at h1
 rcases hC : pCount l a e with ⟨n, a5, e5⟩
 rw [hC] at h1
 dsimp only at h1
 have qC := (pCount_ok ha hC).2.1
 have qn := pCount_le hC
 rw [ec, prmodule_eq, (prcount_reads hl).goI ha hC (rest := [.cells [.ptr 0 0], .cells [nilS, nilS, nilS, nilS], .cells [nilS, nilS, nilS, nilS]]) (L := 4) rfl]
 exact prmodule_texts hl n [] n a5 e5 (by simp) (by omega) qC h1 h2 h3 h4
end Go.Proofs.YtemnahkpffafoaaDoor
