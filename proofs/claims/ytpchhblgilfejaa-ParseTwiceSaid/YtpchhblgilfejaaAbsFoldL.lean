/-
  What the operations of folded equations come to, where something is known of the heap.
-/
import Derived.Test.YtpchhblgilfejaaAbsFold
import Derived.Test.YtpchhblgilfejaaAbsCall
set_option autoImplicit false
set_option linter.unusedVariables false
namespace Go.Abs
open Go
section
variable {P : Program} {h : H} {k off n m : Nat} {cs : List V} {zs : List F} {ik : IntKind} {i : Int}

theorem newO_eq (o : Ob) (h : H) (K : Nat → H → R) : newO o h K = K h.length (h ++ [o]) := rfl
theorem get_new (h : H) (o : Ob) : (h ++ [o])[h.length]? = some o := by simp
theorem get_old {o : Ob} (hk : k < h.length) (t : H) : (h ++ t)[k]? = h[k]? := List.getElem?_append_left hk
theorem get_lt {o : Ob} (e : h[k]? = some o) : k < h.length := (List.getElem?_eq_some_iff.1 e).1
theorem get_app {o : Ob} (e : h[k]? = some o) (t : H) : (h ++ t)[k]? = some o := by rw [List.getElem?_append_left (get_lt e), e]
theorem get_tail (h t : H) (j : Nat) : (h ++ t)[h.length + j]? = t[j]? := by rw [List.getElem?_append_right (by omega)]; simp
theorem set_tail (h t : H) (j : Nat) (o : Ob) : (h ++ t).set (h.length + j) o = h ++ t.set j o := by
  rw [List.set_append_right _ _ (by omega)]; simp
theorem get_set' (h : H) {k : Nat} (o : Ob) (hk : k < h.length) : (h.set k o)[k]? = some o := by simp [hk]
theorem get_set_ne' (h : H) {k j : Nat} (o : Ob) (hk : k ≠ j) : (h.set k o)[j]? = h[j]? := by rw [List.getElem?_set_ne hk]

@[simp] theorem coeSl_ref (a b c d : Nat) (K : V → R) : coeSl (.ref a b c d) K = K (.ref a b c d) := rfl
@[simp] theorem coeSl_lst (n : Nat) (cs : List F) (K : V → R) : coeSl (.f (.lst n cs)) K = K (.f (.lst n cs)) := rfl
@[simp] theorem coeSl_nil (K : V → R) : coeSl nilS K = K (.f (.lst 0 [])) := rfl
theorem gI_c (h1 : h[k]? = some (.cells cs)) (h2 : cs[off]? = some (N ik i)) (K : Int → R) : gI ik (.ptr k off) h K = K i := by
  simp [gI, h1, h2, V.int?, V.f?, F.int?]
theorem gI_z (h1 : h[k]? = some (.fz zs)) (h2 : zs[off]? = some (.s (.int ik i))) (K : Int → R) : gI ik (.ptr k off) h K = K i := by
  simp [gI, h1, h2, F.int?]
theorem gS_z {s : ByteArray} (h1 : h[k]? = some (.fz zs)) (h2 : zs[off]? = some (.s (.string s))) (K : ByteArray → R) : gS (.ptr k off) h K = K s := by
  simp [gS, h1, h2, F.str?]
theorem gL_c {v : V} (h1 : h[k]? = some (.cells cs)) (h2 : cs[off]? = some v) (K : V → R) : gL (.ptr k off) h K = coeSl v K := by
  simp [gL, gz, load1, h1, h2, coeSl]
theorem gL_z {x : F} (h1 : h[k]? = some (.fz zs)) (h2 : zs[off]? = some x) (K : V → R) : gL (.ptr k off) h K = coeF (.slice none 0 0) x K := by
  simp [gL, gz, load1, h1, h2]
theorem gL_zl {c : Nat} {l : List F} (h1 : h[k]? = some (.fz zs)) (h2 : zs[off]? = some (.lst c l)) (K : V → R) : gL (.ptr k off) h K = K (.f (.lst c l)) := by
  rw [gL_z h1 h2]; rfl
theorem gLn_ref {t a b c d : Nat} (h1 : h[k]? = some (.cells cs)) (h2 : cs[off]? = some (.ref a b c d)) (K : V → R) : gLn P t (.ptr k off) h K = K (.ref a b c d) := by
  have : isNilSl P t h (.ptr k off) = false := by simp [isNilSl, h1, h2]
  unfold gLn; rw [this]
  simp [gz, load1, h1, h2, coe]
theorem gLn_nil {t : Nat} (ha : agg? P t = some false) (h1 : h[k]? = some (.cells cs)) (h2 : cs[off]? = some nilS) (K : V → R) : gLn P t (.ptr k off) h K = K nilS := by
  have : isNilSl P t h (.ptr k off) = true := by simp [isNilSl, h1, h2, ha]
  unfold gLn; rw [this]
  simp [gz, load1, h1, h2, coe, F.sl?]
theorem gA_c {t : Nat} (h1 : h[k]? = some (.cells cs)) (h2 : off + n ≤ cs.length) (K : List V → R) : gA P t n (.ptr k off) h K = K ((cs.drop off).take n) := by
  simp [gA, h1, h2]
theorem stC_c {l : List V} (h1 : h[k]? = some (.cells cs)) (h2 : off + l.length ≤ cs.length) (K : H → R) : stC (.ptr k off) l h K = K (h.set k (.cells (splice cs off l))) := by
  simp [stC, wrK, h1, h2]
theorem stL_c {l : List V} (h1 : h[k]? = some (.cells cs)) (hn : l.length = n) (h2 : off + n ≤ cs.length) (K : H → R) : stL (.ptr k off) l n h K = K (h.set k (.cells (splice cs off l))) := by
  subst hn; simp [stL, wrK, h1, h2]
theorem stV_c {v : V} {l : List V} (hv : cellsOf v = some l) (h1 : h[k]? = some (.cells cs)) (hn : l.length = n) (h2 : off + n ≤ cs.length) (K : H → R) : stV (.ptr k off) v n h K = K (h.set k (.cells (splice cs off l))) := by
  subst hn; simp [stV, hv, wrK, h1, h2]
/-- a slice is stored into a row, frozen or not -/
theorem stV_ref {o : Ob} {L : List V} {a b c d : Nat} (h1 : h[k]? = some o) (hl : o.vl = some L) (h2 : off < L.length) (K : H → R) : stV (.ptr k off) (.ref a b c d) 1 h K = K (h.set k (.cells (L.set off (.ref a b c d)))) := by
  cases o with
  | cells l => cases hl; simp [stV, cellsOf, wrK, h1, splice]; intro h3; omega
  | fz l =>
    cases hl
    simp at h2
    simp [stV, cellsOf, wrK, h1, splice, wrF, toFs, V.f?]; intro h3; omega
  | _ => cases hl
theorem stC_one {o : Ob} {L : List V} {v : V} (h1 : h[k]? = some (.cells L)) (h2 : off < L.length) (K : H → R) : stC (.ptr k off) [v] h K = K (h.set k (.cells (L.set off v))) := by
  simp [stC, wrK, h1, splice]; intro h3; omega
theorem stC_z {x : F} (h1 : h[k]? = some (.fz zs)) (hx : frzF x = x) (h2 : off < zs.length) (K : H → R) : stC (.ptr k off) [.f x] h K = K (h.set k (.fz (zs.set off x))) := by
  simp [stC, wrK, h1, splice, wrF, toFs, V.f?]; intro h3; omega
theorem idx_ref {t e es : Nat} (hu : P.underlying t = some (.slice e)) (hs : szOf P e = some es) (h0 : 0 ≤ i) (h1 : i < n) (K : V → R) : idx P t (.ref k off n es) i K = K (.ptr k (off + i.toNat * es)) := by
  simp [idx, hu, hs, h0, h1]
theorem idx_lst {t e es : Nat} (hu : P.underlying t = some (.slice e)) (hs : szOf P e = some es) (h0 : 0 ≤ i) (h1 : i < n) (K : V → R) : idx P t (.f (.lst n zs)) i K = K (.f (.fp (zs.drop (i.toNat * es)))) := by
  simp [idx, hu, hs, elem, h0, h1]
@[simp] theorem lnV_ref (a b c d : Nat) (K : Nat → R) : lnV (.ref a b c d) K = K c := rfl
@[simp] theorem lnV_lst (n : Nat) (l : List F) (K : Nat → R) : lnV (.f (.lst n l)) K = K n := rfl
@[simp] theorem lnV_nil (K : Nat → R) : lnV nilS K = K 0 := rfl
@[simp] theorem lnV_lit (n : Nat) (l : List V) (K : Nat → R) : lnV (.lit n l) K = K n := rfl
@[simp] theorem nilK_ptr (a b : Nat) (K : V → R) : nilK (.ptr a b) K = K (.ptr a b) := rfl
@[simp] theorem addP_ptr (a b c : Nat) : addP (.ptr a b) c = some (.ptr a (b + c)) := rfl
@[simp] theorem agV_agg (l : List V) (K : List V → R) : agV (.agg l) K = K l := rfl
@[simp] theorem tpV_tup (l : List V) (i : Nat) (K : V → R) : tpV (.tup l) i K = (l[i]?).bind K := rfl
@[simp] theorem kV_some (v : V) (g : H) (kp K : V → H → R) : kV (some (.ret v, g)) kp K = K v g := rfl
@[simp] theorem kL_some (v : V) (g : H) (kp K : V → H → R) : kL (some (.ret v, g)) kp K = coeU (.slice none 0 0) v fun v => K v g := rfl
@[simp] theorem coeU_ref (a b c d : Nat) (K : V → R) : coeU (.slice none 0 0) (.ref a b c d) K = K (.ref a b c d) := rfl
@[simp] theorem coeU_lst (n : Nat) (cs : List F) (K : V → R) : coeU (.slice none 0 0) (.f (.lst n cs)) K = K (.f (.lst n cs)) := rfl
@[simp] theorem coeU_nil (K : V → R) : coeU (.slice none 0 0) nilS K = K nilS := rfl
@[simp] theorem xA_some (l : List V) (g : H) (kp : V → H → R) (K : List V → R) : xA (some (.ret (.agg l), g)) kp K = K l := rfl
@[simp] theorem xT_some (l : List V) (g : H) (kp : V → H → R) (K : List V → R) : xT (some (.ret (.tup l), g)) kp K = K l := rfl
@[simp] theorem xB_some (b : Bool) (g : H) (kp : V → H → R) (K : Bool → R) : xB (some (.ret (B b), g)) kp K = K b := rfl
@[simp] theorem xL_some (n : Nat) (c : List F) (g : H) (kp : V → H → R) (K : Nat → List F → R) : xL (some (.ret (.f (.lst n c)), g)) kp K = K n c := rfl

/-! ### appends -/
structure El (P : Program) (st e es by_ : Nat) : Prop where
  el : elem? P st = some e
  sz : szOf P e = some es
  by' : byOf P e = some by_
  zc : (zcellsF P e).isSome = true
  es0 : 0 < es
  by0 : 0 < by_
theorem append_z {st xt e es by_ e' : Nat} (he : El P st e es by_) (hx : P.underlying xt = some (.slice e')) {c : Nat} {l : List F} (hl : l.length = c * es) (hk : h[k]? = some (.fz zs)) (hm : off + m * es ≤ zs.length) (hb : (m + c) * by_ ≤ 140737488355328) (K : V → H → R) :
    append P st xt (.ref k off m es) (.f (.lst c l)) h K = K (.ref h.length 0 (m + c) es) (h.set k .dead ++ [.fz ((zs.drop off).take (m * es) ++ l)]) := by
  obtain ⟨z, hz⟩ := Option.isSome_iff_exists.1 he.zc
  unfold append
  simp only [he.el, he.sz, he.by', hz, Option.bind_some, hx]
  unfold appF
  rw [if_pos ⟨he.es0, hl, he.by0⟩]
  simp only [hk]
  rw [if_pos ⟨trivial, hb⟩, if_pos hm]
theorem append_zr {st xt e es by_ e' : Nat} (he : El P st e es by_) (hx : P.underlying xt = some (.slice e')) {c k2 off2 : Nat} {ws : List F} (hk2 : h[k2]? = some (.fz ws)) (hc : off2 + c * es ≤ ws.length) (hk : h[k]? = some (.fz zs)) (hm : off + m * es ≤ zs.length) (hb : (m + c) * by_ ≤ 140737488355328) (K : V → H → R) :
    append P st xt (.ref k off m es) (.ref k2 off2 c es) h K = K (.ref h.length 0 (m + c) es) (h.set k .dead ++ [.fz ((zs.drop off).take (m * es) ++ (ws.drop off2).take (c * es))]) := by
  obtain ⟨z, hz⟩ := Option.isSome_iff_exists.1 he.zc
  unfold append
  simp only [he.el, he.sz, he.by', hz, Option.bind_some, hx, hk2]
  rw [if_pos ⟨trivial, hc⟩]
  unfold appF
  rw [if_pos ⟨he.es0, by simp; omega, he.by0⟩]
  simp only [hk]
  rw [if_pos ⟨trivial, hb⟩, if_pos hm]
theorem append_nr {st xt e es by_ e' : Nat} (he : El P st e es by_) (hx : P.underlying xt = some (.slice e')) {c k2 off2 : Nat} {ws : List F} (hk2 : h[k2]? = some (.fz ws)) (hc : off2 + c * es ≤ ws.length) (hb : c * by_ ≤ 140737488355328) (K : V → H → R) :
    append P st xt nilS (.ref k2 off2 c es) h K = K (.ref h.length 0 c es) (h ++ [.fz ((ws.drop off2).take (c * es))]) := by
  obtain ⟨z, hz⟩ := Option.isSome_iff_exists.1 he.zc
  unfold append
  simp only [he.el, he.sz, he.by', hz, Option.bind_some, hx, hk2]
  rw [if_pos ⟨trivial, hc⟩]
  unfold appF
  rw [if_pos ⟨he.es0, by simp; omega, he.by0⟩]
  exact if_pos hb
/-- one frozen cell, of rows of one -/
theorem append_l1 {st xt e by_ e' : Nat} (he : El P st e 1 by_) (hx : P.underlying xt = some (.slice e')) {x : F} (hx1 : frzF x = x) (hk : h[k]? = some (.fz zs)) (hm : off + m ≤ zs.length) (hb : (m + 1) * by_ ≤ 140737488355328) (K : V → H → R) :
    append P st xt (.ref k off m 1) (.lit 1 [.f x]) h K = K (.ref h.length 0 (m + 1) 1) (h.set k .dead ++ [.fz ((zs.drop off).take m ++ [x])]) := by
  obtain ⟨z, hz⟩ := Option.isSome_iff_exists.1 he.zc
  unfold append
  simp only [he.el, he.sz, he.by', hz, Option.bind_some, hx, slCells]
  have hn : nrmE 1 [V.f x] = [.f x] := by
    unfold nrmE; split
    · rfl
    · simp [nrmV, hx1]
  rw [hn]
  unfold app
  rw [if_pos ⟨by omega, by simp, he.by0⟩]
  simp only [hk]
  rw [if_pos ⟨trivial, hb⟩, if_pos (by omega)]
  simp [toFs, V.f?]
theorem append_n1 {st xt e by_ e' : Nat} (he : El P st e 1 by_) (hx : P.underlying xt = some (.slice e')) {x : F} (hx1 : frzF x = x) (hb : by_ ≤ 140737488355328) (K : V → H → R) :
    append P st xt nilS (.lit 1 [.f x]) h K = K (.ref h.length 0 1 1) (h ++ [.fz [x]]) := by
  obtain ⟨z, hz⟩ := Option.isSome_iff_exists.1 he.zc
  unfold append
  simp only [he.el, he.sz, he.by', hz, Option.bind_some, hx, slCells]
  have hn : nrmE 1 [V.f x] = [.f x] := by
    unfold nrmE; split
    · rfl
    · simp [nrmV, hx1]
  rw [hn]
  unfold app
  rw [if_pos ⟨by omega, by simp, he.by0⟩]
  exact (if_pos (by omega)).trans (by simp [newRow, toFs, V.f?])
/-- an 'own' function of one value that hands over a row of its own -/
theorem ownK_row {po : Pol} {zp zr : List Value} {es c : Nat} {z : Value} {v : V} {l : List F} (hp : po = .own [.val] [.own es] zp zr) (hz : zr.length = 1) (hf : flat v = true) (kp K : V → H → R) :
    ownK po z [v] h (some (.ret (.ref h.length 0 c es), h ++ [.fz l])) kp K = K (.ref h.length 0 c es) (h ++ [.fz l]) := by
  subst hp
  obtain ⟨z0, rfl⟩ := List.length_eq_one_iff.1 hz
  unfold ownK onCall
  simp only [tidy]
  have hpin : pinOf [Sh.val] [v] = none := rfl
  simp only [hpin, List.map_cons, List.map_nil, unpin, takesL, takes, givs, refsOf_flat hf, List.append_nil, kill_nil]
  simp [reR, reS, asRef, asFz]
end
end Go.Abs
