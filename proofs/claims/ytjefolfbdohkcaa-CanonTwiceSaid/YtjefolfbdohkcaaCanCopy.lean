/-
  module.Copy: in any heap.
-/
import Derived.Test.YtjefolfbdohkcaaCanSpec
import Derived.Test.YtjefolfbdohkcaaRules
set_option autoImplicit false
set_option linter.unusedVariables false
set_option linter.unusedSimpArgs false
namespace Go.Proofs.Ytjefolfbdohkcaa
open Go Go.Abs
def okC (m : Abs.Mod) : Prop := m.strings.length ≤ 10000 ∧ m.globals.length ≤ 1000 ∧ m.funcs.length ≤ 1000 ∧ m.entries.length ≤ 1000 ∧ ∀ f ∈ m.funcs, f.locals.length ≤ 1000 ∧ f.sites.length ≤ 1000 ∧ f.body.length ≤ 1000 ∧ okB f.body
/-- a function's row behind a copy: its lists are objects -/
def rowV (n j : Nat) (f : MFun) : List V := [N .i64 f.name, N .i64 f.params, .ref (n + 2 * j) 0 f.locals.length 1, .ref (n + 2 * j + 1) 0 f.sites.length 1, .f (.lst f.body.length (stmtsF f.body))]
def rowsV (n : Nat) : Nat → List MFun → List V
  | _, [] => []
  | j, f :: r => rowV n j f ++ rowsV n (j + 1) r
def objs : List MFun → H
  | [] => []
  | f :: r => .fz (kF .i64 f.locals) :: .fz (kF .i64 f.sites) :: objs r
theorem rowV_len (n j : Nat) (f : MFun) : (rowV n j f).length = 5 := rfl
theorem rowsV_len (n : Nat) : ∀ (l : List MFun) (j : Nat), (rowsV n j l).length = l.length * 5
  | [], _ => rfl
  | f :: r, j => by simp only [rowsV, List.length_append, rowV_len, rowsV_len n r, List.length_cons]; omega
theorem rowsV_append (n : Nat) : ∀ (a b : List MFun) (j : Nat), rowsV n j (a ++ b) = rowsV n j a ++ rowsV n (j + a.length) b
  | [], b, j => by simp [rowsV]
  | f :: a, b, j => by simp only [List.cons_append, rowsV, rowsV_append n a b, List.append_assoc, List.length_cons]; congr 3; omega
theorem objs_len : ∀ l : List MFun, (objs l).length = 2 * l.length
  | [] => rfl
  | f :: r => by simp [objs, objs_len r]; omega
theorem objs_append : ∀ a b : List MFun, objs (a ++ b) = objs a ++ objs b
  | [], b => rfl
  | f :: a, b => by simp [objs, objs_append a b]
theorem gL_vl {h : H} {k off c : Nat} {o : Ob} {L : List V} {l : List F} (h1 : h[k]? = some o) (hl : o.vl = some L) (h2 : L[off]? = some (.f (.lst c l))) (K : V → R) : gL (.ptr k off) h K = K (.f (.lst c l)) := by
  cases o with
  | cells cs => cases hl; rw [gL_c h1 h2]; rfl
  | fz cs =>
    cases hl
    rw [List.getElem?_map, Option.map_eq_some_iff] at h2
    obtain ⟨x, hx, e⟩ := h2
    cases e
    exact gL_zl h1 hx K
  | _ => cases hl
theorem ldF27 (k off : Nat) : ldFoot Try.prog 27 (.ptr k off) = .ldc k off 1 := by kernel_rfl
theorem ldF40 (k off : Nat) : ldFoot Try.prog 40 (.ptr k off) = .ldc k off 1 := by kernel_rfl
theorem u28 : Try.prog.underlying 28 = some (.slice 42) := by kernel_rfl
theorem u27 : Try.prog.underlying 27 = some (.slice 3) := by kernel_rfl
theorem u25 : Try.prog.underlying 25 = some (.slice 9) := by kernel_rfl
theorem s42 : szOf Try.prog 42 = some 5 := by kernel_rfl
theorem s3 : szOf Try.prog 3 = some 1 := by kernel_rfl
theorem s9 : szOf Try.prog 9 = some 1 := by kernel_rfl
theorem poI : ∃ zp zr, w0.po 46 = .own [.val] [.own 1] zp zr ∧ zr.length = 1 := ⟨_, _, rfl, rfl⟩
theorem poS : ∃ zp zr, w0.po 38 = .own [.val] [.own 1] zp zr ∧ zr.length = 1 := ⟨_, _, rfl, rfl⟩
theorem poF : ∃ zp zr, w0.po 47 = .own [.val] [.own 5] zp zr ∧ zr.length = 1 := ⟨_, _, rfl, rfl⟩
theorem footI (x : F) (h : H) : ownFoot (w0.po 46) [.f x] h = .wr [] h.length := rfl
theorem callI {n : Nat} {c : List F} (h : H) (hc : c.length = n) (hb : n ≤ 1000000000000) (z : Value) (kp K : V → H → R) : ownK (w0.po 46) z [.f (.lst n c)] h (run w0 46 [.f (.lst n c)] h) kp K = K (.ref h.length 0 n 1) (h ++ [.fz c]) := by
  obtain ⟨zp, zr, h1, h2⟩ := poI
  rw [cloneI_any h hc hb, ownK_row h1 h2 rfl]
/-- a list that is handed in: no object of anybody's own is behind it -/
def Arg (v : V) (n : Nat) (c : List F) : Prop := ∃ v', (∀ K : V → R, coeSl v K = K v') ∧ refsOf v' = [] ∧ ∀ (h : H) (K : V → R), (if flat v' = true then K v' else frz1K h v' K) = K (.f (.lst n c))
theorem arg_lst (n : Nat) (c : List F) : Arg (.f (.lst n c)) n c := ⟨_, fun K => rfl, rfl, fun h K => rfl⟩
theorem arg_nil : Arg nilS 0 [] := ⟨_, fun K => coeSl_nil K, rfl, fun h K => rfl⟩
theorem call_arg {w : World0} {f : FuncId} {fn : Func} {rs : List Sh} (ho : OwnFn w f fn [.val] rs) {v : V} {x : V} (h : H) (hlen : 1 ≤ fn.ntmps) (hr : refsOf v = []) (hv : ∀ (h : H) (K : V → R), (if flat v = true then K v else frz1K h v K) = K x) :
    run w f [v] h = graft h none (coreOf w f fn rs none [x] []) := by
  rw [own_call ho _ h (by simpa using hlen)]
  have hp : pinOf [Sh.val] [v] = none := rfl
  have ht : takesL h [Sh.val] [v] = [] := by simp [takesL, takes]
  have hg : givs [Sh.val] [v] = [] := by simp [givs, hr]
  simp only [hp, Option.isSome_none, Bool.false_eq_true, if_false, List.map_cons, List.map_nil, unpin, ht, hg, Option.map_none, List.append_nil]
  unfold canonsK canonK
  refine (hv (only [] [] 0 (noLent h)) (fun q => canonsK h (only [] [] 0 (noLent h)) [] [] [] [] [] fun cs' nh2 us2 => graft (kill [] 0 h) none (coreOf w f fn rs none (q :: cs') nh2))).trans ?_
  rw [kill_nil]
  rfl
theorem ownK_row' {po : Pol} {zp zr : List Value} {es c : Nat} {z : Value} {v : V} {l : List F} {h : H} (hp : po = .own [.val] [.own es] zp zr) (hz : zr.length = 1) (hr : refsOf v = []) (kp K : V → H → R) :
    ownK po z [v] h (some (.ret (.ref h.length 0 c es), h ++ [.fz l])) kp K = K (.ref h.length 0 c es) (h ++ [.fz l]) := by
  subst hp
  obtain ⟨z0, rfl⟩ := List.length_eq_one_iff.1 hz
  unfold ownK onCall
  simp only [tidy]
  have hpin : pinOf [Sh.val] [v] = none := rfl
  simp only [hpin, List.map_cons, List.map_nil, unpin, takesL, takes, givs, hr, List.nil_append, List.append_nil, kill_nil]
  simp [reR, reS, asRef, asFz]
theorem foot_arg {po : Pol} {zp zr : List Value} {rs : List Sh} {v : V} (hp : po = .own [.val] rs zp zr) (hr : refsOf v = []) (h : H) : ownFoot po [v] h = .wr [] h.length := by
  subst hp
  have hpin : pinOf [Sh.val] [v] = none := rfl
  simp [ownFoot, hpin, unpin, takesL, takes, givs, hr]
theorem argS {v : V} {n : Nat} {c : List F} (h : H) (hr : refsOf v = []) (hv : ∀ (h : H) (K : V → R), (if flat v = true then K v else frz1K h v K) = K (.f (.lst n c))) (hc : c.length = n) (hb : n ≤ 1000000000000) (z : Value) (kp K : V → H → R) : ownK (w0.po 38) z [v] h (run w0 38 [v] h) kp K = K (.ref h.length 0 n 1) (h ++ [.fz c]) := by
  obtain ⟨zp, zr, h1, h2⟩ := poS
  have e := cloneS_any h hc hb
  rw [call_vals own_cloneS (of_decide_eq_true (by kernel_rfl)) rfl] at e
  rw [call_arg own_cloneS h (of_decide_eq_true (by kernel_rfl)) hr hv, e, ownK_row' h1 h2 hr]
theorem argI {v : V} {n : Nat} {c : List F} (h : H) (hr : refsOf v = []) (hv : ∀ (h : H) (K : V → R), (if flat v = true then K v else frz1K h v K) = K (.f (.lst n c))) (hc : c.length = n) (hb : n ≤ 1000000000000) (z : Value) (kp K : V → H → R) : ownK (w0.po 46) z [v] h (run w0 46 [v] h) kp K = K (.ref h.length 0 n 1) (h ++ [.fz c]) := by
  obtain ⟨zp, zr, h1, h2⟩ := poI
  have e := cloneI_any h hc hb
  rw [call_vals own_cloneI (of_decide_eq_true (by kernel_rfl)) rfl] at e
  rw [call_arg own_cloneI h (of_decide_eq_true (by kernel_rfl)) hr hv, e, ownK_row' h1 h2 hr]
theorem argF {v : V} {n : Nat} {c : List F} (h : H) (hr : refsOf v = []) (hv : ∀ (h : H) (K : V → R), (if flat v = true then K v else frz1K h v K) = K (.f (.lst n c))) (hc : c.length = n * 5) (hb : n ≤ 1000000000) (z : Value) (kp K : V → H → R) : ownK (w0.po 47) z [v] h (run w0 47 [v] h) kp K = K (.ref h.length 0 n 5) (h ++ [.fz c]) := by
  obtain ⟨zp, zr, h1, h2⟩ := poF
  have e := cloneF_any h hc hb
  rw [call_vals own_cloneF (of_decide_eq_true (by kernel_rfl)) rfl] at e
  rw [call_arg own_cloneF h (of_decide_eq_true (by kernel_rfl)) hr hv, e, ownK_row' h1 h2 hr]
theorem ite_go {c : Prop} [Decidable c] {a b r : R} (h : c) (e : a = r) : (if c then a else b) = r := (if_pos h).trans e
/-- stores into a row that is one's own, frozen or not -/
theorem stC_vl {h : H} {k off c : Nat} {o : Ob} {L : List V} {l : List F} (h1 : h[k]? = some o) (hl : o.vl = some L) (h2 : off < L.length) : ∃ o', o'.vl = some (L.set off (.f (.lst c l))) ∧ ∀ K : H → R, stC (.ptr k off) [.f (.lst c l)] h K = K (h.set k o') := by
  cases o with
  | cells cs => cases hl; exact ⟨.cells (L.set off (.f (.lst c l))), rfl, fun K => stC_one (o := .dead) h1 h2 K⟩
  | fz zs =>
    cases hl
    exact ⟨.fz (zs.set off (.lst c l)), by simp [Ob.vl, List.map_set], fun K => stC_z h1 rfl (by simpa using h2) K⟩
  | _ => cases hl
section
variable (m : Abs.Mod) (hm : okC m) (h : H)
include hm
def refsC (n : Nat) (m : Abs.Mod) : List V := [.ref (n + 2) 0 m.strings.length 1, .ref (n + 3) 0 m.globals.length 1, .ref (n + 5) 0 m.funcs.length 5, .ref (n + 4) 0 m.entries.length 1]
theorem copy_loop : ∀ (rest : List MFun) (i : Nat) (o : Ob), m.funcs.drop i = rest → i ≤ m.funcs.length → o.vl = some (rowsV (h.length + 6) 0 (m.funcs.take i) ++ (funsF rest).map .f) → ∀ (z : List V), z.length = 4 →
    ∃ o', o'.vl = some (rowsV (h.length + 6) 0 m.funcs) ∧
      modCopy_1 h.length 0 (h.length + 1) 0 m.funcs.length i (h ++ ([.cells (refsC h.length m), .cells z, .fz (sF m.strings), .fz (kF .i64 m.globals), .fz (kF .i64 m.entries), o] ++ objs (m.funcs.take i))) =
        some (.ret (.agg (refsC h.length m)), h ++ ([.cells (refsC h.length m), .cells (refsC h.length m), .fz (sF m.strings), .fz (kF .i64 m.globals), .fz (kF .i64 m.entries), o'] ++ objs m.funcs))
  | [], i, o, hd, hi, ho, z, hz => by
    have hfull : m.funcs.take i = m.funcs := List.take_of_length_le (done_of_drop hd)
    rw [hfull] at ho ⊢
    refine ⟨o, by simpa using ho, ?_⟩
    have := done_of_drop hd
    rw [modCopy_1_eq, if_neg (by simp; omega)]
    rw [gA_c (cs := refsC h.length m) (by rw [show h.length = h.length + 0 by omega, get_tail]; rfl) (by simp [refsC])]
    rw [stL_c (cs := z) (by rw [get_tail]; rfl) (by simp [refsC]) (by omega), set_tail]
    have hsp : splice z 0 ((List.drop 0 (refsC h.length m)).take 4) = refsC h.length m := by
      match z, hz with
      | [a, b, c, d], _ => rfl
    rw [hsp]
    simp only [List.cons_append, List.nil_append, List.set_cons_succ, List.set_cons_zero]
    rw [gA_c (cs := refsC h.length m) (by rw [get_tail]; rfl) (by simp [refsC])]
    rfl
  | f :: rest, i, o, hd, hi, ho, z, hz => by
    have hlt := lt_of_drop hd
    have hmem : f ∈ m.funcs := List.mem_of_mem_drop (by rw [hd]; simp)
    obtain ⟨hs, hg, hf, he, hfs⟩ := hm
    obtain ⟨b1, b2, b3, b4⟩ := hfs f hmem
    have htl : (m.funcs.take i).length = i := by simp; omega
    have hpre : (rowsV (h.length + 6) 0 (m.funcs.take i)).length = i * 5 := by rw [rowsV_len, htl]
    have htk : m.funcs.take (i + 1) = m.funcs.take i ++ [f] := by
      rw [List.take_succ_eq_append_getElem hlt]
      congr 2
      have := drop_get hlt
      rw [hd] at this; exact (List.cons.inj this).1.symm
    -- the row
    have hrow : ∀ j, j < 5 → (rowsV (h.length + 6) 0 (m.funcs.take i) ++ (funsF (f :: rest)).map .f)[i * 5 + j]? = (f.F.map V.f)[j]? := by
      intro j hj
      rw [List.getElem?_append_right (by omega), hpre, funsF, List.flatMap_cons, List.map_append, List.getElem?_append_left (by simp [MFun.F_len]; omega)]
      congr 1; omega
    have hL : (rowsV (h.length + 6) 0 (m.funcs.take i) ++ (funsF (f :: rest)).map V.f).length = m.funcs.length * 5 := by
      rw [List.length_append, hpre, List.length_map, flat_len MFun.F_len, List.length_cons]
      have := congrArg List.length hd
      simp at this
      have : m.funcs.length = i + (rest.length + 1) := by omega
      omega
    have hbig : i * 5 + 5 ≤ m.funcs.length * 5 := by omega
    generalize hT : ([.cells (refsC h.length m), .cells z, .fz (sF m.strings), .fz (kF .i64 m.globals), .fz (kF .i64 m.entries), o] ++ objs (m.funcs.take i) : H) = T
    have hTl : T.length = 6 + 2 * i := by rw [← hT]; simp [objs_len, htl]; omega
    have hT5 : T[5]? = some o := by rw [← hT]; rfl
    have hT0 : T[0]? = some (.cells (refsC h.length m)) := by rw [← hT]; rfl
    have g0 : (h ++ T)[h.length]? = some (.cells (refsC h.length m)) := by rw [show h.length = h.length + 0 by omega, get_tail]; simpa using hT0
    have g5 : (h ++ T)[h.length + 5]? = some o := by rw [get_tail]; exact hT5
    obtain ⟨o2, q1, q2⟩ := stC_vl (h := ((((h ++ T) ++ [Ob.fz (kF .i64 f.locals)]) ++ [Ob.fz (kF .i64 f.sites)]).set (h.length + 5) (.cells ((rowsV (h.length + 6) 0 (m.funcs.take i) ++ (funsF (f :: rest)).map V.f).set (i * 5 + 2) (.ref (h ++ T).length 0 f.locals.length 1)))).set (h.length + 5) (.cells (((rowsV (h.length + 6) 0 (m.funcs.take i) ++ (funsF (f :: rest)).map V.f).set (i * 5 + 2) (.ref (h ++ T).length 0 f.locals.length 1)).set (i * 5 + 3) (.ref ((h ++ T) ++ [Ob.fz (kF .i64 f.locals)]).length 0 f.sites.length 1))))
      (k := h.length + 5) (off := i * 5 + 4) (c := f.body.length) (l := stmtsF f.body) (get_set' _ _ (by simp [hTl]; omega)) rfl (by rw [List.length_set, List.length_set, hL]; omega)
    have hrows : (((rowsV (h.length + 6) 0 (m.funcs.take i) ++ (funsF (f :: rest)).map V.f).set (i * 5 + 2) (.ref (h ++ T).length 0 f.locals.length 1)).set (i * 5 + 3) (.ref ((h ++ T) ++ [Ob.fz (kF .i64 f.locals)]).length 0 f.sites.length 1)).set (i * 5 + 4) (.f (.lst f.body.length (stmtsF f.body))) = rowsV (h.length + 6) 0 (m.funcs.take (i + 1)) ++ (funsF rest).map .f := by
      simp only [List.length_append, hTl, List.length_singleton]
      rw [htk, rowsV_append, htl, List.append_assoc]
      rw [List.set_append_right _ _ (by omega), List.set_append_right _ _ (by omega), List.set_append_right _ _ (by omega), hpre]
      congr 1
      rw [show i * 5 + 2 - i * 5 = 2 by omega, show i * 5 + 3 - i * 5 = 3 by omega, show i * 5 + 4 - i * 5 = 4 by omega, funsF, List.flatMap_cons]
      simp only [MFun.F, List.cons_append, List.nil_append, List.map_cons, List.set_cons_succ, List.set_cons_zero, rowsV, rowV, List.append_nil, Nat.zero_add]
      have e1 : h.length + (6 + 2 * i) = h.length + 6 + 2 * i := by omega
      rw [e1]
    have hheap : (((h ++ T) ++ [Ob.fz (kF .i64 f.locals)]) ++ [Ob.fz (kF .i64 f.sites)]).set (h.length + 5) o2 = h ++ ([.cells (refsC h.length m), .cells z, .fz (sF m.strings), .fz (kF .i64 m.globals), .fz (kF .i64 m.entries), o2] ++ objs (m.funcs.take (i + 1))) := by
      rw [List.append_assoc, List.append_assoc, set_tail, htk, objs_append, ← hT]
      rfl
    rw [hrows] at q1
    obtain ⟨o', p1, p2⟩ := copy_loop rest (i + 1) o2 (drop_next hd) (by omega) q1 z hz
    refine ⟨o', p1, Eq.trans ?_ p2⟩
    rw [modCopy_1_eq, if_pos (by simp; omega), gL_c g0 rfl]
    simp only [refsC, List.getElem?_cons_succ, List.getElem?_cons_zero, coeSl_ref, Nat.zero_add]
    rw [idx_ref u28 s42 (by omega) (by omega)]
    simp only [nilK_ptr, addP_ptr, Option.bind_some, Int.toNat_natCast, Nat.zero_add]
    rw [gL_vl g5 ho (hrow 2 (by omega))]
    simp only [onFoot_eq, ldF27, ldF40, footI]
    rw [callI _ (by simp) (by omega)]
    rw [gL_vl (get_app g5 _) ho (hrow 3 (by omega))]
    refine ite_go (by simp [nocl, Foot.clash] <;> omega) ?_
    simp only [onFoot_eq, footI]
    rw [callI _ (by simp) (by omega)]
    rw [gL_vl (get_app (get_app g5 _) _) ho (hrow 4 (by omega))]
    refine ite_go (by simp [nocl, Foot.clash] <;> omega) ?_
    rw [modbody_spec _ f.body (Nat.le_refl _) b3 b4, xL_some]
    -- the stores
    rw [stV_ref (get_app (get_app g5 _) _) ho (by rw [hL]; omega)]
    rw [stV_ref (L := (rowsV (h.length + 6) 0 (m.funcs.take i) ++ (funsF (f :: rest)).map V.f).set (i * 5 + 2) _) (get_set' _ _ (by simp [hTl]; omega)) rfl (by rw [List.length_set, hL]; omega)]
    rw [q2]
    simp only [List.set_set]
    rw [hheap, wrap_i64 (by omega) (by omega), show ((i : Int) + 1) = ((i + 1 : Nat) : Int) by omega]
    rfl
theorem copy_spec {v1 v2 v3 v4 : V} (a1 : Arg v1 m.strings.length (sF m.strings)) (a2 : Arg v2 m.globals.length (kF .i64 m.globals)) (a3 : Arg v3 m.funcs.length (funsF m.funcs)) (a4 : Arg v4 m.entries.length (kF .i64 m.entries)) : ∃ o', o'.vl = some (rowsV (h.length + 6) 0 m.funcs) ∧
    run w0 21 [.agg [v1, v2, v3, v4]] h = some (.ret (.agg (refsC h.length m)), h ++ ([.cells (refsC h.length m), .cells (refsC h.length m), .fz (sF m.strings), .fz (kF .i64 m.globals), .fz (kF .i64 m.entries), o'] ++ objs m.funcs)) := by
  have hm0 := hm
  obtain ⟨hs, hg, hf, he, hfs⟩ := hm0
  obtain ⟨o', h1, h2⟩ := copy_loop m hm h m.funcs 0 (.fz (funsF m.funcs)) rfl (Nat.zero_le _) (by simp [Ob.vl, rowsV]) [nilS, nilS, nilS, nilS] rfl
  refine ⟨o', h1, ?_⟩
  obtain ⟨w1, b1, c1, d1⟩ := a1
  obtain ⟨w2, b2, c2, d2⟩ := a2
  obtain ⟨w3, b3, c3, d3⟩ := a3
  obtain ⟨w4, b4, c4, d4⟩ := a4
  obtain ⟨zpS, zrS, pS, _⟩ := poS
  obtain ⟨zpI, zrI, pI, _⟩ := poI
  obtain ⟨zpF, zrF, pF, _⟩ := poF
  let vs : List V := [v1, v2, v3, v4]
  rw [← h2, modCopy_eq]
  simp only [newO_eq]
  rw [show Ob.cells [v1, v2, v3, v4] = .cells vs from rfl]
  have g0 : ((h ++ [.cells vs]) ++ [.cells [nilS, nilS, nilS, nilS]])[h.length]? = some (.cells vs) := get_app (get_new _ _) _
  rw [gL_c g0 rfl, b1, argS _ c1 d1 (by simp) (by omega)]
  simp only [onFoot_eq, foot_arg pS c1]
  rw [gL_c (get_app g0 _) rfl, b2]
  refine ite_go (by simp [nocl, Foot.clash] <;> omega) ?_
  rw [argI _ c2 d2 (by simp) (by omega)]
  simp only [foot_arg pI c2]
  rw [gL_c (get_app (get_app g0 _) _) rfl, b4]
  refine ite_go (by simp [nocl, Foot.clash] <;> omega) ?_
  rw [argI _ c4 d4 (by simp) (by omega)]
  simp only [foot_arg pI c4]
  rw [gL_c (get_app (get_app (get_app g0 _) _) _) rfl, b3]
  refine ite_go (by simp [nocl, Foot.clash] <;> omega) ?_
  rw [argF _ c3 d3 (flat_len MFun.F_len _) (by omega)]
  have eh : ((((((h ++ [.cells vs]) ++ [.cells [nilS, nilS, nilS, nilS]]) ++ [.fz (sF m.strings)]) ++ [.fz (kF .i64 m.globals)]) ++ [.fz (kF .i64 m.entries)]) ++ [.fz (funsF m.funcs)] : H) = h ++ [.cells vs, .cells [nilS, nilS, nilS, nilS], .fz (sF m.strings), .fz (kF .i64 m.globals), .fz (kF .i64 m.entries), .fz (funsF m.funcs)] := by simp
  rw [eh]
  have gt : ∀ (x : List V) (t : H), (h ++ (.cells x :: t))[h.length]? = some (.cells x) := fun x t => by rw [show h.length = h.length + 0 by omega, get_tail]; rfl
  have st : ∀ (x : List V) (t : H) (o : Ob), (h ++ (.cells x :: t)).set h.length o = h ++ (o :: t) := fun x t o => by rw [show h.length = h.length + 0 by omega, set_tail]; rfl
  rw [stV_ref (gt _ _) rfl (by simp [vs]), st, stV_ref (gt _ _) rfl (by simp [vs]), st, stV_ref (gt _ _) rfl (by simp [vs]), st, stV_ref (gt _ _) rfl (by simp [vs]), st]
  simp only [vs, List.set_cons_succ, List.set_cons_zero, List.length_append, List.length_cons, List.length_nil, Nat.zero_add]
  rw [gL_c (gt _ _) rfl]
  simp only [coeSl_ref, lnV_ref]
  rfl
end
end Go.Proofs.Ytjefolfbdohkcaa
/-
  rule.Used of a copy.
-/
namespace Go.Proofs.Ytjefolfbdohkcaa
open Go Go.Abs
/-- what was there is there -/
structure Ext (h h' : H) : Prop where
  len : h.length ≤ h'.length
  at_ : ∀ k, k < h.length → h'[k]? = h[k]?
theorem Ext.refl (h : H) : Ext h h := ⟨Nat.le_refl _, fun _ _ => rfl⟩
theorem Ext.app {a b : H} (x : Ext a b) (t : H) : Ext a (b ++ t) := ⟨by have := x.len; simp; omega, fun k hk => by rw [List.getElem?_append_left (Nat.lt_of_lt_of_le hk x.len)]; exact x.at_ k hk⟩
theorem Ext.set {a b : H} (x : Ext a b) {k : Nat} (hk : a.length ≤ k) (o : Ob) : Ext a (b.set k o) := ⟨by simpa using x.len, fun j hj => by rw [List.getElem?_set_ne (by omega)]; exact x.at_ j hj⟩
theorem Ext.get {a b : H} (x : Ext a b) {k : Nat} {o : Ob} (e : a[k]? = some o) : b[k]? = some o := by rw [x.at_ k (get_lt e), e]
/-- the lists of functions, each an object of its own -/
def ObjsAt (h : H) (n : Nat) (fs : List MFun) : Prop := ∀ (j : Nat) (f : MFun), fs[j]? = some f → h[n + 2 * j]? = some (.fz (kF .i64 f.locals)) ∧ h[n + 2 * j + 1]? = some (.fz (kF .i64 f.sites))
theorem el27 : El Try.prog 27 3 1 8 := ⟨by kernel_rfl, by kernel_rfl, by kernel_rfl, by kernel_rfl, by omega, by omega⟩
theorem el25 : El Try.prog 25 9 1 16 := ⟨by kernel_rfl, by kernel_rfl, by kernel_rfl, by kernel_rfl, by omega, by omega⟩
theorem rows_drop (n : Nat) {fs rest : List MFun} {f : MFun} {i : Nat} (h : fs.drop i = f :: rest) : ((rowsV n 0 fs).drop (i * 5)).take 5 = rowV n i f ∧ i * 5 + 5 ≤ (rowsV n 0 fs).length := by
  have hlt := lt_of_drop h
  have hs : fs = fs.take i ++ f :: rest := by rw [← h, List.take_append_drop]
  have hl : (fs.take i).length = i := by simp; omega
  have : rowsV n 0 fs = rowsV n 0 (fs.take i) ++ (rowV n i f ++ rowsV n (i + 1) rest) := by
    conv => lhs; rw [hs]
    rw [rowsV_append, hl, Nat.zero_add]; rfl
  refine ⟨?_, by rw [rowsV_len]; omega⟩
  rw [this, List.drop_left' (by rw [rowsV_len, hl]), List.take_left' (rowV_len n i f)]
/-- a row that holds references isn't frozen -/
theorem vl_cells {o : Ob} {L : List V} (hl : o.vl = some L) {j a b c d : Nat} (hj : L[j]? = some (.ref a b c d)) : o = .cells L := by
  cases o with
  | cells cs => cases hl; rfl
  | fz zs => cases hl; rw [List.getElem?_map, Option.map_eq_some_iff] at hj; obtain ⟨x, _, e⟩ := hj; cases e
  | _ => cases hl
theorem rows_cells {o : Ob} {n : Nat} {fs rest : List MFun} {f : MFun} {i : Nat} (hl : o.vl = some (rowsV n 0 fs)) (h : fs.drop i = f :: rest) : o = .cells (rowsV n 0 fs) := by
  obtain ⟨h1, h2⟩ := rows_drop n h
  refine vl_cells hl (j := i * 5 + 2) (a := n + 2 * i) (b := 0) (c := f.locals.length) (d := 1) ?_
  have : ((rowsV n 0 fs).drop (i * 5)).take 5 = rowV n i f := h1
  have h3 := congrArg (fun l => l[2]?) this
  simp only [List.getElem?_take, List.getElem?_drop] at h3
  exact h3
theorem app_take (k : IntKind) (a b : List Int) : (List.drop 0 (kF k a)).take (a.length * 1) ++ (List.drop 0 (kF k b)).take (b.length * 1) = kF k (a ++ b) := by
  rw [List.drop_zero, List.drop_zero, List.take_of_length_le (by simp), List.take_of_length_le (by simp), kF_append]
def usedF (f : MFun) : List Int := f.name :: (f.locals ++ f.sites)
theorem used_loop (h : H) (fs : List MFun) (n kR : Nat) (o : Ob) (hR : h[kR]? = some o) (ho : o.vl = some (rowsV n 0 fs)) (hO : ObjsAt h n fs) (hfs : fs.length ≤ 1000) (hbd : ∀ f ∈ fs, f.locals.length ≤ 1000 ∧ f.sites.length ≤ 1000) :
    ∀ (rest : List MFun) (i : Nat) (acc : List Int) (K : Nat) (h' : H), fs.drop i = rest → i ≤ fs.length → Ext h h' → h.length ≤ K → h'[K]? = some (.fz (kF .i64 acc)) → acc.length ≤ 10000 + i * 3000 →
      ∃ K' h'', ruleUsed_1 (.ref K 0 acc.length 1) (.ref kR 0 fs.length 5) fs.length i h' = some (.ret (.ref K' 0 (acc ++ rest.flatMap usedF).length 1), h'') ∧ Ext h h'' ∧ h.length ≤ K' ∧ h''[K']? = some (.fz (kF .i64 (acc ++ rest.flatMap usedF)))
  | [], i, acc, K, h', hd, hi, hx, hK, hk, hl => by
    have := done_of_drop hd
    refine ⟨K, h', ?_, hx, hK, by simpa using hk⟩
    rw [ruleUsed_1_eq, if_neg (by simp; omega)]
    simp
  | f :: rest, i, acc, K, h', hd, hi, hx, hK, hk, hl => by
    have hlt := lt_of_drop hd
    have hmem : f ∈ fs := List.mem_of_mem_drop (by rw [hd]; simp)
    obtain ⟨b1, b2⟩ := hbd f hmem
    have hget : fs[i]? = some f := by have h0 := congrArg (fun l => l[0]?) hd; simpa [List.getElem?_drop] using h0
    obtain ⟨ol, os⟩ := hO i f hget
    obtain ⟨r1, r2⟩ := rows_drop n hd
    have hoc := rows_cells ho hd
    subst hoc
    have hKl := get_lt hk
    have hRl := get_lt hR
    have hlen := hx.len
    have h1l := get_lt ol
    have h2l := get_lt os
    -- ih
    let f1 : H := (h' ++ [.cells (rowV n i f)])
    let g1 : H := f1.set K .dead ++ [.fz (kF .i64 (acc ++ [f.name]))]
    let g2 : H := g1.set f1.length .dead ++ [.fz (kF .i64 (acc ++ [f.name] ++ f.locals))]
    let g3 : H := g2.set g1.length .dead ++ [.fz (kF .i64 (acc ++ [f.name] ++ f.locals ++ f.sites))]
    have l1 : f1.length = h'.length + 1 := by simp [f1]
    have l2 : g1.length = h'.length + 2 := by simp [g1, l1]
    have l3 : g2.length = h'.length + 3 := by simp [g2, l2]
    have x1 : Ext h f1 := hx.app _
    have x2 : Ext h g1 := (x1.set hK _).app _
    have x3 : Ext h g2 := (x2.set (by omega) _).app _
    have x4 : Ext h g3 := (x3.set (by omega) _).app _
    have k1 : g1[f1.length]? = some (.fz (kF .i64 (acc ++ [f.name]))) := by
      show (f1.set K .dead ++ _)[f1.length]? = _
      rw [List.getElem?_append_right (by simp)]; simp
    have k2 : g2[g1.length]? = some (.fz (kF .i64 (acc ++ [f.name] ++ f.locals))) := by
      show (g1.set f1.length .dead ++ _)[g1.length]? = _
      rw [List.getElem?_append_right (by simp)]; simp
    have k3 : g3[g2.length]? = some (.fz (kF .i64 (acc ++ [f.name] ++ f.locals ++ f.sites))) := by
      show (g2.set g1.length .dead ++ _)[g2.length]? = _
      rw [List.getElem?_append_right (by simp)]; simp
    obtain ⟨K', h'', p1, p2, p3, p4⟩ := used_loop h fs n kR (.cells (rowsV n 0 fs)) hR ho hO hfs hbd rest (i + 1) (acc ++ [f.name] ++ f.locals ++ f.sites) g2.length g3 (drop_next hd) (by omega) x4 (by omega) k3 (by simp; omega)
    have e : acc ++ [f.name] ++ f.locals ++ f.sites ++ rest.flatMap usedF = acc ++ (f :: rest).flatMap usedF := by simp [usedF]
    rw [e] at p1 p4
    refine ⟨K', h'', Eq.trans ?_ p1, p2, p3, p4⟩
    rw [ruleUsed_1_eq, if_pos (by simp; omega), idx_ref u28 s42 (by omega) (by omega)]
    simp only [Int.toNat_natCast, Nat.zero_add]
    rw [gA_c (hx.get hR) (by omega), r1]
    simp only [newO_eq]
    rw [stL_c (get_new _ _) (rowV_len n i f) (by simp)]
    have hs0 : splice [N .i64 0, N .i64 0, nilS, nilS, nilS] 0 (rowV n i f) = rowV n i f := rfl
    rw [hs0]
    have hset : (h' ++ [Ob.cells [N .i64 0, N .i64 0, nilS, nilS, nilS]]).set h'.length (.cells (rowV n i f)) = f1 := by
      rw [show h'.length = h'.length + 0 by omega, set_tail]; rfl
    rw [hset]
    have c1 : f1[h'.length]? = some (.cells (rowV n i f)) := get_new _ _
    have kf : f1[K]? = some (.fz (kF .i64 acc)) := get_app hk _
    rw [gI_c c1 rfl]
    rw [append_l1 el27 u27 rfl kf (by simp) (by omega)]
    have e1 : (List.drop 0 (kF .i64 acc)).take acc.length ++ [F.s (.int .i64 f.name)] = kF .i64 (acc ++ [f.name]) := by
      rw [List.drop_zero, List.take_of_length_le (by simp), kF_append]; rfl
    rw [e1]
    have d1 : g1[h'.length]? = some (.cells (rowV n i f)) := by
      show (f1.set K .dead ++ _)[h'.length]? = _
      rw [List.getElem?_append_left (by simp [l1]), List.getElem?_set_ne (by omega)]; exact c1
    simp only [onFoot_eq, objOf]
    rw [show f1.set K Ob.dead ++ [Ob.fz (kF .i64 (acc ++ [f.name]))] = g1 from rfl]
    rw [gL_c d1 rfl]
    simp only [coeSl_ref]
    refine ite_go (by simp [nocl, Foot.clash] <;> omega) ?_
    rw [show acc.length + 1 = (acc ++ [f.name]).length by simp]
    rw [append_zr el27 u27 (x2.get ol) (by simp) k1 (by simp) (by simp; omega)]
    rw [app_take]
    have d2 : g2[h'.length]? = some (.cells (rowV n i f)) := by
      show (g1.set f1.length .dead ++ _)[h'.length]? = _
      rw [List.getElem?_append_left (by simp [l2] <;> omega), List.getElem?_set_ne (by omega)]; exact d1
    rw [show g1.set f1.length Ob.dead ++ [Ob.fz (kF .i64 (acc ++ [f.name] ++ f.locals))] = g2 from rfl]
    rw [gL_c d2 rfl]
    simp only [coeSl_ref]
    refine ite_go (by simp [nocl, Foot.clash] <;> omega) ?_
    rw [show (acc ++ [f.name]).length + f.locals.length = (acc ++ [f.name] ++ f.locals).length by simp; omega]
    rw [append_zr el27 u27 (x3.get os) (by simp) k2 (by simp) (by simp; omega)]
    rw [app_take]
    rw [show g2.set g1.length Ob.dead ++ [Ob.fz (kF .i64 (acc ++ [f.name] ++ f.locals ++ f.sites))] = g3 from rfl]
    rw [show (acc ++ [f.name] ++ f.locals).length + f.sites.length = (acc ++ [f.name] ++ f.locals ++ f.sites).length by simp; omega]
    rw [wrap_i64 (by omega) (by omega)]
    rw [show ((i : Int) + 1) = ((i + 1 : Nat) : Int) by omega]
theorem used_spec (h : H) (m : Abs.Mod) (hm : okC m) (n kS kG kR kE : Nat) (vS vE : V) (o : Ob) (hG : h[kG]? = some (.fz (kF .i64 m.globals))) (hR : h[kR]? = some o) (ho : o.vl = some (rowsV n 0 m.funcs)) (hO : ObjsAt h n m.funcs) :
    ∃ K h', run w0 22 [.agg [vS, .ref kG 0 m.globals.length 1, .ref kR 0 m.funcs.length 5, vE]] h = some (.ret (.ref K 0 (usedR m).length 1), h') ∧ Ext h h' ∧ h.length ≤ K ∧ h'[K]? = some (.fz (kF .i64 (usedR m))) := by
  obtain ⟨hs, hg, hf, he, hfs⟩ := hm
  let h1 : H := h ++ [.cells [vS, .ref kG 0 m.globals.length 1, .ref kR 0 m.funcs.length 5, vE]]
  let h2 : H := h1 ++ [.fz (kF .i64 m.globals)]
  have l1 : h1.length = h.length + 1 := by simp [h1]
  have l2 : h2.length = h.length + 2 := by simp [h2, l1]
  have x2 : Ext h h2 := ((Ext.refl h).app _).app _
  obtain ⟨K, h', p1, p2, p3, p4⟩ := used_loop h m.funcs n kR o hR ho hO hf (fun f hf' => ⟨(hfs f hf').1, (hfs f hf').2.1⟩) m.funcs 0 m.globals h1.length h2 rfl (Nat.zero_le _) x2 (by omega) (get_new _ _) (by omega)
  have e : m.globals ++ m.funcs.flatMap usedF = usedR m := rfl
  rw [e] at p1 p4
  refine ⟨K, h', Eq.trans ?_ p1, p2, p3, p4⟩
  rw [ruleUsed_eq]
  simp only [newO_eq]
  have c1 : h1[h.length]? = some (.cells [vS, .ref kG 0 m.globals.length 1, .ref kR 0 m.funcs.length 5, vE]) := get_new _ _
  rw [show h ++ [Ob.cells [vS, .ref kG 0 m.globals.length 1, .ref kR 0 m.funcs.length 5, vE]] = h1 from rfl, gL_c c1 rfl]
  simp only [coeSl_ref]
  rw [append_nr el27 u27 (get_app hG _) (by simp) (by omega)]
  have e1 : (List.drop 0 (kF .i64 m.globals)).take (m.globals.length * 1) = kF .i64 m.globals := by rw [List.drop_zero, List.take_of_length_le (by simp)]
  rw [e1, show h1 ++ [Ob.fz (kF .i64 m.globals)] = h2 from rfl, gL_c (get_app c1 _) rfl]
  simp only [coeSl_ref, lnV_ref]
  rfl
end Go.Proofs.Ytjefolfbdohkcaa
