/-
  The document's Same of a module and itself.
-/
import Derived.Test.YtjefolfbdohkcaaCanMath
import Derived.Test.YtjefolfbdohkcaaDocSpec2
import Derived.Test.YtjefolfbdohkcaaMakeSpec5
set_option autoImplicit false
set_option linter.unusedVariables false
set_option linter.unusedSimpArgs false
namespace Go.Proofs.Ytjefolfbdohkcaa
open Go Go.Abs
section
variable {l rest : List MStmt} {s : MStmt} {i : Nat} (h : l.drop i = s :: rest)
include h
theorem at_kind (K : Int → R) : (elem (.lst l.length (stmtsF l)) (i : Int) 7 fun c => atI .u8 (c.drop 0) 0 K) = K s.kind := by
  rw [elem_next MStmt.F_len h, MStmt.F_eq]; simp
theorem at_a (K : Int → Int → R) : (elem (.lst l.length (stmtsF l)) (i : Int) 7 fun c => atI .u8 (c.drop 1) 0 fun n => atI .i64 (c.drop 1) 1 fun m => K n m) = K s.a.k s.a.id := by
  rw [elem_next MStmt.F_len h, MStmt.F_eq]; simp
theorem at_b (K : Int → Int → R) : (elem (.lst l.length (stmtsF l)) (i : Int) 7 fun c => atI .u8 (c.drop 3) 0 fun n => atI .i64 (c.drop 3) 1 fun m => K n m) = K s.b.k s.b.id := by
  rw [elem_next MStmt.F_len h, MStmt.F_eq]; simp
theorem at_args (K : Nat → List F → R) : (elem (.lst l.length (stmtsF l)) (i : Int) 7 fun c => atL (c.drop 5) 0 fun m c => K m c) = K s.args.length (refsF s.args) := by
  rw [elem_next MStmt.F_len h, MStmt.F_eq]; simp
theorem at_body (K : Nat → List F → R) : (elem (.lst l.length (stmtsF l)) (i : Int) 7 fun c => atL (c.drop 6) 0 fun m c => K m c) = K s.body.length (stmtsF s.body) := by
  rw [elem_next MStmt.F_len h, MStmt.F_eq]; simp
end
theorem at_ref {l rest : List MRef} {s : MRef} {i : Nat} (h : l.drop i = s :: rest) (K : Int → Int → R) : (elem (.lst l.length (refsF l)) (i : Int) 2 fun c => atI .u8 c 0 fun n => atI .i64 c 1 fun m => K n m) = K s.k s.id := by
  rw [elem_next MRef.F_len h]; simp [MRef.F]
theorem ints_loop (l : List Int) (hl : l.length ≤ 1048576) : ∀ (rest : List Int) (i : Nat), l.drop i = rest → dsameInts_1 l.length (kF .i64 l) l.length (kF .i64 l) i = some (.ret (B true), [])
  | [], i, hd => by
    have := done_of_drop hd
    rw [dsameInts_1_eq, if_neg (by simp; omega)]
  | n :: rest, i, hd => by
    have hlt := lt_of_drop hd
    rw [dsameInts_1_eq, if_pos (decide_eq_true (by omega)), elem_kF hd, atI_zero, elem_kF hd, atI_zero, if_neg (by simp), show ((i : Nat) : Int) + 1 = ((i + 1 : Nat) : Int) by omega, wrap_i64 (by omega) (by omega)]
    exact ints_loop l hl rest (i + 1) (drop_next hd)
theorem ints_same (l : List Int) (hl : l.length ≤ 1048576) (h : H) : run w0 30 [.f (.lst l.length (kF .i64 l)), .f (.lst l.length (kF .i64 l))] h = some (.ret (B true), h) := by
  rw [dsameInts_run, dsameInts_eq, if_neg (by simp)]
  have : dsameInts_1 l.length (kF .i64 l) l.length (kF .i64 l) ((0 : Nat) : Int) = _ := ints_loop l hl l 0 rfl
  exact (congrArg (withH true h) this).trans (withH_true _ _ _)
theorem body_args {body rest : List MStmt} {s : MStmt} {i : Nat} (hd : body.drop i = s :: rest) (hi : body.length ≤ 1048576) (hl : s.args.length ≤ 1048576) : ∀ (ar : List MRef) (j : Nat), s.args.drop j = ar → dSameBody_2 body.length (stmtsF body) body.length (stmtsF body) i j = dSameBody_1 body.length (stmtsF body) body.length (stmtsF body) ((i + 1 : Nat) : Int)
  | [], j, h => by
    have := done_of_drop h
    have hlt := lt_of_drop hd
    rw [dSameBody_2_eq, at_args hd, if_neg (by simp; omega), show ((i : Nat) : Int) + 1 = ((i + 1 : Nat) : Int) by omega, wrap_i64 (by omega) (by omega)]
  | r :: ar, j, h => by
    have hlt := lt_of_drop h
    rw [dSameBody_2_eq, at_args hd, if_pos (decide_eq_true (by omega)), at_args hd, at_ref h, at_args hd, at_ref h, if_neg (by simp), show ((j : Nat) : Int) + 1 = ((j + 1 : Nat) : Int) by omega, wrap_i64 (by omega) (by omega)]
    exact body_args hd hi hl ar (j + 1) (drop_next h)
theorem body_same (k : Nat) : ∀ (body : List MStmt), SizeOf.sizeOf body ≤ k → body.length ≤ 1000 → okB body → ∀ h : H, run w0 31 [.f (.lst body.length (stmtsF body)), .f (.lst body.length (stmtsF body))] h = some (.ret (B true), h) := by
  induction k with
  | zero => intro body hk; cases body <;> simp at hk
  | succ k ih =>
    intro body hk hl hb h
    have loop : ∀ (rest : List MStmt) (i : Nat), body.drop i = rest → dSameBody_1 body.length (stmtsF body) body.length (stmtsF body) i = some (.ret (B true), []) := by
      intro rest
      induction rest with
      | nil =>
        intro i hd
        have := done_of_drop hd
        rw [dSameBody_1_eq, if_neg (by simp; omega)]
      | cons s rest ihr =>
        intro i hd
        have hlt := lt_of_drop hd
        have hmem : s ∈ body := List.mem_of_mem_drop (by rw [hd]; simp)
        obtain ⟨s1, s2, s3⟩ := okS_parts (okB_mem hb hmem)
        have hsz := sz_mem hmem
        rw [dSameBody_1_eq, if_pos (decide_eq_true (by omega)), at_kind hd, at_kind hd, if_pos (by simp), at_a hd, at_a hd, if_pos (by simp), at_b hd, at_b hd, if_pos (by simp), at_args hd, at_args hd, if_pos (by simp), at_body hd, at_body hd, ih s.body (by omega) s2 s3, pB_some, if_neg (by simp)]
        have := body_args hd (by omega) (by omega) s.args 0 rfl
        exact Eq.trans this (ihr (i + 1) (drop_next hd))
    have e := loop body 0 rfl
    rw [dSameBody_run, dSameBody_eq, if_neg (by simp)]
    exact (congrArg (withH true h) e).trans (withH_true _ _ _)
section
variable (m : Abs.Mod)
noncomputable abbrev DS1 (i : Int) : R := dSame_1 m.strings.length (sF m.strings) m.globals.length (kF .i64 m.globals) m.funcs.length (funsF m.funcs) m.entries.length (kF .i64 m.entries) m.strings.length (sF m.strings) m.globals.length (kF .i64 m.globals) m.funcs.length (funsF m.funcs) m.entries.length (kF .i64 m.entries) i
noncomputable abbrev DS2 (i : Int) : R := dSame_2 m.strings.length (sF m.strings) m.globals.length (kF .i64 m.globals) m.funcs.length (funsF m.funcs) m.entries.length (kF .i64 m.entries) m.strings.length (sF m.strings) m.globals.length (kF .i64 m.globals) m.funcs.length (funsF m.funcs) m.entries.length (kF .i64 m.entries) i
theorem same2 (hk : okC m) : ∀ (rest : List MFun) (i : Nat), m.funcs.drop i = rest → DS2 m i = some (.ret (B true), [])
  | [], i, hd => by
    have := done_of_drop hd
    unfold DS2
    rw [dSame_2_eq, if_neg (by simp; omega)]
  | f :: rest, i, hd => by
    have hlt := lt_of_drop hd
    have hm : f ∈ m.funcs := List.mem_of_mem_drop (by rw [hd]; simp : f ∈ m.funcs.drop i)
    have next := same2 hk rest (i + 1) (drop_next hd)
    obtain ⟨_, _, hl, _, hfs⟩ := hk
    obtain ⟨f3, f4, f5, f6⟩ := hfs f hm
    unfold DS2 at next ⊢
    rw [dSame_2_eq, if_pos (decide_eq_true (by omega)), elem_next MFun.F_len hd]
    simp only [MFun.F, List.cons_append, List.nil_append, atI_zero, atI_succ, atL_zero, atL_succ]
    rw [elem_next MFun.F_len hd]
    simp only [MFun.F, List.cons_append, List.nil_append, atI_zero, atI_succ, atL_zero, atL_succ]
    rw [if_pos (by simp), if_pos (by simp), ints_same _ (by omega), pB_some, if_pos (by simp), ints_same _ (by omega), pB_some, if_pos (by simp), body_same _ f.body (Nat.le_refl _) f5 f6, pB_some, if_neg (by simp),
      show ((i : Nat) : Int) + 1 = ((i + 1 : Nat) : Int) by omega, wrap_i64 (by omega) (by omega)]
    exact next
theorem same1 (hk : okC m) : ∀ (rest : List ByteArray) (i : Nat), m.strings.drop i = rest → DS1 m i = some (.ret (B true), [])
  | [], i, hd => by
    have := done_of_drop hd
    have next := same2 m hk m.funcs 0 rfl
    unfold DS1
    rw [dSame_1_eq, if_neg (by simp; omega)]
    exact next
  | s :: rest, i, hd => by
    have hlt := lt_of_drop hd
    have hl := hk.1
    have next := same1 hk rest (i + 1) (drop_next hd)
    unfold DS1 at next ⊢
    rw [dSame_1_eq, if_pos (decide_eq_true (by omega)), elem_sF hd, atS_zero, elem_sF hd, atS_zero, if_neg (by simp), show ((i : Nat) : Int) + 1 = ((i + 1 : Nat) : Int) by omega, wrap_i64 (by omega) (by omega)]
    exact next
theorem dSame_same (hk : okC m) (h : H) : run w0 12 [.agg (modV m), .agg (modV m)] h = some (.ret (B true), h) := by
  have := same1 m hk m.strings 0 rfl
  unfold DS1 at this
  rw [dSame_run, dSame_eq, if_pos (by simp), ints_same _ (by have := hk.2.1; omega), pB_some, if_pos (by simp), ints_same _ (by have := hk.2.2.2.1; omega), pB_some, if_pos (by simp), if_neg (by simp)]
  exact (congrArg (withH true h) this).trans (withH_true _ _ _)
end
end Go.Proofs.Ytjefolfbdohkcaa
/-
  A module that one owns, as it's handed to functions that only read it; the program is awake.
-/
namespace Go.Proofs.Ytjefolfbdohkcaa
open Go Go.Abs
theorem frz_f (h : H) (d : Nat) (x : F) (hx : frzF x = x) : frz h (d + 1) (.f x) = some x := by simp [frz, hx]
theorem frz_ref1 {h : H} {k n : Nat} {cs : List F} (hk : h[k]? = some (.fz cs)) (hn : n ≤ cs.length) (d : Nat) : frz h (d + 1) (.ref k 0 n 1) = some (.lst n (cs.take n)) := by
  simp only [frz, hk]
  rw [if_pos (by omega), List.drop_zero, Nat.mul_one]
theorem frzs_next {h : H} {d : Nat} {v : V} {r : List V} {x : F} {l : List F} (h1 : frz h d v = some x) (h2 : frzs h d r = some l) : frzs h (d + 1) (v :: r) = some (x :: l) := by
  simp [frzs, h1, h2]
theorem frz_rows {h : H} {b : Nat} (fs : List MFun) (hO : ObjsAt h b fs) : ∀ (rest : List MFun) (j d : Nat), fs.drop j = rest → rest.length * 5 + 3 ≤ d → frzs h d (rowsV b j rest) = some (funsF rest)
  | [], j, d, hd, hl => by
    obtain ⟨d, rfl⟩ : ∃ e, d = e + 1 := ⟨d - 1, by omega⟩
    rfl
  | f :: rest, j, d, hd, hl => by
    simp only [List.length_cons] at hl
    obtain ⟨d, rfl⟩ : ∃ e, d = e + 6 := ⟨d - 6, by omega⟩
    have hg := at_drop hd
    obtain ⟨a, c⟩ := hO j f hg
    have ih := frz_rows fs hO rest (j + 1) (d + 1) (drop_next hd) (by omega)
    rw [rowsV, funsF, List.flatMap_cons]
    show frzs h (d + 6) (N .i64 f.name :: N .i64 f.params :: V.ref (b + 2 * j) 0 f.locals.length 1 :: V.ref (b + 2 * j + 1) 0 f.sites.length 1 :: V.f (.lst f.body.length (stmtsF f.body)) :: rowsV b (j + 1) rest) = some (F.s (.int .i64 f.name) :: F.s (.int .i64 f.params) :: F.lst f.locals.length (kF .i64 f.locals) :: F.lst f.sites.length (kF .i64 f.sites) :: F.lst f.body.length (stmtsF f.body) :: rest.flatMap MFun.F)
    refine frzs_next (frz_f _ _ _ rfl) (frzs_next (frz_f _ _ _ rfl) (frzs_next ?_ (frzs_next ?_ (frzs_next (frz_f _ _ _ rfl) ih))))
    · rw [frz_ref1 a (by simp), List.take_of_length_le (by simp)]
    · rw [frz_ref1 c (by simp), List.take_of_length_le (by simp)]
theorem frzK_eq (h : H) (d : Nat) (v : V) {x : F} (e : frz h (d + 1) v = some x) (k : F → R) : frzK h (d + 1) v k = k x := by
  unfold frzK
  split
  · simp [frz] at e; rw [e]
  · rename_i i off n es
    simp only [frz] at e ⊢
    split
    · rename_i cs hc
      simp only [hc] at e
      split at e
      · cases e; rename_i q; rw [if_pos q]
      · cases e
    · rw [e]; rfl
  · rw [e]; rfl
theorem row1_frz {h : H} {v : V} {L : List ByteArray} (hr : Row1 h v L) (d : Nat) : frz h (d + 1) v = some (.lst L.length (sF L)) := by
  rcases hr with ⟨rfl, rfl⟩ | ⟨kA, cs, rfl, h2, h3⟩
  · rfl
  · have hl : L.length ≤ cs.length := by
      have := congrArg List.length h3
      simp at this; omega
    rw [frz_ref1 h2 hl, h3]
theorem said_frz {h : H} {n : Nat} {v : V} {M : Abs.Mod} (hs : Said h n v M) (hf : M.funcs.length ≤ 100000) (K : V → R) : frz1K h (.agg (saidV n v M)) K = K (.agg (modV M)) := by
  have e1 : frz h (999999 + 0) v = some (.lst M.strings.length (sF M.strings)) := row1_frz hs.s 999998
  have e2 : frz h (999998 + 0) (.ref (n + 3) 0 M.globals.length 1) = some (.lst M.globals.length (kF .i64 M.globals)) := by
    have := frz_ref1 hs.g (n := M.globals.length) (by simp) 999997
    rwa [List.take_of_length_le (by simp)] at this
  have e4 : frz h (999996 + 0) (.ref (n + 4) 0 M.entries.length 1) = some (.lst M.entries.length (kF .i64 M.entries)) := by
    have := frz_ref1 hs.e (n := M.entries.length) (by simp) 999995
    rwa [List.take_of_length_le (by simp)] at this
  have e3 : frz h (999997 + 0) (.ref (n + 5) 0 M.funcs.length 5) = some (.lst M.funcs.length (funsF M.funcs)) := by
    obtain ⟨o, h1, h2⟩ := hs.f
    have hr := frz_rows M.funcs hs.o M.funcs 0 999996 rfl (by omega)
    have hlen : (rowsV (n + 6) 0 M.funcs).length = M.funcs.length * 5 := rowsV_len _ _ _
    have hff : (funsF M.funcs).length = M.funcs.length * 5 := flat_len MFun.F_len _
    show frz h (999996 + 1) _ = _
    cases o with
    | cells cs =>
      cases h2
      simp only [frz, h1]
      rw [if_pos (by omega), List.drop_zero, List.take_of_length_le (by omega), hr]
      rfl
    | fz zs =>
      cases hm : M.funcs with
      | nil =>
        have hz : zs = [] := by
          have h3 : zs.map V.f = rowsV (n + 6) 0 M.funcs := Option.some.inj h2
          rw [hm] at h3
          exact List.map_eq_nil_iff.1 h3
        subst hz
        simp only [frz, h1]
        rfl
      | cons f r =>
        have := rows_cells (i := 0) h2 (by rw [List.drop_zero]; exact hm)
        cases this
    | _ => cases h2
  unfold frz1K saidV
  show frzK h (999998 + 1) v (fun x => frzsK h 999999 _ fun l => _) = _
  rw [frzK_eq h 999998 v e1]
  show frzK h (999997 + 1) _ (fun x => frzsK h 999998 _ fun l => _) = _
  rw [frzK_eq h 999997 _ e2]
  show frzK h (999996 + 1) _ (fun x => frzsK h 999997 _ fun l => _) = _
  rw [frzK_eq h 999996 _ e3]
  show frzK h (999995 + 1) _ (fun x => frzsK h 999996 _ fun l => _) = _
  rw [frzK_eq h 999995 _ e4]
  rfl
theorem mod_frz (h : H) (m : Abs.Mod) (K : V → R) : frz1K h (.agg (modV m)) K = K (.agg (modV m)) := rfl
theorem withH_scal (b : Bool) (h : H) (x : Bool) (g : H) : withH b h (some (.ret (B x), g)) = some (.ret (B x), h) := by cases b <;> rfl
/-- Same of what is owned and what isn't -/
theorem same_any {vs ws : List V} {m : Abs.Mod} (hm : okC m) (h : H) (h1 : ∀ K : V → R, frz1K h (.agg vs) K = K (.agg (modV m))) (h2 : ∀ K : V → R, frz1K h (.agg ws) K = K (.agg (modV m))) : run w0 12 [.agg vs, .agg ws] h = some (.ret (B true), h) := by
  rw [run_eq]
  have : runF w0.P w0.an w0.po w0.ext (run w0) (runLoop w0) 12 [.agg vs, .agg ws] h = frzArgsK h [.agg vs, .agg ws] fun a => withH ([V.agg vs, .agg ws].all ripe) h (pureOf w0 12 Try.f12 a) := by kernel_rfl
  rw [this]
  simp only [frzArgsK]
  rw [h1, h2]
  have e := dSame_same m hm []
  rw [run_eq] at e
  have e2 : runF w0.P w0.an w0.po w0.ext (run w0) (runLoop w0) 12 [.agg (modV m), .agg (modV m)] [] = withH true [] (pureOf w0 12 Try.f12 [.agg (modV m), .agg (modV m)]) := by kernel_rfl
  rw [e2] at e
  generalize pureOf w0 12 Try.f12 [.agg (modV m), .agg (modV m)] = r at e
  cases r with
  | none => cases e
  | some q =>
    obtain ⟨a, g⟩ := q
    cases a with
    | ret v =>
      have : v = B true := by
        simp only [withH, Bool.true_or, if_true] at e
        exact Out.ret.inj (Prod.mk.inj (Option.some.inj e)).1
      subst this
      exact withH_scal _ _ _ _
    | pan v => cases e
end Go.Proofs.Ytjefolfbdohkcaa
/-
  What the statements of canon run first.
-/
namespace Go.Proofs.Ytjefolfbdohkcaa
open Go Go.Abs
/-- two boxes: the module, and the fault -/
theorem got (h' : H) {x y : List V} (hx : x.length = 4) (hy : y.length = 7) (K : Nat → Nat → H → R) :
    (newO (.cells [nilS, nilS, nilS, nilS]) h' fun k5 h6 => newO (.cells [N .i64 0, N .i64 0, N .i64 0, N .i64 0, N .i64 0, N .i64 0, N .i64 0]) h6 fun k7 h8 => stV (.ptr k5 0) (.agg x) 4 h8 fun h9 => stV (.ptr k7 0) (.agg y) 7 h9 fun h10 => K k5 k7 h10) = K h'.length (h'.length + 1) (h' ++ [.cells x, .cells y]) := by
  simp only [newO_eq, List.append_assoc, List.cons_append, List.nil_append, List.length_append, List.length_cons, List.length_nil, Nat.zero_add]
  have g0 : ∀ (t : H) (j : Nat) (a : Ob), t[j]? = some a → (h' ++ t)[h'.length + j]? = some a := fun t j a e => by rw [get_tail]; exact e
  have g00 : ∀ (a : Ob) (t : H), (h' ++ a :: t)[h'.length]? = some a := fun a t => by simp
  rw [stV_c (n := 4) (off := 0) (l := x) rfl (g00 _ _) hx (by simp), splice_all (by rw [hx]; rfl)]
  have e1 : (h' ++ [Ob.cells [nilS, nilS, nilS, nilS], Ob.cells [N .i64 0, N .i64 0, N .i64 0, N .i64 0, N .i64 0, N .i64 0, N .i64 0]]).set h'.length (.cells x) = h' ++ [Ob.cells x, Ob.cells [N .i64 0, N .i64 0, N .i64 0, N .i64 0, N .i64 0, N .i64 0, N .i64 0]] := by
    simp
  rw [e1]
  rw [stV_c (n := 7) (off := 0) (l := y) rfl (g0 _ 1 _ rfl) hy (by simp), splice_all (by rw [hy]; rfl), set_tail]
  rfl
theorem got0 (h' : H) (a b : Ob) : (h' ++ [a, b])[h'.length]? = some a := by simp
theorem got1 (h' : H) (a b : Ob) : (h' ++ [a, b])[h'.length + 1]? = some b := by simp
theorem Said.app {h : H} {n : Nat} {v : V} {M : Abs.Mod} (x : Said h n v M) (t : H) : Said (h ++ t) n v M :=
  ⟨by rcases x.s with ⟨a, b⟩ | ⟨kA, cs, a, b, c⟩
      · exact .inl ⟨a, b⟩
      · exact .inr ⟨kA, cs, a, get_app b t, c⟩, get_app x.g t, get_app x.e t, by obtain ⟨o, a, b⟩ := x.f; exact ⟨o, get_app a t, b⟩, fun j f e => by obtain ⟨a, b⟩ := x.o j f e; exact ⟨get_app a t, get_app b t⟩⟩
/-! ### awake -/
def mA : Abs.Mod := ⟨[⟨#[98]⟩, ⟨#[99]⟩, ⟨#[97]⟩], [2, 0], [], []⟩
def vA : List V := [.lit 3 [S (⟨#[98]⟩ : ByteArray), S (⟨#[99]⟩ : ByteArray), S (⟨#[97]⟩ : ByteArray)], .lit 2 [N .i64 2, N .i64 0], nilS, nilS]
theorem argA : ArgM vA mA := ⟨⟨_, _, _, _, rfl, ⟨_, fun K => rfl, rfl, fun h K => rfl⟩, ⟨_, fun K => rfl, rfl, fun h K => rfl⟩, arg_nil, arg_nil⟩, fun h K => rfl, rfl⟩
theorem treeA : treeR mA = none := by decide +kernel
theorem stringsA : (canonM mA).strings = [⟨#[97]⟩, ⟨#[98]⟩] := by decide +kernel
theorem globalsA : (canonM mA).globals = [0, 1] := by decide +kernel
theorem okA : okC mA := ⟨by decide, by decide, by decide, by decide, fun f hf => by cases hf⟩
theorem argsA : argsOk mA := fun f hf => by cases hf
theorem cawake_core : cawake_0 = some (.ret (B true), []) := by
  obtain ⟨h', v, e1, e2, e3⟩ := canonOf_said argA okA argsA treeA []
  have hs := e2.s
  have hg := e2.g
  rw [globalsA] at hg
  have hsv : saidV (([] : H).length + 4) v (canonM mA) = [v, .ref (([] : H).length + 4 + 3) 0 2 1, .ref (([] : H).length + 4 + 5) 0 0 5, .ref (([] : H).length + 4 + 4) 0 0 1] := by
    unfold saidV; rw [globalsA]; rfl
  rcases hs with ⟨h1, _⟩ | ⟨kA, cs, rfl, h2, h3⟩
  · rw [stringsA] at h1; cases h1
  rw [stringsA] at h3 hsv e1
  rw [cawake_eq]
  rw [show [V.agg [.lit 3 [S (⟨#[98]⟩ : ByteArray), S (⟨#[99]⟩ : ByteArray), S (⟨#[97]⟩ : ByteArray)], .lit 2 [N .i64 2, N .i64 0], nilS, nilS]] = [.agg vA] from rfl]
  rw [e1, kV_some]
  simp only [tpV_tup, List.getElem?_cons_zero, List.getElem?_cons_succ, Option.bind_some]
  rw [got h' (by rw [hsv]; rfl) rfl, hsv]
  rw [gI_c (got1 _ _ _) rfl, if_pos (by rfl)]
  rw [gL_c (got0 _ _ _) rfl]
  simp only [coeSl_ref, lnV_ref]
  rw [if_pos (by rfl), gL_c (got0 _ _ _) rfl]
  simp only [coeSl_ref, lnV_ref]
  rw [idx_ref u25 s9 (by omega) (by decide)]
  have h0 : cs[0]? = some (.s (.string ⟨#[97]⟩)) := by
    have := congrArg (fun l => l[0]?) h3
    simpa [sF] using this
  rw [gS_z (get_app h2 _) (s := ⟨#[97]⟩) (by simpa using h0), if_pos (by simp)]
  rw [gL_c (got0 _ _ _) rfl]
  simp only [coeSl_ref, lnV_ref]
  rw [if_pos (by rfl), gL_c (got0 _ _ _) rfl]
  simp only [coeSl_ref, lnV_ref]
  rw [idx_ref u27 s3 (by omega) (by decide)]
  rw [gI_z (i := 1) (get_app hg _) rfl]
  rfl
theorem cawake_spec (h : H) : run w0 8 [] h = some (.ret (B true), h) := by
  rw [cawake_run]
  show withH true h cawake_0 = _
  rw [cawake_core, withH_true]
end Go.Proofs.Ytjefolfbdohkcaa
