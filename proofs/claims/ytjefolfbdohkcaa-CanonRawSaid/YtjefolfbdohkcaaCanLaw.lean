/-
  canon of drafts: the law.
-/
import Derived.Test.YtjefolfbdohkcaaCanTurn
import Derived.Test.YtjefolfbdohkcaaDraftArgs
import Derived.Test.YtjefolfbdohkcaaCanSort
import Derived.Test.YtjefolfbdohkcaaAbsRowS
set_option autoImplicit false
set_option linter.unusedVariables false
set_option linter.unusedSimpArgs false
namespace Go.Proofs.Ytjefolfbdohkcaa
open Go Go.Abs
theorem saidV_len (n : Nat) (v : V) (M : Abs.Mod) : (saidV n v M).length = 4 := rfl
theorem saidV_take (n : Nat) (v : V) (M : Abs.Mod) : (List.drop 0 (saidV n v M)).take 4 = saidV n v M := rfl
theorem modV_take (m : Abs.Mod) : (List.drop 0 (modV m)).take 4 = modV m := rfl
end Go.Proofs.Ytjefolfbdohkcaa
/-
  canon of drafts: whatever comes in.
-/
namespace Go.Proofs.Ytjefolfbdohkcaa
open Go Go.Abs
end Go.Proofs.Ytjefolfbdohkcaa
/-
  canon of drafts: what is handed in stays: the law.
-/
namespace Go.Proofs.Ytjefolfbdohkcaa
open Go Go.Abs
theorem foot_rd (l : List V) (k off n : Nat) : (nocl [.ldc k off n] (if l.all ripe = true then .rd [] else .rdAll) || false) = true := by
  split <;> simp [nocl, Foot.clash]
end Go.Proofs.Ytjefolfbdohkcaa
/-
  canon of any module: the law.
-/
namespace Go.Proofs.Ytjefolfbdohkcaa
open Go Go.Abs
/-! ### modules that come in -/
theorem sz_app : ∀ a b : List F, SizeOf.sizeOf (a ++ b) + 1 = SizeOf.sizeOf a + SizeOf.sizeOf b
  | [], b => by simp; omega
  | x :: a, b => by have := sz_app a b; simp; omega
theorem sz_flat : ∀ {parts : List (List F)} {p : List F}, p ∈ parts → SizeOf.sizeOf p ≤ SizeOf.sizeOf parts.flatten
  | [], p, h => by simp at h
  | q :: r, p, h => by
    have e := sz_app q r.flatten
    rw [List.flatten_cons]
    have h1 : 1 ≤ SizeOf.sizeOf q := by cases q <;> simp; omega
    have h2 : 1 ≤ SizeOf.sizeOf r.flatten := by cases r.flatten <;> simp; omega
    rcases List.mem_cons.1 h with e2 | e2
    · subst e2; omega
    · have := sz_flat e2; omega
theorem sz_lst (n : Nat) (xs : List F) : SizeOf.sizeOf xs < SizeOf.sizeOf [F.lst n xs] := by simp; omega
theorem mref_of {p : List F} (h : Ty Try.prog 44 p) : ∃ r : MRef, p = r.F ∧ True := by
  obtain ⟨parts, rfl, ha⟩ := h.struct_args (ts := [5, 3]) (by kernel_rfl)
  obtain ⟨x1, l, rfl, h1, ha⟩ := ha.cons_inv
  obtain ⟨x2, l, rfl, h2, ha⟩ := ha.cons_inv
  obtain rfl := ha.nil_inv
  obtain ⟨a, rfl, _⟩ := h1.of_int (k := .u8) (by kernel_rfl)
  obtain ⟨b, rfl, _⟩ := h2.of_int (k := .i64) (by kernel_rfl)
  exact ⟨⟨a, b⟩, rfl, trivial⟩
theorem stmts_of : ∀ (n : Nat) (xs : List F), SizeOf.sizeOf xs ≤ n → Ty Try.prog 40 xs → ∃ l : List MStmt, xs = [.lst l.length (stmtsF l)] := by
  intro n
  induction n with
  | zero => intro xs hn; cases xs <;> simp at hn
  | succ n ih =>
    intro xs hn h
    obtain ⟨parts, rfl, h1, h2, h3⟩ := h.of_slice (e := 47) (by kernel_rfl)
    have hp : ∀ p ∈ parts, ∃ s : MStmt, p = s.F ∧ True := by
      intro p hp
      have hsz := sz_flat hp
      have hs2 := sz_lst parts.length parts.flatten
      obtain ⟨ps, hps, ha⟩ := (h3 p hp).struct_args (ts := [5, 44, 44, 45, 40]) (by kernel_rfl)
      obtain ⟨x1, l, rfl, g1, ha⟩ := ha.cons_inv
      obtain ⟨x2, l, rfl, g2, ha⟩ := ha.cons_inv
      obtain ⟨x3, l, rfl, g3, ha⟩ := ha.cons_inv
      obtain ⟨x4, l, rfl, g4, ha⟩ := ha.cons_inv
      obtain ⟨x5, l, rfl, g5, ha⟩ := ha.cons_inv
      obtain rfl := ha.nil_inv
      have hsz5 : SizeOf.sizeOf x5 ≤ SizeOf.sizeOf p := by rw [hps]; exact sz_flat (by simp)
      obtain ⟨k, rfl, _⟩ := g1.of_int (k := .u8) (by kernel_rfl)
      obtain ⟨a, rfl, _⟩ := mref_of g2
      obtain ⟨b, rfl, _⟩ := mref_of g3
      obtain ⟨args, rfl, _, _⟩ := g4.slice_of (e := 44) (f := MRef.F) (ok := fun _ => True) (by kernel_rfl) fun p hp => mref_of hp
      obtain ⟨body, rfl⟩ := ih x5 (by omega) g5
      exact ⟨.mk k a b args body, by rw [hps, MStmt.F_eq]; rfl, trivial⟩
    obtain ⟨l, e1, e2, _⟩ := parts_of hp
    exact ⟨l, by rw [e1, e2]⟩
theorem mfun_of {p : List F} (h : Ty Try.prog 42 p) : ∃ f : MFun, p = f.F ∧ True := by
  obtain ⟨parts, rfl, ha⟩ := h.struct_args (ts := [3, 3, 27, 27, 40]) (by kernel_rfl)
  obtain ⟨x1, l, rfl, g1, ha⟩ := ha.cons_inv
  obtain ⟨x2, l, rfl, g2, ha⟩ := ha.cons_inv
  obtain ⟨x3, l, rfl, g3, ha⟩ := ha.cons_inv
  obtain ⟨x4, l, rfl, g4, ha⟩ := ha.cons_inv
  obtain ⟨x5, l, rfl, g5, ha⟩ := ha.cons_inv
  obtain rfl := ha.nil_inv
  obtain ⟨a, rfl, _⟩ := g1.of_int (k := .i64) (by kernel_rfl)
  obtain ⟨b, rfl, _⟩ := g2.of_int (k := .i64) (by kernel_rfl)
  obtain ⟨c, rfl, _, _⟩ := g3.of_ints (e := 3) (k := .i64) (by kernel_rfl) (by kernel_rfl)
  obtain ⟨d, rfl, _, _⟩ := g4.of_ints (e := 3) (k := .i64) (by kernel_rfl) (by kernel_rfl)
  obtain ⟨e, rfl⟩ := stmts_of _ x5 (Nat.le_refl _) g5
  exact ⟨⟨a, b, c, d, e⟩, rfl, trivial⟩
theorem mod_of {p : List F} (h : Ty Try.prog 30 p) : ∃ m : Abs.Mod, p = [.lst m.strings.length (sF m.strings), .lst m.globals.length (kF .i64 m.globals), .lst m.funcs.length (funsF m.funcs), .lst m.entries.length (kF .i64 m.entries)] := by
  obtain ⟨parts, rfl, ha⟩ := h.struct_args (ts := [25, 27, 28, 27]) (by kernel_rfl)
  obtain ⟨x1, l, rfl, g1, ha⟩ := ha.cons_inv
  obtain ⟨x2, l, rfl, g2, ha⟩ := ha.cons_inv
  obtain ⟨x3, l, rfl, g3, ha⟩ := ha.cons_inv
  obtain ⟨x4, l, rfl, g4, ha⟩ := ha.cons_inv
  obtain rfl := ha.nil_inv
  obtain ⟨a, rfl, _, _⟩ := g1.of_strs (e := 9) (by kernel_rfl) (by kernel_rfl)
  obtain ⟨b, rfl, _, _⟩ := g2.of_ints (e := 3) (k := .i64) (by kernel_rfl) (by kernel_rfl)
  obtain ⟨c, rfl, _, _⟩ := g3.slice_of (e := 42) (f := MFun.F) (ok := fun _ => True) (by kernel_rfl) fun p hp => mfun_of hp
  obtain ⟨d, rfl, _, _⟩ := g4.of_ints (e := 3) (k := .i64) (by kernel_rfl) (by kernel_rfl)
  exact ⟨⟨a, b, c, d⟩, rfl⟩
/-! ### the guard -/
def plainS (s : MStmt) : Prop := s.body = [] ∧ s.args = []
def plainF (f : MFun) : Prop := f.locals.length ≤ 60 ∧ f.sites.length ≤ 60 ∧ f.body.length ≤ 30 ∧ ∀ s ∈ f.body, plainS s
theorem u40 : Try.prog.underlying 40 = some (.slice 47) := by kernel_rfl
theorem s47 : szOf Try.prog 47 = some 7 := by kernel_rfl
theorem gA_fun (f : MFun) (rest : List F) (h : H) (K : List V → R) : gA Try.prog 42 5 (.f (.fp (f.F ++ rest))) h K = K (f.F.map .f) := by kernel_rfl
theorem gA_stmt (s : MStmt) (rest : List F) (h : H) (K : List V → R) : gA Try.prog 47 7 (.f (.fp (s.F ++ rest))) h K = K (s.F.map .f) := by
  rw [MStmt.F_eq]
  kernel_rfl
theorem raw2 (m : Abs.Mod) (f : MFun) (i kf : Nat) (hkf : 0 < kf) (hb : f.body.length ≤ 30) : ∀ (rest : List MStmt) (k : Nat) (h : H), f.body.drop k = rest → k ≤ f.body.length → i ≤ 50 → h[0]? = some (.cells (modV m)) → h[kf]? = some (.cells (f.F.map .f)) →
    CanonRaw_2 0 0 i kf 0 k h = some (.ret (B true), []) ∨ (∀ s ∈ rest, plainS s) ∧ ∃ h2, CanonRaw_2 0 0 i kf 0 k h = CanonRaw_1 0 0 ((i + 1 : Nat) : Int) h2 ∧ h2[0]? = some (.cells (modV m))
  | [], k, h, hd, hk, hi, h0, hf => by
    have := done_of_drop hd
    refine .inr ⟨fun s hs => by simp at hs, h, ?_, h0⟩
    rw [CanonRaw_2_eq, gL_c hf rfl]
    simp only [coeSl_lst, lnV_lst]
    rw [if_neg (by simp; omega), show ((i : Nat) : Int) + 1 = ((i + 1 : Nat) : Int) by omega, wrap_i64 (by omega) (by omega)]
  | s :: rest, k, h, hd, hk, hi, h0, hf => by
    have hlt := lt_of_drop hd
    have hkl := get_lt hf
    have hdr : (stmtsF f.body).drop (k * 7) = s.F ++ stmtsF rest := by
      have := flat_drop (f := MStmt.F) MStmt.F_len k f.body
      rw [show stmtsF f.body = f.body.flatMap MStmt.F from rfl, this, hd]; rfl
    let h1 : H := h ++ [.cells (s.F.map .f)]
    have c1 : h1[h.length]? = some (.cells (s.F.map .f)) := get_new _ _
    have hb1 : (s.F.map V.f)[1]? = some (N .u8 s.a.k) := by rw [MStmt.F_eq]; rfl
    have hb3 : (s.F.map V.f)[3]? = some (N .u8 s.b.k) := by rw [MStmt.F_eq]; rfl
    have hb5 : (s.F.map V.f)[5]? = some (.f (.lst s.args.length (refsF s.args))) := by rw [MStmt.F_eq]; rfl
    have hb6 : (s.F.map V.f)[6]? = some (.f (.lst s.body.length (stmtsF s.body))) := by rw [MStmt.F_eq]; rfl
    have hlen : (s.F.map V.f).length = 7 := by rw [List.length_map, MStmt.F_len]
    have step : CanonRaw_2 0 0 i kf 0 k h = if (decide ((s.body.length : Int) > 0)) = false then if (decide ((s.args.length : Int) > 0)) = false then if (decide (s.a.k > 4)) = false then if (decide (s.b.k > 4)) = true then some (.ret (B true), []) else CanonRaw_2 0 0 i kf 0 ((k + 1 : Nat) : Int) h1 else some (.ret (B true), []) else some (.ret (B true), []) else some (.ret (B true), []) := by
      rw [CanonRaw_2_eq, gL_c hf rfl]
      simp only [coeSl_lst, lnV_lst]
      rw [if_pos (decide_eq_true (by omega)), gL_c hf rfl]
      simp only [coeSl_lst]
      rw [idx_lst u40 s47 (by omega) (by omega), Int.toNat_natCast, hdr, gA_stmt, newO_eq]
      rw [stL_c (n := 7) (off := 0) (get_new _ _) hlen (by simp), splice_all (by rw [hlen]; rfl)]
      rw [show (h ++ [Ob.cells [N .u8 0, N .u8 0, N .i64 0, N .u8 0, N .i64 0, nilS, nilS]]).set h.length (.cells (s.F.map V.f)) = h1 from set_tail h [Ob.cells [N .u8 0, N .u8 0, N .i64 0, N .u8 0, N .i64 0, nilS, nilS]] 0 (.cells (s.F.map V.f))]
      rw [gL_c c1 hb6]
      simp only [coeSl_lst, lnV_lst]
      rw [gL_c c1 hb5]
      simp only [coeSl_lst, lnV_lst]
      rw [gI_c c1 hb1, gI_c c1 hb3, show ((k : Nat) : Int) + 1 = ((k + 1 : Nat) : Int) by omega, wrap_i64 (by omega) (by omega)]
    rw [step]
    by_cases q1 : s.body = []
    rotate_left
    · left; rw [if_neg]
      have : 0 < s.body.length := List.length_pos_iff.2 q1
      simp; omega
    by_cases q2 : s.args = []
    rotate_left
    · left; rw [if_pos (by simp [q1]), if_neg]
      have : 0 < s.args.length := List.length_pos_iff.2 q2
      simp; omega
    rw [if_pos (by simp [q1]), if_pos (by simp [q2])]
    by_cases q3 : s.a.k > 4
    · left; rw [if_neg (by simp; omega)]
    by_cases q4 : s.b.k > 4
    · left; rw [if_pos (by simp; omega), if_pos (by simp; omega)]
    rw [if_pos (by simp; omega), if_neg (by simp; omega)]
    rcases raw2 m f i kf hkf hb rest (k + 1) h1 (drop_next hd) (by omega) hi (get_app h0 _) (get_app hf _) with a | ⟨a, b⟩
    · exact .inl a
    · exact .inr ⟨fun t ht => by
        rcases List.mem_cons.1 ht with e | e
        · subst e; exact ⟨q1, q2⟩
        · exact a t e, b⟩
theorem raw1 (m : Abs.Mod) (hm : m.funcs.length ≤ 50) : ∀ (rest : List MFun) (i : Nat) (h : H), m.funcs.drop i = rest → i ≤ m.funcs.length → h[0]? = some (.cells (modV m)) →
    CanonRaw_1 0 0 i h = some (.ret (B true), []) ∨ (∀ f ∈ rest, plainF f) ∧ ∃ h2, CanonRaw_1 0 0 i h = CanonRaw_1 0 0 m.funcs.length h2 ∧ h2[0]? = some (.cells (modV m))
  | [], i, h, hd, hi, h0 => by
    have := done_of_drop hd
    have : i = m.funcs.length := by omega
    subst this
    exact .inr ⟨fun s hs => by simp at hs, h, rfl, h0⟩
  | f :: rest, i, h, hd, hi, h0 => by
    have hlt := lt_of_drop hd
    have h0l := get_lt h0
    have hdr : (funsF m.funcs).drop (i * 5) = f.F ++ funsF rest := by
      have := flat_drop (f := MFun.F) MFun.F_len i m.funcs
      rw [funsF, this, hd]; rfl
    let h1 : H := h ++ [.cells (f.F.map .f)]
    have c1 : h1[h.length]? = some (.cells (f.F.map .f)) := get_new _ _
    have hlen : (f.F.map V.f).length = 5 := by rw [List.length_map, MFun.F_len]
    have step : CanonRaw_1 0 0 i h = if (decide ((f.locals.length : Int) > 60)) = false then if (decide ((f.sites.length : Int) > 60)) = false then if (decide ((f.body.length : Int) > 30)) = true then some (.ret (B true), []) else CanonRaw_2 0 0 i h.length 0 0 h1 else some (.ret (B true), []) else some (.ret (B true), []) := by
      rw [CanonRaw_1_eq, gL_c h0 rfl]
      simp only [coeSl_lst, lnV_lst]
      rw [if_pos (decide_eq_true (by omega)), gL_c h0 rfl]
      simp only [coeSl_lst]
      rw [idx_lst u28 s42 (by omega) (by omega), Int.toNat_natCast, hdr, gA_fun, newO_eq]
      rw [stL_c (n := 5) (off := 0) (get_new _ _) hlen (by simp), splice_all (by rw [hlen]; rfl)]
      rw [show (h ++ [Ob.cells [N .i64 0, N .i64 0, nilS, nilS, nilS]]).set h.length (.cells (f.F.map V.f)) = h1 from set_tail h [Ob.cells [N .i64 0, N .i64 0, nilS, nilS, nilS]] 0 (.cells (f.F.map V.f))]
      rw [gL_c c1 rfl]
      simp only [coeSl_lst, lnV_lst]
      rw [gL_c c1 rfl]
      simp only [coeSl_lst, lnV_lst]
      rw [gL_c c1 rfl]
      simp only [coeSl_lst, lnV_lst]
    rw [step]
    by_cases q1 : f.locals.length ≤ 60
    rotate_left
    · left; rw [if_neg (by simp; omega)]
    by_cases q2 : f.sites.length ≤ 60
    rotate_left
    · left; rw [if_pos (by simp; omega), if_neg (by simp; omega)]
    by_cases q3 : f.body.length ≤ 30
    rotate_left
    · left; rw [if_pos (by simp; omega), if_pos (by simp; omega), if_pos (by simp; omega)]
    rw [if_pos (by simp; omega), if_pos (by simp; omega), if_neg (by simp; omega)]
    rcases raw2 m f i h.length h0l q3 f.body 0 h1 rfl (Nat.zero_le _) (by omega) (get_app h0 _) c1 with a | ⟨a, h2, b1, b2⟩
    · exact .inl a
    · rcases raw1 m hm rest (i + 1) h2 (drop_next hd) (by omega) b2 with c | ⟨c, h3, d1, d2⟩
      · exact .inl (Eq.trans b1 c)
      · exact .inr ⟨fun g hg => by
          rcases List.mem_cons.1 hg with e | e
          · subst e; exact ⟨q1, q2, q3, a⟩
          · exact c g e, h3, Eq.trans b1 d1, d2⟩
/-! ### behind the guard -/
theorem flats_plain : ∀ (l : List MStmt) (d n : Nat), (∀ s ∈ l, plainS s) → (flats d n l).length = l.length ∧ ∀ x ∈ flats d n l, plainS x.s
  | [], d, n, _ => by simp [flats_nil]
  | s :: r, d, n, h => by
    have hs := h s (by simp)
    rw [flats_cons, hs.1, flats_nil]
    split
    · obtain ⟨a, b⟩ := flats_plain r d (n + 1 + 0) fun t ht => h t (by simp [ht])
      simp only [List.nil_append, List.length_nil, List.length_cons, List.mem_cons]
      refine ⟨by rw [a], fun x hx => ?_⟩
      rcases hx with e | e
      · subst e; exact hs
      · exact b x e
    · obtain ⟨a, b⟩ := flats_plain r d (n + 1) fun t ht => h t (by simp [ht])
      simp only [List.length_cons, List.mem_cons]
      refine ⟨by rw [a], fun x hx => ?_⟩
      rcases hx with e | e
      · subst e; exact hs
      · exact b x e
theorem okB_plain : ∀ l : List MStmt, (∀ s ∈ l, plainS s) → okB l
  | [], _ => by simp [okB]
  | s :: r, h => by
    have hs := h s (by simp)
    have hr := okB_plain r fun t ht => h t (by simp [ht])
    obtain ⟨k, a, b, args, body⟩ := s
    obtain ⟨e1, e2⟩ := hs
    simp only [MStmt.args, MStmt.body] at e1 e2
    subst e1 e2
    simp only [okB, okS]
    exact ⟨⟨by simp, by simp, trivial⟩, hr⟩
theorem raw_end {m : Abs.Mod} (hm : okC m) (ha : argsOk m) {h : H} (h0 : h[0]? = some (.cells (modV m))) : CanonRaw_1 0 0 m.funcs.length h = some (.ret (B true), []) := by
  have hm0 := hm
  obtain ⟨hs, hg, hf, he, hfs⟩ := hm0
  rw [CanonRaw_1_eq, gL_c h0 rfl]
  simp only [coeSl_lst, lnV_lst]
  rw [if_neg (by simp), gA_c h0 (by simp [modV]), modV_take]
  rw [dTree_spec m ha (fun f hf' => by obtain ⟨a, b, _⟩ := hfs f hf'; unfold big; omega)]
  cases ht : treeR m with
  | some x =>
    obtain ⟨n, fi, si⟩ := x
    have hpos := tree_pos ht
    obtain ⟨h1, e1, e2⟩ := canonOf_fault (argM_mod m) (by unfold big; omega) ha ht h
    rw [xT_some]
    simp only [tupV, cI, List.getElem?_cons_zero, List.getElem?_cons_succ, Option.bind_some, V.int?, V.f?, F.int?, if_true, List.length_cons, List.length_nil]
    rw [gA_c h0 (by simp [modV]), modV_take, e1, kV_some]
    simp only [tpV_tup, List.getElem?_cons_zero, List.getElem?_cons_succ, Option.bind_some]
    rw [got h1 (x := [nilS, nilS, nilS, nilS]) (y := faultV (some (n, fi, si))) rfl rfl]
    rw [if_pos (decide_eq_true hpos), gA_c (got1 _ _ _) (by simp [faultV])]
    simp only [faultV, List.drop_zero, List.take_succ_cons, List.take_zero, cI, List.getElem?_cons_zero, List.getElem?_cons_succ, Option.bind_some, V.int?, V.f?, F.int?, if_true]
    rw [if_pos (by simp), gL_c (got0 _ _ _) rfl, coeSl_nil]
    simp only [lnV_lst]
    rw [gL_c (got0 _ _ _) rfl, coeSl_nil]
    simp only [lnV_lst]
    rw [gL_c (got0 _ _ _) rfl, coeSl_nil]
    simp only [lnV_lst]
    rfl
  | none =>
    have hu := (tree_used ht).2
    obtain ⟨h1, v1, e1, e2, e3⟩ := canonOf_said (argM_mod m) hm ha ht h
    have okM := okC_canon hm
    have argM := argsOk_canon ha
    have hck := canon_check ht
    have hcn : okCn m := ⟨by unfold big; omega, by unfold big; omega, by unfold big; omega, fun f hf' => by obtain ⟨a, b, _⟩ := hfs f hf'; unfold big; omega, hu⟩
    have hspec := mCanon_spec hcn
    generalize canonM m = M at e1 e2 okM argM hck hspec
    rw [xT_some]
    simp only [tupV, cI, List.getElem?_cons_zero, List.getElem?_cons_succ, Option.bind_some, V.int?, V.f?, F.int?, if_true, List.length_cons, List.length_nil]
    rw [gA_c h0 (by simp [modV]), modV_take, e1, kV_some]
    simp only [tpV_tup, List.getElem?_cons_zero, List.getElem?_cons_succ, Option.bind_some]
    rw [got h1 (saidV_len _ _ _) (y := okV) rfl]
    let h2 : H := h1 ++ [.cells (saidV (h.length + 4) v1 M), .cells okV]
    rw [show h1 ++ [Ob.cells (saidV (h.length + 4) v1 M), Ob.cells okV] = h2 from rfl]
    have x2 : Ext h h2 := e3.app _
    have s2 : Said h2 (h.length + 4) v1 M := e2.app _
    have d0 : h2[h1.length]? = some (.cells (saidV (h.length + 4) v1 M)) := got0 _ _ _
    have d1 : h2[h1.length + 1]? = some (.cells okV) := got1 _ _ _
    have d2 := x2.get h0
    have hfl : M.funcs.length ≤ 100000 := by have := okM.2.2.1; omega
    rw [if_neg (by simp), gA_c d0 (by simp [saidV]), saidV_take, check_any okM argM h2 (said_frz s2 hfl), hck, xT_some]
    simp only [tupV, cI, List.getElem?_cons_zero, List.getElem?_cons_succ, Option.bind_some, V.int?, V.f?, F.int?, if_true, List.length_cons, List.length_nil]
    rw [gI_c (i := 0) d1 rfl, if_pos (by rfl), if_pos (by rfl), gA_c d0 (by simp [saidV]), saidV_take, gA_c d2 (by simp [modV]), modV_take, hspec, xA_some]
    rw [show (cL (modV M) 0) = fun K => K M.strings.length (sF M.strings) from rfl, show (cL (modV M) 1) = fun K => K M.globals.length (kF .i64 M.globals) from rfl, show (cL (modV M) 2) = fun K => K M.funcs.length (funsF M.funcs) from rfl, show (cL (modV M) 3) = fun K => K M.entries.length (kF .i64 M.entries) from rfl]
    dsimp only
    rw [if_pos (by rfl)]
    simp only [onFoot_eq]
    refine ite_go (foot_rd _ _ _ _) ?_
    rw [show [V.f (.lst M.strings.length (sF M.strings)), V.f (.lst M.globals.length (kF .i64 M.globals)), V.f (.lst M.funcs.length (funsF M.funcs)), V.f (.lst M.entries.length (kF .i64 M.entries))] = modV M from rfl]
    rw [same_any okM h2 (said_frz s2 hfl) (mod_frz h2 M), xB_some]
theorem CanonRaw_law (m : Abs.Mod) : CanonRaw_0 (.f (.lst m.strings.length (sF m.strings))) (.f (.lst m.globals.length (kF .i64 m.globals))) (.f (.lst m.funcs.length (funsF m.funcs))) (.f (.lst m.entries.length (kF .i64 m.entries))) = some (.ret (B true), []) := by
  rw [CanonRaw_eq]
  rw [newO_eq]
  simp only [List.nil_append, List.length_nil]
  rw [show [Ob.cells [V.f (.lst m.strings.length (sF m.strings)), V.f (.lst m.globals.length (kF .i64 m.globals)), V.f (.lst m.funcs.length (funsF m.funcs)), V.f (.lst m.entries.length (kF .i64 m.entries))]] = [Ob.cells (modV m)] from rfl]
  have h0 : ([Ob.cells (modV m)] : H)[0]? = some (.cells (modV m)) := rfl
  rw [cawake_spec, xB_some, if_pos (by rfl), gL_c h0 rfl]
  simp only [coeSl_lst, lnV_lst]
  by_cases q1 : m.strings.length ≤ 60
  rotate_left
  · rw [if_neg (by simp; omega)]; rfl
  rw [if_pos (by simp; omega), gL_c h0 rfl]
  simp only [coeSl_lst, lnV_lst]
  by_cases q2 : m.globals.length ≤ 60
  rotate_left
  · rw [if_neg (by simp; omega)]; rfl
  rw [if_pos (by simp; omega), gL_c h0 rfl]
  simp only [coeSl_lst, lnV_lst]
  by_cases q3 : m.funcs.length ≤ 50
  rotate_left
  · rw [if_neg (by simp; omega)]; rfl
  rw [if_pos (by simp; omega), gL_c h0 rfl]
  simp only [coeSl_lst, lnV_lst]
  by_cases q4 : m.entries.length ≤ 50
  rotate_left
  · rw [if_pos (by simp; omega)]; rfl
  rw [if_neg (by simp; omega)]
  rcases raw1 m q3 m.funcs 0 [Ob.cells (modV m)] rfl (Nat.zero_le _) h0 with a | ⟨a, h2, b1, b2⟩
  · exact a
  · refine Eq.trans b1 (raw_end ⟨by omega, by omega, by omega, by omega, fun f hf => ?_⟩ (fun f hf => ?_) b2)
    · obtain ⟨c1, c2, c3, c4⟩ := a f hf
      exact ⟨by omega, by omega, by omega, okB_plain _ c4⟩
    · obtain ⟨c1, c2, c3, c4⟩ := a f hf
      obtain ⟨d1, d2⟩ := flats_plain f.body 0 0 c4
      refine ⟨by unfold big; omega, fun x hx => ?_⟩
      rw [(d2 x hx).2]; simp
set_option maxRecDepth 100000 in
theorem CanonRaw_all (l : List (List F)) (h : Args Try.prog Try.f4.params.toList l) : ∃ h', run w0 4 (argVs Try.prog Try.f4.params.toList l) [] = some (.ret (B true), h') := by
  obtain ⟨x1, l1, rfl, h1, h⟩ := h.cons_inv
  obtain rfl := h.nil_inv
  obtain ⟨m, rfl⟩ := mod_of h1
  have h : run w0 4 [.agg (modV m)] [] = some (.ret (B true), []) := by
    rw [modV, CanonRaw_run]
    show withH true [] (CanonRaw_0 (.f (.lst m.strings.length (sF m.strings))) (.f (.lst m.globals.length (kF .i64 m.globals))) (.f (.lst m.funcs.length (funsF m.funcs))) (.f (.lst m.entries.length (kF .i64 m.entries)))) = _
    rw [CanonRaw_law m, withH_true]
  exact ⟨[], h⟩
end Go.Proofs.Ytjefolfbdohkcaa
