/-
  The laws of the file, as plain data: each answers true.
-/
import Derived.Test.YtlemkcclgneemaaDoorFileSpec9
set_option autoImplicit false
set_option linter.unusedVariables false
set_option linter.unusedSimpArgs false
namespace Go.Proofs.YtlemkcclgneemaaDoor
open Go Go.Abs

theorem own_llay : OwnFn w0 13 Tryd.f13 [.val] [.own 1] := ⟨rfl, by kernel_rfl, rfl, by kernel_rfl, _, _, rfl⟩
theorem lay_go {s : MSys} (hr : rightR s = true) {h : H} {L L' : Nat} (hL : h.length = L) (hL' : L + 1 = L') (K : Nat → List F → R) :
    (pO (run w0 13 [.agg (sysV s)] h) fun v g => (asRef L 1 v).bind fun m => (asFz g L).bind fun c => if g.length = L' then K m c else none) = K (layB s).length (bF (layB s)) := by
  subst hL; subst hL'
  rw [call_vals own_llay (of_decide_eq_true (by kernel_rfl)) rfl]
  have e : coreOf w0 13 Tryd.f13 [.own 1] none [.agg (sysV s)] [] = llay_0 s.vars s.cells.length (cellsF s.cells) s.cons.length (consF s.cons) := rfl
  rw [e, llay_core s (right_layS hr), graft_ref, pO_some]
  simp [asRef, asFz]
theorem make_go {s : MSys} {v : V} {h : H} (he : run w0 9 [v] h = some (.ret (.agg (sysV s)), h)) (K : Int → Nat → List F → Nat → List F → R) :
    (pA (run w0 9 [v] h) fun l7 => cI .i64 l7 0 fun n8 => cL l7 1 fun m9 c9 => cL l7 2 fun m10 c10 => if l7.length = 3 then K n8 m9 c9 m10 c10 else none) = K s.vars s.cells.length (cellsF s.cells) s.cons.length (consF s.cons) := by
  rw [he, pA_some]
  simp [cI, cL, V.int?, V.f?, F.int?, V.lst?, F.lst?]
theorem seal_go {h : H} {k L : Nat} {p : List UInt8} (hk : h[k]? = some (.fz (bF p))) (hp : p.length < 1000000000000) (hL : h.length = L) (K : Nat × List F → R) :
    (pO (run w0 12 [.ref k 0 p.length 1] h) fun v g => (V.lst? v).bind fun q => if g.length = L then K q else none) = K ((sealB p).length, bF (sealB p)) := by
  rw [rSeal_give hk hp, pO_some]
  simp [V.lst?, V.f?, F.lst?, hL]
theorem seal_val {h : H} {L : Nat} {p : List UInt8} (hp : p.length < 1000000000000) (hL : h.length = L) (K : Nat × List F → R) :
    (pO (run w0 12 [.f (.lst p.length (bF p))] h) fun v g => (V.lst? v).bind fun q => if g.length = L then K q else none) = K ((sealB p).length, bF (sealB p)) := by
  rw [rSeal_spec hp, pO_some]
  simp [V.lst?, V.f?, F.lst?, hL]
theorem bytes_same (p : List UInt8) : ((⟨p.toArray⟩ : ByteArray).toList == (⟨p.toArray⟩ : ByteArray).toList) = true := by simp
theorem bytes_eq (p q : List UInt8) : ((⟨p.toArray⟩ : ByteArray).toList == (⟨q.toArray⟩ : ByteArray).toList) = decide (p = q) := by rw [ba_mk, ba_mk, Bool.eq_iff_iff]; simp

theorem FileBytes_law (d1 d2 : Int) (h1 : byteI d1) (h2 : byteI d2) (acts : List Quad) (ho : ∀ q ∈ acts, okQ q) (hl : acts.length < 9223372036854775808) : FileBytes_0 d1 d2 acts.length (quadsF acts) = yes := by
  obtain ⟨s, hr, hm⟩ := sMake_spec d1 d2 h1 h2 acts ho hl
  have hb := layB_len hr
  rw [FileBytes_eq]
  simp only [fawake_spec, pB_some]
  rw [if_pos (by rfl)]
  by_cases h40 : acts.length > 40
  · rw [if_pos (by simp; omega)]
  · rw [if_neg (by simp; omega), make_go (hm _), enc_go hr, dec_go (seal_room hr) (L := 2) rfl, decM_seal hr, if_pos (by rfl), str_bF, lay_go hr (L := 3) (L' := 4) rfl rfl,
      seal_go (p := layB s) (h := [_, _, _, .fz (bF (layB s))]) (k := 3) (L := 4) rfl (by omega) rfl]
    simp only [str_bF]
    rw [if_pos (bytes_same _), if_pos (by rfl), sSame_spec s s (right_small hr), pB_some]
    simp
theorem FileApart_law (d1 d2 : Int) (h1 : byteI d1) (h2 : byteI d2) (acts : List Quad) (ho : ∀ q ∈ acts, okQ q) (hl : acts.length < 9223372036854775808)
    (e1 e2 : Int) (k1 : byteI e1) (k2 : byteI e2) (acts' : List Quad) (ho' : ∀ q ∈ acts', okQ q) (hl' : acts'.length < 9223372036854775808) (b : Bool) :
    FileApart_0 d1 d2 acts.length (quadsF acts) e1 e2 acts'.length (quadsF acts') b = yes := by
  obtain ⟨s, hr, hm⟩ := sMake_spec d1 d2 h1 h2 acts ho hl
  obtain ⟨t, hr', hm'⟩ := sMake_spec e1 e2 k1 k2 acts' ho' hl'
  rw [FileApart_eq]
  simp only [fawake_spec, pB_some]
  rw [if_pos (by rfl)]
  have core : ∀ s t : MSys, rightR s = true → rightR t = true → decide (sealB (layB s) = sealB (layB t)) = decide (s = t) := by
    intro s t hs ht
    apply decide_eq_decide.2
    refine ⟨fun h => ?_, fun h => by rw [h]⟩
    have := congrArg openB h
    rw [open_seal, open_seal] at this
    exact layB_inj hs ht (Prod.mk.inj this).1
  split
  · split
    · rfl
    · split
      · rw [make_go (hm _), make_go (hm _), enc_go hr, enc_go hr, str_bF, str_bF, sSame_spec s s (right_small hr), pB_some, bytes_eq, core s s hr hr]
        simp
      · rw [make_go (hm _), make_go (hm' _), enc_go hr, enc_go hr', str_bF, str_bF, sSame_spec s t (right_small hr), pB_some, bytes_eq, core s t hr hr']
        simp
  · rfl
theorem FileRaw_law (s : MSys) (hs : smallS s) : FileRaw_0 s.vars s.cells.length (cellsF s.cells) s.cons.length (consF s.cons) = yes := by
  rw [FileRaw_eq]
  simp only [fawake_spec, pB_some]
  rw [if_pos (by rfl)]
  split
  · split
    · rfl
    · by_cases hr : rightR s = true
      · rw [enc_go hr, sRight_spec s hs, pB_some, hr, if_neg (by simp), dec_go (seal_room hr) (L := 1) rfl, decM_seal hr, if_pos (by rfl), if_pos (by rfl), sSame_spec s s hs, pB_some]
        simp
      · have hr' : rightR s = false := by simpa using hr
        rw [fEncode_spec s hs, if_neg hr, pT_some]
        simp only [cI, cL, V.lst?, V.int?, V.f?, F.lst?, F.int?, List.getElem?_cons_zero, List.getElem?_cons_succ, Option.bind_some, if_true, List.length_cons, List.length_nil, sRight_spec s hs, pB_some, hr']
        rfl
  · rfl
/-! ### other bytes -/
theorem decM_none {p : List UInt8} (h : (decM p).2 ≠ 0) : (decM p).1 = zeroS ∧ ((decM p).2 = 4 ∨ (decM p).2 = 6 ∨ (decM p).2 = 3) := by
  unfold decM at h ⊢
  split at h
  · rename_i h0
    rw [if_pos h0]
    cases hp : pSys (openB p).1 with
    | none => exact ⟨rfl, .inl rfl⟩
    | some s => rw [hp] at h; exact absurd rfl h
  · rename_i h0
    rw [if_neg h0]
    refine ⟨rfl, ?_⟩
    dsimp only
    unfold openB at h0 ⊢
    split
    · exact .inr (.inr rfl)
    · split
      · exact .inr (.inl rfl)
      · rename_i a b; rw [if_neg a, if_neg b] at h0; exact absurd rfl h0
theorem decM_sealed {x : List UInt8} (h : (decM (sealB x)).2 ≠ 0) : (decM (sealB x)).2 = 4 := by
  unfold decM at h ⊢
  rw [open_seal] at h ⊢
  rw [if_pos rfl] at h ⊢
  cases hp : pSys x with
  | none => rfl
  | some s => rw [hp] at h; exact absurd rfl h
theorem decM_some {p : List UInt8} (h : (decM p).2 = 0) : rightR (decM p).1 = true ∧ p = sealB (layB (decM p).1) := by
  unfold decM at h ⊢
  split at h
  · rename_i h0
    rw [if_pos h0]
    cases hp : pSys (openB p).1 with
    | none => rw [hp] at h; cases h
    | some s =>
      obtain ⟨g1, g2⟩ := pSys_got hp
      dsimp only
      refine ⟨g2, ?_⟩
      rw [← g1]
      exact seal_open (by rcases ho : openB p with ⟨q, e⟩; rw [ho] at h0; dsimp only at h0 ⊢; rw [h0])
  · rename_i h0; dsimp only at h; exact absurd h h0
abbrev rowsF (l : List (List UInt8)) : List F := l.map fun x => F.lst x.length (bF x)
theorem rd_loop (b : Bool) (l : List (List UInt8)) (hl : ∀ x ∈ l, x.length < 1000000000) (hn : l.length < 100) : ∀ (rest : List (List UInt8)) (i : Nat), l.drop i = rest → i ≤ l.length →
    FileReads_1 b l.length (rowsF l) l.length i = yes
  | [], i, hd, hi => by
    have := done_of_drop hd
    rw [FileReads_1_eq, if_neg (by simp; omega)]
  | x :: rest, i, hd, hi => by
    have hlt := lt_of_drop hd
    have hx := hl x (mem_of_drop hd)
    have ih := rd_loop b l hl hn rest (i + 1) (drop_next hd) (by omega)
    have ih' : FileReads_1 b l.length (rowsF l) l.length (IntKind.wrap .i64 ((i : Int) + 1)) = yes := by
      rw [wrap_i64 (by omega) (by omega), show ((i : Int) + 1) = ((i + 1 : Nat) : Int) by omega]; exact ih
    have he : rowsF l = l.flatMap fun x => [F.lst x.length (bF x)] := by rw [rowsF, List.map_eq_flatMap]
    rw [FileReads_1_eq, if_pos (by simp; omega)]
    rw [show (F.lst l.length (rowsF l)) = F.lst l.length (l.flatMap fun x => [F.lst x.length (bF x)]) by rw [he], elem_next (f := fun x : List UInt8 => [F.lst x.length (bF x)]) (fun _ => rfl) hd]
    simp only [List.cons_append, List.nil_append, atL_zero]
    cases b
    · rw [if_neg (by simp), dec_go (p := x) (by unfold roomB; omega) (L := 0) rfl]
      by_cases h0 : (decM x).2 = 0
      · obtain ⟨hr, hp⟩ := decM_some h0
        rw [h0, if_neg (by simp), enc_go hr, syRight_spec _ (right_small hr), pB_some, hr, if_pos (by rfl), if_pos (by rfl), str_bF, str_bF, bytes_eq, if_neg (by rw [← hp]; simp)]
        exact ih'
      · obtain ⟨hz, hf⟩ := decM_none h0
        rw [hz, if_pos (by simp; omega), if_pos (by rfl), if_neg (by simp)]
        rcases hf with hf | hf | hf <;> rw [hf] <;> exact ih'
    · rw [if_pos rfl, seal_val (by omega) (L := 0) rfl]
      dsimp only
      have hsl := seal_len x
      rw [dec_go (p := sealB x) (by unfold roomB; omega) (L := 0) rfl]
      by_cases h0 : (decM (sealB x)).2 = 0
      · obtain ⟨hr, hp⟩ := decM_some h0
        rw [h0, if_neg (by simp), enc_go hr, syRight_spec _ (right_small hr), pB_some, hr, if_pos (by rfl), if_pos (by rfl), str_bF, str_bF, bytes_eq, if_neg (by rw [← hp]; simp)]
        exact ih'
      · obtain ⟨hz, hf⟩ := decM_none h0
        have h4 := decM_sealed h0
        rw [hz, if_pos (by simp; omega), if_pos (by rfl), if_pos rfl, h4]
        exact ih'
theorem FileReads_law (raw : List UInt8) (d1 d2 : Int) (h1 : byteI d1) (h2 : byteI d2) (acts : List Quad) (ho : ∀ q ∈ acts, okQ q) (hl : acts.length < 9223372036854775808)
    (at_ mask cut : Int) (ha : 0 ≤ at_ ∧ at_ ≤ 65535) (hm : byteI mask) (hc : 0 ≤ cut ∧ cut ≤ 65535) (b : Bool) : FileReads_0 raw.length (bF raw) d1 d2 acts.length (quadsF acts) at_ mask cut b = yes := by
  obtain ⟨s, hr, hmk⟩ := sMake_spec d1 d2 h1 h2 acts ho hl
  have hb := layB_len hr
  have hpos : 4 ≤ (layB s).length := by unfold layB; simp [markB]
  rw [FileReads_eq]
  simp only [fawake_spec, pB_some]
  rw [if_pos (by rfl)]
  by_cases hraw : raw.length ≤ 200
  · rw [if_pos (by simp; omega)]
    by_cases h40 : acts.length > 40
    · rw [if_pos (by simp; omega)]
    · rw [if_neg (by simp; omega), make_go (hmk _), lay_go hr (L := 1) (L' := 2) rfl rfl]
      generalize layB s = p at hb hpos ⊢
      rw [wrap_i64 (n := at_) (by omega) (by omega), wrap_i64 (n := cut) (by omega) (by omega), wrap_i64 (n := (p.length : Int) + 1) (by omega) (by omega), if_neg (by omega)]
      have tc := tm (x := cut) (v := (p.length : Int) + 1) (by omega) (by omega)
      have ta := tm (x := at_) (v := (p.length : Int)) (by omega) (by omega)
      rw [if_pos ⟨tc.1, by omega⟩, Option.bind_some]
      obtain ⟨j, hj⟩ : ∃ j : Nat, Int.tmod cut ((p.length : Int) + 1) = j := ⟨_, (Int.toNat_of_nonneg tc.1).symm⟩
      obtain ⟨a, hat⟩ : ∃ a : Nat, Int.tmod at_ (p.length : Int) = a := ⟨_, (Int.toNat_of_nonneg ta.1).symm⟩
      rw [hj, hat, Int.toNat_natCast, Int.toNat_natCast]
      rw [hj] at tc
      rw [hat] at ta
      have hca : a < p.length := by omega
      simp only [Nat.zero_add, Nat.mul_one, List.drop_zero, Nat.sub_zero]
      have hg : ∀ K : Int → R, atI .u8 (bF p) a K = K (p[a].toNat : Nat) := fun K => by simp [atI, bF, hca, F.int?]
      rw [hg]
      have hu8 : ∀ z : Int, ∃ u : UInt8, IntKind.wrap .u8 z = (u.toNat : Nat) := fun z => ⟨UInt8.ofNat (IntKind.wrap .u8 z).toNat, by have w := wrap_u8 z; simp; omega⟩
      obtain ⟨u, hu⟩ := hu8 (BitVec.ofInt 8 ((p[a].toNat : Nat) : Int) ^^^ BitVec.ofInt 8 mask).toNat
      rw [hu]
      have hset : (bF p).set a (F.s (.int .u8 (u.toNat : Nat))) = bF (p.set a u) := by simp [bF, List.map_set]
      rw [hset]
      generalize hp' : p.set a _ = p'
      have hl' : p'.length = p.length := by rw [← hp']; simp
      obtain ⟨w, hw⟩ : ∃ w : UInt8, mask = (w.toNat : Nat) := ⟨UInt8.ofNat mask.toNat, by unfold byteI at hm; simp; omega⟩
      rw [hw]
      have e1 : (bF p).take j = bF (p.take j) := by simp [bF, List.map_take]
      have e2 : (bF p').take p.length = bF p' := bF_all' _ _ hl'.symm
      have e3 : ([F.s (.int .u8 87), F.s (.int .u8 86), F.s (.int .u8 67), F.s (.int .u8 49)] : List F) ++ bF raw = bF (markB ++ raw) := by rw [mark_cells, bF_append]
      have e4 : bF p' ++ [F.s (.int .u8 (w.toNat : Nat))] = bF (p' ++ [w]) := by rw [bF_append]; rfl
      have e5 : (bF (p.take j)).take j = bF (p.take j) := bF_all' _ _ (by simp; omega)
      have e6 : (bF (markB ++ raw)).take (4 + raw.length) = bF (markB ++ raw) := bF_all' _ _ (by simp [markB]; omega)
      have e7 : (bF (p' ++ [w])).take (p.length + 1) = bF (p' ++ [w]) := bF_all' _ _ (by simp; omega)
      simp only [e1, e2, e3, e4, e5, e6, e7, bF_length]
      have lj : (p.take j).length = j := by simp; omega
      have lm : (markB ++ raw).length = 4 + raw.length := by simp [markB]; omega
      have lw : (p' ++ [w]).length = p.length + 1 := by simp; omega
      rw [lj, lm, lw, hl']
      rw [if_pos ⟨trivial, by omega⟩, if_pos ⟨by decide, rfl, by decide⟩, if_pos (by omega), if_neg (by omega), if_pos ⟨trivial, by omega, by omega⟩, if_pos ⟨trivial, by omega, by omega⟩, if_pos (by omega), if_pos ⟨by decide, trivial, by decide⟩, if_pos ⟨trivial, by omega⟩, if_pos ⟨trivial, by omega⟩, if_pos ⟨by decide, rfl, by decide⟩, if_pos (by omega), if_pos ⟨trivial, by omega⟩, if_pos (Nat.le_refl _), if_pos (Nat.le_refl _), if_pos (Nat.le_refl _), if_pos (Nat.le_refl _), if_pos (Nat.le_refl _)]
      have fin := rd_loop b [raw, p', p.take j, markB ++ raw, p' ++ [w]] (fun x hx => by
        simp only [List.mem_cons, List.not_mem_nil, or_false] at hx
        rcases hx with rfl | rfl | rfl | rfl | rfl <;> omega) (by simp) _ 0 rfl (by omega)
      simp only [rowsF, List.map_cons, List.map_nil, lj, lm, lw, hl'] at fin
      exact fin
  · rw [if_neg (by simp; omega)]
end Go.Proofs.YtlemkcclgneemaaDoor
