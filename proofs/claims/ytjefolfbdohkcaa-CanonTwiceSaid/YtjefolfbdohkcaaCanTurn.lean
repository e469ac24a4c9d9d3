/-
  What the statements of canon do to a module: its strings stand otherwise.
-/
import Derived.Test.YtjefolfbdohkcaaCanCheck
set_option autoImplicit false
set_option linter.unusedVariables false
set_option linter.unusedSimpArgs false
namespace Go.Proofs.Ytjefolfbdohkcaa
open Go Go.Abs
def gT (n k more : Nat) (x : Int) : Int := (more : Int) + (x - k + n) % n
def rotS (S : List ByteArray) (k : Nat) : List ByteArray := (List.range S.length).map fun i => S.getD ((i + k) % S.length) default
def shufM (m : Abs.Mod) (turn : Nat) (more : List ByteArray) : Abs.Mod := if m.strings.length = 0 then m else saidM (more ++ rotS m.strings (turn % m.strings.length)) (gT m.strings.length (turn % m.strings.length) more.length) m
theorem gT_eq {n k more : Nat} {x : Int} (hn : 0 < n) (hnb : n ≤ 10000) (hk : k < n) (hm : more ≤ 10) (h0 : 0 ≤ x) (h1 : x < n) : IntKind.wrap .i64 ((more : Int) + (Int.tmod (IntKind.wrap .i64 ((IntKind.wrap .i64 (x - (k : Int))) + (n : Int))) (n : Int))) = gT n k more x := by
  have e1 : IntKind.wrap .i64 (x - (k : Int)) = x - k := wrap_i64 (by omega) (by omega)
  rw [e1]
  have e2 : IntKind.wrap .i64 (x - (k : Int) + n) = x - k + n := wrap_i64 (by omega) (by omega)
  rw [e2, Int.tmod_eq_emod_of_nonneg (by omega)]
  have := Int.emod_nonneg (x - k + n) (show (n : Int) ≠ 0 by omega)
  have h2 := Int.emod_lt_of_pos (x - k + n) (show (0 : Int) < n by omega)
  rw [wrap_i64 (by omega) (by omega)]
  rfl
section
variable {n k more : Nat} (hn : 0 < n) (hnb : n ≤ 10000) (hk : k < n) (hm : more ≤ 10)
include hn hnb hk hm
theorem turnsof_spec {x : Int} (h0 : 0 ≤ x) (h1 : x < n) (h : H) : run w0 29 [.agg [N .i64 n, N .i64 k, N .i64 more], N .i64 x] h = some (.ret (N .i64 (gT n k more x)), h) := by
  rw [turnsof_run, turnsof_eq, if_neg (by omega), gT_eq hn hnb hk hm h0 h1, withH_true]
theorem turnsall_loop (l : List Int) (hl : l.length ≤ 100000) (hin : ∀ x ∈ l, 0 ≤ x ∧ x < n) : ∀ (rest : List Int) (i : Nat), l.drop i = rest → i ≤ l.length →
    turnsall_1 l.length (kF .i64 l) n k more i i (kF .i64 ((l.take i).map (gT n k more))) = some (.ret (.f (.lst l.length (kF .i64 (l.map (gT n k more))))), [])
  | [], i, hd, hi => by
    have := done_of_drop hd
    have hi' : i = l.length := by omega
    subst hi'
    rw [turnsall_1_eq, if_neg (by simp), if_pos (by simp), List.take_length, List.drop_zero, List.take_of_length_le (by simp)]
  | x :: rest, i, hd, hi => by
    have hlt := lt_of_drop hd
    obtain ⟨h0, h1⟩ := hin x (List.mem_of_mem_drop (by rw [hd]; simp))
    rw [turnsall_1_eq, if_pos (decide_eq_true (by omega)), elem_kF hd, atI_zero, turnsof_spec hn hnb hk hm h0 h1, pI_some]
    have hlen : (kF .i64 ((l.take i).map (gT n k more))).length = i := by simp; omega
    rw [if_pos ⟨rfl, by omega⟩, if_pos (by omega), if_pos (by simp; omega)]
    have e1 : ((((kF .i64 ((l.take i).map (gT n k more))).drop 0).take (i * 1) ++ [F.s (.int .i64 (gT n k more x))]).drop 0).take ((i + 1) * 1) = kF .i64 ((l.take (i + 1)).map (gT n k more)) := by
      rw [List.drop_zero, List.drop_zero, List.take_of_length_le (l := kF .i64 _) (by omega), List.take_of_length_le (by simp; omega), take_next hd, List.map_append, kF_append]
      rfl
    rw [e1, show ((i : Nat) : Int) + 1 = ((i + 1 : Nat) : Int) by omega, wrap_i64 (by omega) (by omega)]
    exact turnsall_loop l hl hin rest (i + 1) (drop_next hd) (by omega)
theorem turnsall_spec (l : List Int) (hl : l.length ≤ 100000) (hin : ∀ x ∈ l, 0 ≤ x ∧ x < n) (h : H) : run w0 28 [.agg [N .i64 n, N .i64 k, N .i64 more], .f (.lst l.length (kF .i64 l))] h = some (.ret (.f (.lst l.length (kF .i64 (l.map (gT n k more))))), h) := by
  have := turnsall_loop hn hnb hk hm l hl hin l 0 rfl (Nat.zero_le _)
  rw [turnsall_run, turnsall_eq]
  exact (congrArg (withH true h) this).trans (withH_true _ _ _)
end
theorem rot_len (S : List ByteArray) (k : Nat) : (rotS S k).length = S.length := by simp [rotS]
theorem rot_take (S : List ByteArray) (k i : Nat) (hi : i < S.length) : (rotS S k).take (i + 1) = (rotS S k).take i ++ [S.getD ((i + k) % S.length) default] := by
  rw [List.take_succ_eq_append_getElem (by rw [rot_len]; exact hi)]
  congr 2
  simp [rotS]
section
variable {m : Abs.Mod} (hm : okC m) (hu : ∀ x ∈ usedR m, 0 ≤ x ∧ x < m.strings.length) {k : Nat} (hn : 0 < m.strings.length) (hk : k < m.strings.length) {more : List ByteArray} (hmo : more.length ≤ 10)
include hm hu hn hk hmo
abbrev numT (m : Abs.Mod) (k : Nat) (more : List ByteArray) : Int → Int := gT m.strings.length k more.length
theorem shuf2 (Ls : Nat) (cs : List F) (Lg : Nat) (cg : List F) : ∀ (rest : List MFun) (i : Nat), m.funcs.drop i = rest → i ≤ m.funcs.length →
    shuffled_2 m.strings.length k more.length i i Ls cs Lg cg m.funcs.length (funsF m.funcs) m.entries.length (kF .i64 m.entries) (funsF ((m.funcs.take i).map (mapF (numT m k more)))) =
      some (.ret (.agg [.f (.lst Ls cs), .f (.lst Lg cg), .f (.lst m.funcs.length (funsF (m.funcs.map (mapF (numT m k more))))), .f (.lst m.entries.length (kF .i64 m.entries))]), [])
  | [], i, hd, hi => by
    have := done_of_drop hd
    have hi' : i = m.funcs.length := by omega
    subst hi'
    have hlen : (funsF (m.funcs.map (mapF (numT m k more)))).length = m.funcs.length * 5 := by rw [funsF, flat_len MFun.F_len, List.length_map]
    rw [shuffled_2_eq, if_neg (by simp), List.take_length, if_pos (by omega), List.drop_zero, List.take_of_length_le (by omega)]
  | f :: rest, i, hd, hi => by
    have hlt := lt_of_drop hd
    have hmem : f ∈ m.funcs := List.mem_of_mem_drop (by rw [hd]; simp)
    obtain ⟨b1, b2, b3, b4, b5⟩ := id hm
    obtain ⟨c1, c2, c3, c4⟩ := b5 f hmem
    have hx : ∀ x ∈ usedF f, 0 ≤ x ∧ x < m.strings.length := fun x hx => hu x (usedR_mem hmem hx)
    have hlen : (funsF ((m.funcs.take i).map (mapF (numT m k more)))).length = i * 5 := by rw [funsF, flat_len MFun.F_len, List.length_map, List.length_take]; congr 1; omega
    rw [shuffled_2_eq, if_pos (decide_eq_true (by omega)), elem_next MFun.F_len hd]
    simp only [MFun.F, List.cons_append, List.nil_append, atI_zero, atI_succ, atL_zero, atL_succ]
    rw [turnsof_spec hn b1 hk hmo (hx f.name (by simp [usedF])).1 (hx f.name (by simp [usedF])).2, pI_some,
      turnsall_spec hn b1 hk hmo f.locals (by omega) (fun x h => hx x (by simp [usedF, h])), pL_some, turnsall_spec hn b1 hk hmo f.sites (by omega) (fun x h => hx x (by simp [usedF, h])), pL_some]
    rw [if_pos ⟨by first | rfl | trivial, by omega⟩, if_pos (by omega), if_pos (by rw [List.length_append, List.length_take, List.drop_zero, hlen]; simp only [List.length_cons, List.length_nil]; omega)]
    have e1 : ((((funsF ((m.funcs.take i).map (mapF (numT m k more)))).drop 0).take (i * 5) ++ [F.s (.int .i64 (gT m.strings.length k more.length f.name)), F.s (.int .i64 f.params), F.lst f.locals.length (kF .i64 (f.locals.map (gT m.strings.length k more.length))), F.lst f.sites.length (kF .i64 (f.sites.map (gT m.strings.length k more.length))), F.lst f.body.length (stmtsF f.body)]).drop 0).take ((i + 1) * 5) = funsF ((m.funcs.take (i + 1)).map (mapF (numT m k more))) := by
      rw [List.drop_zero, List.drop_zero, List.take_of_length_le (l := funsF _) (by omega), List.take_of_length_le (by rw [List.length_append, hlen]; simp only [List.length_cons, List.length_nil]; omega), take_next hd, List.map_append, funsF, funsF, List.flatMap_append]
      simp [mapF, MFun.F, numT]
    rw [e1, show ((i : Nat) : Int) + 1 = ((i + 1 : Nat) : Int) by omega, wrap_i64 (by omega) (by omega)]
    exact shuf2 Ls cs Lg cg rest (i + 1) (drop_next hd) (by omega)
theorem shuf1 (c13 : List F) : ∀ (d i : Nat), i + d = m.strings.length →
    shuffled_1 more.length c13 m.strings.length k (more.length + i) i m.strings.length (sF m.strings) m.globals.length (kF .i64 m.globals) m.funcs.length (funsF m.funcs) m.entries.length (kF .i64 m.entries) (sF (more ++ (rotS m.strings k).take i)) =
      some (.ret (.agg (modV (saidM (more ++ rotS m.strings k) (numT m k more) m))), [])
  | 0, i, h => by
    have hi : i = m.strings.length := by omega
    obtain ⟨b1, b2, b3, b4, b5⟩ := id hm
    rw [shuffled_1_eq, if_neg (by simp; omega), turnsall_spec hn b1 hk hmo m.globals (by omega) (fun x h => hu x (List.mem_append_left _ h)), pL_some]
    have htk : (rotS m.strings k).take i = rotS m.strings k := List.take_of_length_le (by rw [rot_len]; omega)
    have hlen : (sF (more ++ rotS m.strings k)).length = more.length + i := by simp [rot_len]; omega
    rw [htk, if_pos (by omega), List.drop_zero, List.take_of_length_le (by omega)]
    have e := shuf2 hm hu hn hk hmo (more.length + i) (sF (more ++ rotS m.strings k)) m.globals.length (kF .i64 (m.globals.map (gT m.strings.length k more.length))) m.funcs 0 rfl (Nat.zero_le _)
    refine Eq.trans e ?_
    simp [modV, saidM, rot_len, hi, numT]
  | d + 1, i, h => by
    obtain ⟨b1, b2, b3, b4, b5⟩ := id hm
    have hi : i < m.strings.length := by omega
    have hq : (i + k) % m.strings.length < m.strings.length := Nat.mod_lt _ hn
    have e0 : Int.tmod (IntKind.wrap .i64 ((i : Int) + (k : Int))) (m.strings.length : Int) = (((i + k) % m.strings.length : Nat) : Int) := by
      rw [wrap_i64 (by omega) (by omega), show (i : Int) + (k : Int) = ((i + k : Nat) : Int) by omega, tmodN]
    have hdr : m.strings.drop ((i + k) % m.strings.length) = m.strings.getD ((i + k) % m.strings.length) default :: m.strings.drop ((i + k) % m.strings.length + 1) := by
      rw [drop_get hq]; congr 1; simp [hq]
    have hlen : (sF (more ++ (rotS m.strings k).take i)).length = more.length + i := by simp [rot_len]; omega
    rw [shuffled_1_eq, if_pos (decide_eq_true (by omega)), if_neg (by omega), e0, elem_sF hdr, atS_zero]
    rw [if_pos ⟨rfl, by omega⟩, if_pos (by omega), if_pos (by simp [rot_len]; omega)]
    have e1 : ((((sF (more ++ (rotS m.strings k).take i)).drop 0).take ((more.length + i) * 1) ++ [F.s (.string (m.strings.getD ((i + k) % m.strings.length) default))]).drop 0).take ((more.length + i + 1) * 1) = sF (more ++ (rotS m.strings k).take (i + 1)) := by
      rw [List.drop_zero, List.drop_zero, List.take_of_length_le (l := sF _) (by omega), List.take_of_length_le (by simp [rot_len]; omega), rot_take _ _ _ hi]
      simp [sF]
    rw [e1, show ((i : Nat) : Int) + 1 = ((i + 1 : Nat) : Int) by omega, wrap_i64 (by omega) (by omega)]
    exact shuf1 c13 d (i + 1) (by omega)
end
theorem shuffled_spec {m : Abs.Mod} (hm : okC m) (hu : ∀ x ∈ usedR m, 0 ≤ x ∧ x < m.strings.length) {turn : Nat} (ht : turn < 256) {more : List ByteArray} (hmo : more.length ≤ 10) (h : H) :
    run w0 11 [.agg (modV m), N .u8 turn, .f (.lst more.length (sF more))] h = some (.ret (.agg (modV (shufM m turn more))), h) := by
  rw [modV, shuffled_run, shuffled_eq]
  unfold shufM
  by_cases h0 : m.strings.length = 0
  · rw [if_pos (by simp [h0]), if_pos h0, withH_true]
  · have hn : 0 < m.strings.length := by omega
    rw [if_neg (by simp only [beq_iff_eq]; omega), if_neg h0, if_neg (by omega), if_pos ⟨by omega, by simp, by omega⟩, if_pos (by omega), if_pos (by simp)]
    have e0 : Int.tmod (IntKind.wrap .i64 (turn : Int)) (m.strings.length : Int) = ((turn % m.strings.length : Nat) : Int) := by rw [wrap_i64 (by omega) (by omega), tmodN]
    have e := shuf1 hm hu hn (Nat.mod_lt turn hn) hmo (sF more) m.strings.length 0 (by omega)
    rw [List.take_zero, List.append_nil] at e
    rw [e0, List.drop_zero, List.take_of_length_le (by simp)]
    exact (congrArg (withH true h) e).trans (withH_true _ _ _)
/-! ### they're the same -/
theorem rot_same {m : Abs.Mod} {k : Nat} (hk : k < m.strings.length) (more : List ByteArray) {x : Int} (h0 : 0 ≤ x) (h1 : x < m.strings.length) : SameAt (more ++ rotS m.strings k) m.strings (gT m.strings.length k more.length) x := by
  have hn : 0 < m.strings.length := by omega
  have hnn := Int.emod_nonneg (x - k + m.strings.length) (show (m.strings.length : Int) ≠ 0 by omega)
  have hlt := Int.emod_lt_of_pos (x - k + m.strings.length) (show (0 : Int) < m.strings.length by omega)
  refine ⟨h0, by unfold gT; omega, ?_⟩
  unfold gT
  obtain ⟨y, rfl⟩ : ∃ y : Nat, x = y := ⟨x.toNat, by omega⟩
  have hy : y < m.strings.length := by omega
  generalize hq : ((y : Int) - k + m.strings.length) % m.strings.length = q at hnn hlt
  obtain ⟨q, rfl⟩ : ∃ z : Nat, q = z := ⟨q.toNat, by omega⟩
  have hqn : q < m.strings.length := by omega
  have hqq : (q + k) % m.strings.length = y := by
    rcases Nat.lt_or_ge y k with hyk | hyk
    · have : q = y + m.strings.length - k := by
        rw [Int.emod_eq_of_lt (by omega) (by omega)] at hq; omega
      rw [this, show y + m.strings.length - k + k = y + m.strings.length by omega, Nat.add_mod_right, Nat.mod_eq_of_lt hy]
    · have : q = y - k := by
        have e : (y : Int) - k + m.strings.length = ((y - k : Nat) : Int) + m.strings.length := by omega
        rw [e, Int.add_emod_right, Int.emod_eq_of_lt (by omega) (by omega)] at hq; omega
      rw [this, show y - k + k = y by omega, Nat.mod_eq_of_lt hy]
  rw [show ((more.length : Int) + (q : Int)).toNat = more.length + q by omega, List.getElem?_append_right (by omega), Nat.add_sub_cancel_left, Int.toNat_natCast]
  simp only [rotS, List.getElem?_map, List.getElem?_range hqn, Option.map_some, hqq]
  rw [List.getElem?_eq_getElem hy]
  simp [hy]
theorem shuf_tree {m : Abs.Mod} (hu : ∀ x ∈ usedR m, 0 ≤ x ∧ x < m.strings.length) (turn : Nat) (more : List ByteArray) : treeR (shufM m turn more) = treeR m := by
  unfold shufM
  split
  · rfl
  · rename_i h0
    exact mv_tree fun x hx => rot_same (Nat.mod_lt _ (by omega)) more (hu x hx).1 (hu x hx).2
theorem shuf_canon {m : Abs.Mod} (hu : ∀ x ∈ usedR m, 0 ≤ x ∧ x < m.strings.length) (turn : Nat) (more : List ByteArray) : canonM (shufM m turn more) = canonM m := by
  unfold shufM
  split
  · rfl
  · rename_i h0
    exact mv_canon (fun x hx => rot_same (Nat.mod_lt _ (by omega)) more (hu x hx).1 (hu x hx).2) hu
theorem shuf_ok {m : Abs.Mod} (hm : okC m) (hS : m.strings.length ≤ 5000) (turn : Nat) {more : List ByteArray} (hmo : more.length ≤ 10) : okC (shufM m turn more) := by
  unfold shufM
  split
  · exact hm
  · obtain ⟨hs, hg, hf, he, hfs⟩ := hm
    refine ⟨by simp [saidM, rot_len]; omega, by simpa [saidM] using hg, by simpa [saidM] using hf, he, fun f hf' => ?_⟩
    obtain ⟨g, hg', rfl⟩ := List.mem_map.1 (show f ∈ m.funcs.map (mapF _) from hf')
    obtain ⟨a, b, c, d⟩ := hfs g hg'
    exact ⟨by simpa [mapF] using a, by simpa [mapF] using b, c, d⟩
theorem shuf_args {m : Abs.Mod} (ha : argsOk m) (turn : Nat) (more : List ByteArray) : argsOk (shufM m turn more) := by
  unfold shufM
  split
  · exact ha
  · intro f hf
    obtain ⟨g, hg', rfl⟩ := List.mem_map.1 (show f ∈ m.funcs.map (mapF _) from hf)
    exact ha g hg'
end Go.Proofs.Ytjefolfbdohkcaa
/-
  A module without a fault is small.
-/
namespace Go.Proofs.Ytjefolfbdohkcaa
open Go Go.Abs
theorem stmt_small {m : Abs.Mod} {f : MFun} {d : Nat} {s : MStmt} (h : ¬ 0 < stmtR m f d s) : d ≤ 8 ∧ s.args.length ≤ 6 ∧ (s.kind ≠ 7 → s.body = []) := by
  unfold stmtR at h
  split at h
  · omega
  rename_i h1
  split at h
  · omega
  rename_i h2
  split at h
  · omega
  split at h
  · omega
  rename_i h4
  refine ⟨by omega, ?_⟩
  have hk : kindsR s = true := by cases hq : kindsR s <;> simp_all
  unfold kindsR at hk
  split at hk
  · simp at hk; rw [hk.1]; exact ⟨by simp, fun _ => hk.2.1⟩
  split at hk
  · simp at hk; rw [hk.1]; exact ⟨by simp, fun _ => hk.2.1⟩
  split at hk
  · rename_i h5
    simp at hk
    refine ⟨?_, fun _ => hk.2.1⟩
    exact Classical.byContradiction fun q => h4 ⟨h5, .inl (by omega)⟩
  split at hk
  · simp at hk; rw [hk.1]; exact ⟨by simp, fun _ => hk.2.1⟩
  split at hk
  · rename_i h7
    simp at hk
    rw [hk.2.2]; exact ⟨by simp, fun q => absurd h7 q⟩
  · cases hk
theorem okB_flats {m : Abs.Mod} {f : MFun} : ∀ (N : Nat) (l : List MStmt) (d k : Nat), SizeOf.sizeOf l ≤ N → (flats d k l).length ≤ 400 → (∀ x ∈ flats d k l, ¬ 0 < stmtR m f x.deep x.s) → okB l ∧ l.length ≤ (flats d k l).length
  | 0, l, d, k, hN, _, _ => by cases l <;> simp at hN
  | N + 1, [], d, k, hN, _, _ => by simp [okB]
  | N + 1, s :: r, d, k, hN, hl, hs => by
    have hsz := sz_mem (l := s :: r) (s := s) (by simp)
    have hr : SizeOf.sizeOf r < SizeOf.sizeOf (s :: r) := by simp; omega
    rw [flats_cons] at hl hs ⊢
    by_cases h7 : s.kind = 7 ∧ d < 1000
    · rw [if_pos h7] at hl hs ⊢
      obtain ⟨a, b, c⟩ := stmt_small (hs ⟨k, d, s⟩ (by simp))
      simp only [List.length_cons, List.length_append] at hl ⊢
      obtain ⟨p1, p2⟩ := okB_flats N s.body (d + 1) (k + 1) (by omega) (by omega) (fun x hx => hs x (by simp [hx]))
      obtain ⟨q1, q2⟩ := okB_flats N r d (k + 1 + (flats (d + 1) (k + 1) s.body).length) (by omega) (by omega) (fun x hx => hs x (by simp [hx]))
      have hbl : s.body.length ≤ 400 := by omega
      have hba : s.args.length ≤ 6 := b
      refine ⟨?_, by omega⟩
      obtain ⟨k0, a0, b0, args, body⟩ := s
      simp only [okB, okS]
      simp only [MStmt.args, MStmt.body] at hba hbl p1
      exact ⟨⟨by omega, by omega, p1⟩, q1⟩
    · rw [if_neg h7] at hl hs ⊢
      obtain ⟨a, b, c⟩ := stmt_small (hs ⟨k, d, s⟩ (by simp))
      simp only [List.length_cons] at hl ⊢
      obtain ⟨q1, q2⟩ := okB_flats N r d (k + 1) (by omega) (by omega) (fun x hx => hs x (by simp [hx]))
      refine ⟨?_, by omega⟩
      have a' : d ≤ 8 := a
      have hb : s.body = [] := c (fun e => h7 ⟨e, by omega⟩)
      have hba : s.args.length ≤ 6 := b
      obtain ⟨k0, a0, b0, args, body⟩ := s
      simp only [MStmt.args, MStmt.body] at hba hb
      subst hb
      simp only [okB, okS]
      exact ⟨⟨by omega, by simp, trivial⟩, q1⟩
theorem stmtsR_all {m : Abs.Mod} {f : MFun} : ∀ {l : List MItem}, stmtsR m f l = none → ∀ x ∈ l, ¬ 0 < stmtR m f x.deep x.s
  | [], _, x, hx => by simp at hx
  | y :: r, h, x, hx => by
    unfold stmtsR at h
    split at h
    · cases h
    · rename_i hq
      rcases List.mem_cons.1 hx with e | e
      · subst e; exact hq
      · exact stmtsR_all h x e
theorem funsR_all {m : Abs.Mod} : ∀ {l : List MFun} {i : Nat}, funsR m i l = none → ∀ f ∈ l, ¬ 0 < funR m f ∧ stmtsR m f (flats 0 0 f.body) = none
  | [], _, _, f, hf => by simp at hf
  | y :: r, i, h, f, hf => by
    unfold funsR at h
    split at h
    · cases h
    · rename_i hq
      split at h
      · cases h
      · rename_i hn
        rcases List.mem_cons.1 hf with e | e
        · subst e; exact ⟨hq, hn⟩
        · exact funsR_all h f e
theorem tree_small {m : Abs.Mod} (h : treeR m = none) (hS : m.strings.length ≤ 10000) : okC m ∧ argsOk m := by
  unfold treeR at h
  split at h
  · cases h
  rename_i hw
  have hfs := funsR_all h
  have hw2 : m.globals.length ≤ 40 ∧ m.funcs.length ≤ 40 ∧ m.entries.length ≤ 40 := by
    refine Classical.byContradiction fun q => hw ?_
    unfold wholeR
    rw [if_pos (by omega)]; omega
  have hf : ∀ f ∈ m.funcs, (f.locals.length ≤ 40 ∧ f.sites.length ≤ 40 ∧ (flats 0 0 f.body).length ≤ 400) ∧ okB f.body ∧ f.body.length ≤ 400 := by
    intro f hf
    obtain ⟨h1, h2⟩ := hfs f hf
    have h3 : f.locals.length ≤ 40 ∧ f.sites.length ≤ 40 ∧ (flats 0 0 f.body).length ≤ 400 := by
      refine Classical.byContradiction fun q => h1 ?_
      unfold funR
      rw [if_pos (by omega)]; omega
    obtain ⟨a, b⟩ := okB_flats _ f.body 0 0 (Nat.le_refl _) h3.2.2 (stmtsR_all h2)
    exact ⟨h3, a, by omega⟩
  refine ⟨⟨hS, by omega, by omega, by omega, fun f hf' => ?_⟩, fun f hf' => ?_⟩
  · obtain ⟨⟨a, b, c⟩, d, e⟩ := hf f hf'
    exact ⟨by omega, by omega, by omega, d⟩
  · obtain ⟨⟨a, b, c⟩, d, e⟩ := hf f hf'
    refine ⟨by unfold big; omega, fun x hx => ?_⟩
    have := (stmt_small (stmtsR_all (hfs f hf').2 x hx)).2.1
    omega
end Go.Proofs.Ytjefolfbdohkcaa
