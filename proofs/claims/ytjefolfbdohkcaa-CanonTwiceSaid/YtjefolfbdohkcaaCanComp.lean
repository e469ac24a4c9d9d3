/-
  slices.Compact of strings.
-/
import Derived.Test.YtjefolfbdohkcaaCanFind
set_option autoImplicit false
set_option linter.unusedVariables false
set_option linter.unusedSimpArgs false
namespace Go.Proofs.Ytjefolfbdohkcaa
open Go Go.Abs
def cmpA (p : ByteArray) : List ByteArray → List ByteArray
  | [] => []
  | x :: r => if x = p then cmpA p r else x :: cmpA x r
def compL : List ByteArray → List ByteArray
  | [] => []
  | x :: r => x :: cmpA x r
theorem ba_eq_iff (a b : ByteArray) : (a.toList == b.toList) = decide (a = b) := by
  rw [Bool.eq_iff_iff]; simp only [beq_iff_eq, decide_eq_true_iff]
  exact ⟨fun h => by rw [ByteArray.toList_eq, ByteArray.toList_eq] at h; cases a; cases b; simp at h; rw [h], fun h => by rw [h]⟩
theorem ldF9 (k off : Nat) : ldFoot Try.prog 9 (.ptr k off) = .ldc k off 1 := by kernel_rfl
theorem slice_lo {k n w : Nat} (hw : w ≤ n) (h : H) (K : V → R) : slice Try.prog 25 (.ref k 0 n 1) (some (N .i64 w)) none none h K = K (.ref k w (n - w) 1) := by
  have : slice Try.prog 25 (.ref k 0 n 1) (some (N .i64 w)) none none h K = (bnd none n n).bind fun hh => (bnd (some (N .i64 w)) 0 hh).bind fun l => K (.ref k (0 + l * 1) (hh - l) 1) := by kernel_rfl
  rw [this]
  have hi : asIx (N .i64 w) = some (w : Int) := rfl
  simp [bnd, hi, hw]
theorem slice_hi {k n w : Nat} (hw : w ≤ n) (h : H) (K : V → R) : slice Try.prog 25 (.ref k 0 n 1) none (some (N .i64 w)) none h K = K (.ref k 0 w 1) := by
  have : slice Try.prog 25 (.ref k 0 n 1) none (some (N .i64 w)) none h K = (bnd (some (N .i64 w)) n n).bind fun hh => (bnd none 0 hh).bind fun l => K (.ref k (0 + l * 1) (hh - l) 1) := by kernel_rfl
  rw [this]
  have hi : asIx (N .i64 w) = some (w : Int) := rfl
  simp [bnd, hi, hw]
theorem clear25 (k off n : Nat) (h : H) (K : V → H → R) : clearS Try.prog 25 (.ref k off n 1) h K = if n = 0 then K (.tup []) h else wrK h k off (repl [S ⟨#[]⟩] n) fun h => K (.tup []) h := by kernel_rfl
theorem repl_sF : ∀ n : Nat, toFs ((repl [S (⟨#[]⟩ : ByteArray)] n).map nrmV) = some (sF (List.replicate n ⟨#[]⟩))
  | 0 => rfl
  | n + 1 => by
    have := repl_sF n
    simp only [repl, List.cons_append, List.nil_append, List.map_cons, List.replicate_succ, sF] at this ⊢
    simp only [toFs, nrmV, frzF, V.f?, Option.bind_some]
    rw [this]; rfl
theorem repl_length {α : Type} (z : α) : ∀ n : Nat, (repl [z] n).length = n
  | 0 => rfl
  | n + 1 => by simp [repl, repl_length z n]
theorem splice_mapF {α β : Type} (f : α → β) : ∀ (m cs : List α) (off : Nat), (splice cs off m).map f = splice (cs.map f) off (m.map f)
  | [], cs, off => rfl
  | x :: r, cs, off => by
    rw [splice, splice_mapF f r, List.map_set]; rfl
theorem sF_setB (xs : List ByteArray) (w : Nat) (s : ByteArray) : (sF xs).set w (.s (.string s)) = sF (xs.set w s) := by simp [sF, List.map_set]
theorem sF_at {xs : List ByteArray} {i : Nat} {x : ByteArray} (h : xs[i]? = some x) : (sF xs)[i]? = some (.s (.string x)) := by simp [sF, h]
theorem at_drop {α : Type} {l rest : List α} {x : α} {i : Nat} (h : l.drop i = x :: rest) : l[i]? = some x := by have h0 := congrArg (fun l => l[0]?) h; simpa [List.getElem?_drop] using h0
theorem take_set {α : Type} {l : List α} {w : Nat} {x : α} (hw : w < l.length) : (l.set w x).take (w + 1) = l.take w ++ [x] := by
  rw [List.take_succ_eq_append_getElem (by simpa using hw)]
  simp only [List.getElem_set_self]
  congr 1
  apply List.ext_getElem?
  intro i
  rw [List.getElem?_take, List.getElem?_take]
  split
  · rw [List.getElem?_set_ne (by omega)]
  · rfl
theorem compact2 {n K k0 : Nat} (hn : n ≤ 10000000) : ∀ (rest xs : List ByteArray) (last : ByteArray) (r w : Nat) (h : H), xs.length = n → xs.drop (k0 + r) = rest → 1 ≤ r → k0 + r ≤ n → xs[k0 + r - 1]? = some last → w + 1 ≤ k0 + r → h[K]? = some (.fz (sF xs)) →
    ∃ ys : List ByteArray, ys.length = n ∧ w + (cmpA last rest).length ≤ n ∧ ys.take (w + (cmpA last rest).length) = xs.take w ++ cmpA last rest ∧
      compactS_2 (.ref K 0 n 1) w (.ref K k0 (n - k0) 1) r h = some (.ret (.ref K 0 (w + (cmpA last rest).length) 1), h.set K (.fz (sF ys)))
  | [], xs, last, r, w, h, hx, hd, hr, hp, hlast, hw, hk => by
    have hdone := done_of_drop hd
    have hkl := get_lt hk
    refine ⟨splice xs w (List.replicate (n - w) ⟨#[]⟩), by rw [splice_len, hx], by simp [cmpA]; omega, ?_, ?_⟩
    · simp only [cmpA, List.length_nil, Nat.add_zero, List.append_nil]
      apply List.ext_getElem?
      intro i
      rw [List.getElem?_take, List.getElem?_take]
      split
      · rw [splice_get _ _ _ (by simp; omega), if_neg (by omega)]
      · rfl
    · rw [compactS_2_eq]
      simp only [lnV_ref]
      rw [if_neg (by simp; omega), slice_lo (by omega), clear25, if_neg (by omega)]
      have : wrK h K w (repl [S ⟨#[]⟩] (n - w)) = fun kk => kk (h.set K (.fz (sF (splice xs w (List.replicate (n - w) ⟨#[]⟩))))) := by
        funext kk
        unfold wrK
        rw [hk]
        simp only
        rw [if_pos (by rw [repl_length]; simp; omega)]
        unfold wrF
        rw [repl_sF]
        simp only [sF]
        rw [splice_mapF]
      rw [this]
      dsimp only
      rw [slice_hi (by omega)]
      rfl
  | x :: rest, xs, last, r, w, h, hx, hd, hr, hp, hlast, hw, hk => by
    have hlt := lt_of_drop hd
    have hget := at_drop hd
    have hkl := get_lt hk
    have hl2 : xs[k0 + (r - 1)]? = some last := by rw [show k0 + (r - 1) = k0 + r - 1 by omega]; exact hlast
    have step : compactS_2 (.ref K 0 n 1) w (.ref K k0 (n - k0) 1) r h = if (!(x.toList == last.toList)) = true then compactS_2 (.ref K 0 n 1) ((w + 1 : Nat) : Int) (.ref K k0 (n - k0) 1) ((r + 1 : Nat) : Int) (h.set K (.fz (sF (xs.set w x)))) else compactS_2 (.ref K 0 n 1) w (.ref K k0 (n - k0) 1) ((r + 1 : Nat) : Int) h := by
      rw [compactS_2_eq]
      simp only [lnV_ref]
      rw [if_pos (by simp; omega), idx_ref u25 s9 (by omega) (by omega)]
      simp only [Int.toNat_natCast, Nat.mul_one]
      rw [gS_z hk (sF_at hget)]
      have e1 : IntKind.wrap .i64 ((r : Int) - 1) = ((r - 1 : Nat) : Int) := by rw [wrap_i64 (by omega) (by omega)]; omega
      rw [e1]
      simp only [onFoot_eq]
      rw [idx_ref u25 s9 (by omega) (by omega)]
      simp only [Int.toNat_natCast, Nat.mul_one, onFoot_eq]
      rw [gS_z (s := last) hk (sF_at hl2)]
      refine ite_go (by rw [ldF9, ldF9]; simp [nocl, Foot.clash]) ?_
      have e2 : IntKind.wrap .i64 ((r : Int) + 1) = ((r + 1 : Nat) : Int) := by rw [wrap_i64 (by omega) (by omega)]; omega
      have e3 : IntKind.wrap .i64 ((w : Int) + 1) = ((w + 1 : Nat) : Int) := by rw [wrap_i64 (by omega) (by omega)]; omega
      rw [e2, e3]
      split
      · rw [idx_ref u25 s9 (by omega) (by omega)]
        simp only [Int.toNat_natCast, Nat.mul_one]
        rw [gS_z hk (sF_at hget), idx_ref u25 s9 (by omega) (by omega)]
        simp only [Int.toNat_natCast, Nat.mul_one, Nat.zero_add]
        rw [stC_z hk rfl (by simp; omega), sF_setB]
      · rfl
    rw [step]
    by_cases he : x = last
    · subst he
      rw [if_neg (by simp)]
      obtain ⟨ys, y1, y2, y3, y4⟩ := compact2 (k0 := k0) hn rest xs x (r + 1) w h hx (by rw [← Nat.add_assoc]; exact drop_next hd) (by omega) (by omega) (by rw [show k0 + (r + 1) - 1 = k0 + r by omega]; exact hget) (by omega) hk
      simp only [cmpA, if_true]
      exact ⟨ys, y1, y2, y3, y4⟩
    · rw [if_pos (by rw [ba_eq_iff]; simp [he])]
      have hwl : w < xs.length := by omega
      obtain ⟨ys, y1, y2, y3, y4⟩ := compact2 (k0 := k0) hn rest (xs.set w x) x (r + 1) (w + 1) (h.set K (.fz (sF (xs.set w x)))) (by simpa using hx)
        (by rw [List.drop_set, if_pos (by omega), ← Nat.add_assoc]; exact drop_next hd) (by omega) (by omega)
        (by rw [show k0 + (r + 1) - 1 = k0 + r by omega, List.getElem?_set_ne (by omega)]; exact hget) (by omega) (get_set' _ _ hkl)
      have e1 : cmpA last (x :: rest) = x :: cmpA x rest := by simp [cmpA, he]
      rw [e1]
      rw [take_set hwl, List.append_assoc] at y3
      rw [List.set_set] at y4
      rw [List.length_cons, show w + ((cmpA x rest).length + 1) = w + 1 + (cmpA x rest).length by omega]
      exact ⟨ys, y1, y2, y3, y4⟩
theorem compact1 {n K : Nat} (hn : n ≤ 10000000) (xs : List ByteArray) (hx : xs.length = n) (h : H) (hk : h[K]? = some (.fz (sF xs))) : ∀ (rest : List ByteArray) (last : ByteArray) (k : Nat), xs.drop k = rest → 1 ≤ k → k ≤ n → xs[k - 1]? = some last → xs.take k ++ cmpA last rest = compL xs →
    ∃ ys : List ByteArray, ys.length = n ∧ (compL xs).length ≤ n ∧ ys.take (compL xs).length = compL xs ∧ compactS_1 (.ref K 0 n 1) k h = some (.ret (.ref K 0 (compL xs).length 1), h.set K (.fz (sF ys)))
  | [], last, k, hd, h1, hkn, hlast, hc => by
    have hdone := done_of_drop hd
    have hxs : compL xs = xs := by
      have h5 := hc
      rw [List.take_of_length_le hdone] at h5
      simp only [cmpA, List.append_nil] at h5
      exact h5.symm
    refine ⟨xs, hx, by rw [hxs]; omega, by rw [hxs, List.take_length], ?_⟩
    rw [compactS_1_eq]
    simp only [lnV_ref]
    rw [if_neg (by simp; omega), hxs, hx, set_self hk]
  | x :: rest, last, k, hd, h1, hkn, hlast, hc => by
    have hlt := lt_of_drop hd
    have hget := at_drop hd
    have step : compactS_1 (.ref K 0 n 1) k h = if (x.toList == last.toList) = true then compactS_2 (.ref K 0 n 1) k (.ref K k (n - k) 1) ((1 : Nat) : Int) h else compactS_1 (.ref K 0 n 1) ((k + 1 : Nat) : Int) h := by
      rw [compactS_1_eq]
      simp only [lnV_ref]
      rw [if_pos (by simp; omega), idx_ref u25 s9 (by omega) (by omega)]
      simp only [Int.toNat_natCast, Nat.mul_one, Nat.zero_add]
      rw [gS_z hk (sF_at hget)]
      have e1 : IntKind.wrap .i64 ((k : Int) - 1) = ((k - 1 : Nat) : Int) := by rw [wrap_i64 (by omega) (by omega)]; omega
      rw [e1]
      simp only [onFoot_eq]
      rw [idx_ref u25 s9 (by omega) (by omega)]
      simp only [Int.toNat_natCast, Nat.mul_one, onFoot_eq, Nat.zero_add]
      rw [gS_z hk (sF_at hlast)]
      refine ite_go (by rw [ldF9, ldF9]; simp [nocl, Foot.clash]) ?_
      have e2 : IntKind.wrap .i64 ((k : Int) + 1) = ((k + 1 : Nat) : Int) := by rw [wrap_i64 (by omega) (by omega)]; omega
      rw [e2]
      split
      · rw [slice_lo (by omega)]; rfl
      · rfl
    rw [step]
    by_cases he : x = last
    · subst he
      rw [if_pos (by simp)]
      obtain ⟨ys, y1, y2, y3, y4⟩ := compact2 (k0 := k) hn rest xs x 1 k h hx (drop_next hd) (Nat.le_refl _) (by omega) (by rw [Nat.add_sub_cancel]; exact hget) (Nat.le_refl _) hk
      have hc' : xs.take k ++ cmpA x rest = compL xs := by rw [← hc]; simp [cmpA]
      have hlen : k + (cmpA x rest).length = (compL xs).length := by rw [← hc']; simp; omega
      rw [hlen] at y2 y3 y4
      rw [hc'] at y3
      exact ⟨ys, y1, y2, y3, y4⟩
    · rw [if_neg (by rw [ba_eq_iff]; simp [he])]
      refine compact1 hn xs hx h hk rest x (k + 1) (drop_next hd) (by omega) (by omega) (by rw [Nat.add_sub_cancel]; exact hget) ?_
      rw [take_next hd, ← hc]
      simp [cmpA, he]
theorem compact_spec {n K : Nat} (hn : n ≤ 10000000) (xs : List ByteArray) (hx : xs.length = n) (h : H) (hk : h[K]? = some (.fz (sF xs))) :
    ∃ ys : List ByteArray, ys.length = n ∧ (compL xs).length ≤ n ∧ ys.take (compL xs).length = compL xs ∧ run w0 24 [.ref K 0 n 1] h = some (.ret (.ref K 0 (compL xs).length 1), h.set K (.fz (sF ys))) := by
  rw [compactS_eq]
  simp only [lnV_ref]
  have small : compL xs = xs → n < 2 → ∃ ys : List ByteArray, ys.length = n ∧ (compL xs).length ≤ n ∧ ys.take (compL xs).length = compL xs ∧ (if decide ((n : Int) < 2) = true then some (Out.ret (V.ref K 0 n 1), h) else compactS_1 (.ref K 0 n 1) 1 h) = some (.ret (.ref K 0 (compL xs).length 1), h.set K (.fz (sF ys))) := by
    intro e h2
    refine ⟨xs, hx, by rw [e]; omega, by rw [e, List.take_length], ?_⟩
    rw [if_pos (by simp; omega), e, hx, set_self hk]
  match xs, hx with
  | [], hx => exact small rfl (by simp at hx; omega)
  | [x], hx => exact small rfl (by simp at hx; omega)
  | x :: y :: r, hx =>
    simp at hx
    rw [if_neg (by simp; omega)]
    exact compact1 hn (x :: y :: r) (by simpa using hx) h hk (y :: r) x 1 rfl (Nat.le_refl _) (by omega) rfl (by simp [compL])
end Go.Proofs.Ytjefolfbdohkcaa
/-
  canon.Of: the strings that are used are gathered; then sorted, each once; then every name is numbered anew.
-/
namespace Go.Proofs.Ytjefolfbdohkcaa
open Go Go.Abs
def Acc (h : H) (B kl : Nat) (acc : List ByteArray) : Prop :=
  (acc = [] ∧ h[kl]? = some (.cells [nilS])) ∨ ∃ kA, B ≤ kA ∧ acc ≠ [] ∧ h[kl]? = some (.cells [.ref kA 0 acc.length 1]) ∧ h[kA]? = some (.fz (sF acc))
def strM (S0 : List ByteArray) (x : Int) : ByteArray := S0.getD x.toNat default
theorem ag25 : agg? Try.prog 25 = some false := by kernel_rfl
theorem sF_take (l : List ByteArray) : (List.drop 0 (sF l)).take l.length = sF l := by rw [List.drop_zero, List.take_of_length_le (by simp)]
theorem nocl_str (kl kS i : Nat) : (nocl [.ldc kl 0 1] (ldFoot Try.prog 9 (.ptr kS i)) || false) = true := by rw [ldF9]; simp [nocl, Foot.clash]
section
variable {km k7 k9 kl K n B : Nat} {u : List Int} {m : Abs.Mod} (hu : u.length ≤ 10000000) (hok : ∀ x ∈ u, ∃ i : Nat, x = i ∧ i < m.strings.length)
include hu hok
theorem str_loop (b1 : kl < B) (b2 : K < B) (b3 : km < B) (b4 : n + 2 < B) (c2 : K ≠ kl) (c3 : km ≠ kl) (c4 : n + 2 ≠ kl) : ∀ (rest : List Int) (i : Nat) (acc : List ByteArray) (h : H), u.drop i = rest → i ≤ u.length → acc.length = i → B ≤ h.length →
    h[K]? = some (.fz (kF .i64 u)) → h[km]? = some (.cells (refsC n m)) → h[n + 2]? = some (.fz (sF m.strings)) → Acc h B kl acc →
    ∃ h', canonOf_1 km 0 k7 0 k9 0 kl 0 (.ref K 0 u.length 1) u.length i h = canonOf_1 km 0 k7 0 k9 0 kl 0 (.ref K 0 u.length 1) u.length u.length h' ∧ h.length ≤ h'.length ∧ (∀ k, k < B → k ≠ kl → h'[k]? = h[k]?) ∧ Acc h' B kl (acc ++ rest.map (strM m.strings))
  | [], i, acc, h, hd, hi, ha, hB, hK, hm, hS, hA => by
    have : i = u.length := by have := done_of_drop hd; omega
    subst this
    exact ⟨h, rfl, Nat.le_refl _, fun _ _ _ => rfl, by simpa using hA⟩
  | x :: rest, i, acc, h, hd, hi, ha, hB, hK, hm, hS, hA => by
    have hlt := lt_of_drop hd
    obtain ⟨j, rfl, hj⟩ := hok x (List.mem_of_mem_drop (by rw [hd]; simp))
    have hs : m.strings[j]? = some (strM m.strings j) := by simp [strM, hj]
    have hx : (kF .i64 u)[i]? = some (.s (.int .i64 (j : Int))) := by simp [kF, at_drop hd]
    -- a step
    have fin : ∀ h2 : H, h.length ≤ h2.length → (∀ k, k < B → k ≠ kl → h2[k]? = h[k]?) → Acc h2 B kl (acc ++ [strM m.strings j]) →
        canonOf_1 km 0 k7 0 k9 0 kl 0 (.ref K 0 u.length 1) u.length i h = canonOf_1 km 0 k7 0 k9 0 kl 0 (.ref K 0 u.length 1) u.length ((i + 1 : Nat) : Int) h2 →
        ∃ h', canonOf_1 km 0 k7 0 k9 0 kl 0 (.ref K 0 u.length 1) u.length i h = canonOf_1 km 0 k7 0 k9 0 kl 0 (.ref K 0 u.length 1) u.length u.length h' ∧ h.length ≤ h'.length ∧ (∀ k, k < B → k ≠ kl → h'[k]? = h[k]?) ∧ Acc h' B kl (acc ++ ((j : Int) :: rest).map (strM m.strings)) := by
      intro h2 q1 q2 q3 q4
      obtain ⟨h', p1, p2, p3, p4⟩ := str_loop b1 b2 b3 b4 c2 c3 c4 rest (i + 1) (acc ++ [strM m.strings j]) h2 (drop_next hd) (by omega) (by simp [ha]) (by omega) (by rw [q2 K b2 c2]; exact hK) (by rw [q2 km b3 c3]; exact hm) (by rw [q2 _ b4 c4]; exact hS) q3
      exact ⟨h', q4.trans p1, by omega, fun k r1 r2 => (p3 k r1 r2).trans (q2 k r1 r2), by rw [List.append_assoc] at p4; exact p4⟩
    have e1 : IntKind.wrap .i64 ((i : Int) + 1) = ((i + 1 : Nat) : Int) := by rw [wrap_i64 (by omega) (by omega)]; omega
    rcases hA with ⟨rfl, hA⟩ | ⟨kA, hkA, hne, hA, hAr⟩
    · have hkl := get_lt hA
      refine fin ((h ++ [Ob.fz [.s (.string (strM m.strings j))]]).set kl (Ob.cells [.ref h.length 0 1 1])) (by simp) (fun k r1 r2 => ?_) (.inr ⟨h.length, hB, by simp, ?_, ?_⟩) ?_
      · rw [List.getElem?_set_ne (Ne.symm r2), List.getElem?_append_left (by omega)]
      · rw [List.getElem?_set_self (by simp; omega)]; rfl
      · rw [List.getElem?_set_ne (by omega), get_new]; rfl
      · rw [canonOf_1_eq, if_pos (by simp; omega), idx_ref u27 s3 (by omega) (by omega)]
        simp only [Int.toNat_natCast, Nat.zero_add, Nat.mul_one]
        rw [gI_z hK hx, gLn_nil ag25 hA rfl, gL_c hm rfl]
        simp only [coeSl_ref]
        rw [idx_ref u25 s9 (by omega) (by omega)]
        simp only [Int.toNat_natCast, Nat.zero_add, Nat.mul_one]
        rw [gS_z hS (sF_at hs)]
        simp only [onFoot_eq]
        refine ite_go (nocl_str _ _ _) ?_
        rw [append_n1 el25 u25 rfl (by omega), stV_ref (get_app hA _) rfl (by simp), e1]
        rfl
    · have hkl := get_lt hA
      have hkA' := get_lt hAr
      refine fin ((h.set kA Ob.dead ++ [Ob.fz (sF acc ++ [.s (.string (strM m.strings j))])]).set kl (Ob.cells [.ref h.length 0 (acc.length + 1) 1])) (by simp) (fun k r1 r2 => ?_) (.inr ⟨h.length, hB, by simp, ?_, ?_⟩) ?_
      · rw [List.getElem?_set_ne (Ne.symm r2), List.getElem?_append_left (by simp; omega), List.getElem?_set_ne (by omega)]
      · rw [List.getElem?_set_self (by simp; omega)]; simp
      · rw [List.getElem?_set_ne (by omega), List.getElem?_append_right (by simp)]
        simp [sF]
      · rw [canonOf_1_eq, if_pos (by simp; omega), idx_ref u27 s3 (by omega) (by omega)]
        simp only [Int.toNat_natCast, Nat.zero_add, Nat.mul_one]
        rw [gI_z hK hx, gLn_ref hA rfl, gL_c hm rfl]
        simp only [coeSl_ref]
        rw [idx_ref u25 s9 (by omega) (by omega)]
        simp only [Int.toNat_natCast, Nat.zero_add, Nat.mul_one]
        rw [gS_z hS (sF_at hs)]
        simp only [onFoot_eq]
        refine ite_go (nocl_str _ _ _) ?_
        rw [append_l1 el25 u25 rfl hAr (by simp) (by omega), sF_take]
        rw [stV_ref (o := .cells [.ref kA 0 acc.length 1]) (by rw [List.getElem?_append_left (by simp; omega), List.getElem?_set_ne (by omega)]; exact hA) rfl (by simp), e1]
        rfl
end
/-! ### sorting -/
def srtB (l : List ByteArray) : List ByteArray := (sortL (l.map fun b => b.data.toList)).map fun b => ⟨b.toArray⟩
theorem sLF_sF (l : List (List UInt8)) : sLF l = sF (l.map fun b => ⟨b.toArray⟩) := by simp [sLF, sF]
theorem sF_sLF (l : List ByteArray) : sF l = sLF (l.map fun b => b.data.toList) := by simp [sLF, sF]
theorem srtB_len (l : List ByteArray) : (srtB l).length = l.length := by simp [srtB, sortL, List.length_mergeSort]
theorem splice_all {α : Type} {cs l : List α} (h : l.length = cs.length) : splice cs 0 l = l := by
  apply List.ext_getElem?
  intro i
  rw [splice_get _ _ _ (by omega)]
  split
  · rfl
  · rw [List.getElem?_eq_none (by omega), List.getElem?_eq_none (by omega)]
theorem sort_nil (h : H) : run w0 23 [nilS] h = some (.ret (.tup []), h) := by
  rw [run_eq]
  kernel_rfl
theorem sort_ref {h : H} {k : Nat} {l : List ByteArray} (hk : h[k]? = some (.fz (sF l))) (h0 : l ≠ []) (hb : l.length < 1000000000) : run w0 23 [.ref k 0 l.length 1] h = some (.ret (.tup []), h.set k (.fz (sF (srtB l)))) := by
  rw [run_eq]
  have : runF w0.P w0.an w0.po w0.ext (run w0) (runLoop w0) 23 [.ref k 0 l.length 1] h = sortE [.ref k 0 l.length 1] h := by kernel_rfl
  rw [this]
  have hne : l.length ≠ 0 := fun e => h0 (List.length_eq_zero_iff.1 e)
  simp only [sortE]
  rw [if_pos (by omega), if_neg hne]
  simp only [hk]
  rw [if_pos (by simp), sF_take, sF_sLF, strsF_sLF]
  simp only [Option.bind_some]
  rw [sLF_sF (sortL _), splice_all (by simp [sLF, sF, sortL, List.length_mergeSort])]
  rfl
end Go.Proofs.Ytjefolfbdohkcaa
