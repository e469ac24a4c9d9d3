/-
  canon.Table: strings that are gathered, each once.
-/
import Derived.Test.YtjefolfbdohkcaaCanOf
set_option autoImplicit false
set_option linter.unusedVariables false
set_option linter.unusedSimpArgs false
namespace Go.Proofs.Ytjefolfbdohkcaa
open Go Go.Abs
/-- a table's entries: the strings with their numbers -/
def ents : List ByteArray → Nat → List (Value × F)
  | [], _ => []
  | x :: r, i => (.string x, .s (.int .i64 i)) :: ents r (i + 1)
theorem inKey (s a : ByteArray) : sameKey (.string s) (.string a) = (s == a) := rfl
theorem ents_length : ∀ (xs : List ByteArray) (i : Nat), (ents xs i).length = xs.length
  | [], _ => rfl
  | x :: r, i => by simp [ents, ents_length r]
theorem mfind_ents (s : ByteArray) : ∀ (xs : List ByteArray) (i : Nat), mfind (.string s) (ents xs i) = if s ∈ xs then some (.s (.int .i64 ((i + xs.idxOf s : Nat) : Int))) else none
  | [], _ => rfl
  | x :: r, i => by
    rw [ents, mfind, inKey, mfind_ents s r (i + 1)]
    by_cases e : s = x
    · subst e; simp
    · have : (x == s) = false := by simp; exact fun q => e q.symm
      simp only [beq_iff_eq, e, if_false, List.mem_cons, false_or, List.idxOf_cons, this, cond_false]
      split
      · congr 4; omega
      · rfl
theorem mput_ents {s : ByteArray} (z : F) : ∀ (xs : List ByteArray) (i : Nat), s ∉ xs → mput (.string s) z (ents xs i) = ents xs i ++ [(.string s, z)]
  | [], _, _ => rfl
  | x :: r, i, h => by
    have h1 : s ≠ x := fun q => h (by simp [q])
    have h2 : s ∉ r := fun q => h (by simp [q])
    rw [ents, mput, inKey, mput_ents z r (i + 1) h2]
    simp [h1]
theorem mfindI_ents {s : ByteArray} : ∀ (xs : List ByteArray) (i j : Nat), s ∉ xs → mfindI (.string s) (ents xs i) j = none
  | [], _, _, _ => rfl
  | x :: r, i, j, h => by
    have h1 : s ≠ x := fun q => h (by simp [q])
    have h2 : s ∉ r := fun q => h (by simp [q])
    rw [ents, mfindI, inKey, mfindI_ents r (i + 1) (j + 1) h2]
    simp [h1]
theorem ents_app (s : ByteArray) : ∀ (xs : List ByteArray) (i : Nat), ents (xs ++ [s]) i = ents xs i ++ [(.string s, .s (.int .i64 ((i + xs.length : Nat) : Int)))]
  | [], _ => rfl
  | x :: r, i => by
    rw [List.cons_append, ents, ents_app s r (i + 1), ents, List.cons_append, List.length_cons]
    congr 6; omega
theorem modify_app {α : Type} (f : α → α) (x : α) : ∀ l : List α, (l ++ [x]).modify l.length f = l ++ [f x]
  | [] => rfl
  | a :: l => by simp [modify_app f x l]
theorem mapE {M : Nat} {es : List (Value × F)} {h : H} {s : ByteArray} (h1 : h[M]? = some (.map .str es)) (h2 : mfindI (.string s) es 0 = none) (K : V → H → R) :
    mapEntry Try.prog 53 (.mp M) (S s) h K = K (.tup [.f (.s (.int .i64 0)), N .i64 es.length]) (h.set M (.map .str (mput (.string s) (.s (.int .i64 0)) es))) := by
  have : mapEntry Try.prog 53 (.mp M) (S s) h K = (match h[M]? with
        | some (.map q' es) => if q' = .str then
            match mfindI (.string s) es 0 with
            | some (j, x) => K (.tup [.f x, N .i64 j]) (h.set M (.map q' es))
            | none => K (.tup [.f (.s (.int .i64 0)), N .i64 es.length]) (h.set M (.map q' (mput (.string s) (.s (.int .i64 0)) es)))
          else none
        | _ => none) := by kernel_rfl
  rw [this, h1]; simp only [h2]; rfl
theorem entS {M : Nat} {es : List (Value × F)} {h : H} {n m : Int} (h1 : h[M]? = some (.map .str es)) (h2 : 0 ≤ n ∧ n < es.length) (K : H → R) :
    entryStore (.mp M) (N .i64 n) (N .i64 m) h K = K (h.set M (.map .str (es.modify n.toNat fun a => (a.1, .s (.int .i64 m))))) := by
  have : entryStore (.mp M) (N .i64 n) (N .i64 m) h K = (match h[M]? with
    | some (.map q es) => if 0 ≤ n ∧ n < es.length then K (h.set M (.map q (es.modify n.toNat fun a => (a.1, .s (.int .i64 m))))) else none
    | _ => none) := by rfl
  rw [this, h1]; simp only; rw [if_pos h2]
theorem gV_mp {k off M : Nat} {cs : List V} {h : H} (h1 : h[k]? = some (.cells cs)) (h2 : cs[off]? = some (.mp M)) (K : V → R) : gV (.ptr k off) h K = K (.mp M) := by
  simp [gV, gz, load1, h1, h2, coe]
def nilM : V := vs (Value.map none)
theorem gV_nilM {k off : Nat} {cs : List V} {h : H} (h1 : h[k]? = some (.cells cs)) (h2 : cs[off]? = some nilM) (K : V → R) : gV (.ptr k off) h K = K nilM := by
  simp [gV, gz, load1, h1, h2, coe, nilM]
theorem lk_nil (q : KK) (z key : Value) (h : H) (K : V → Bool → R) : lkOk q z nilM key h K = K (vs z) false := rfl
theorem lk_mp {M : Nat} {q : KK} {es : List (Value × F)} {h : H} (h1 : h[M]? = some (.map q es)) (z key : Value) (K : V → Bool → R) : lkOk q z (.mp M) key h K = (match mfind key es with
      | some x => K (.f x) true
      | none => K (vs z) false) := by
  unfold lkOk; simp only [h1, if_true]; cases mfind key es <;> rfl
theorem cnd_B (b : Bool) (A B' : R) : cndV (B b) A B' = if b = true then A else B' := rfl
theorem nil_eq1 (K : V → R) : Abs.binOp Try.prog .eql 53 nilM (vs (Value.map none)) K = K (B true) := by kernel_rfl
theorem nil_eq2 (M : Nat) (K : V → R) : Abs.binOp Try.prog .eql 53 (.mp M) (vs (Value.map none)) K = K (B false) := by kernel_rfl
theorem nil_eq3 (k o : Nat) (K : V → R) : Abs.binOp Try.prog .eql 58 (.ptr k o) (vs (.pointer none)) K = K (B false) := by kernel_rfl
/-- a table at T that has gathered xs; W: an object that isn't its own -/
def Tab (h : H) (T W : Nat) (xs : List ByteArray) : Prop :=
  (xs = [] ∧ h[T]? = some (.cells [nilS, nilM])) ∨
  ∃ K M, K ≠ W ∧ h[T]? = some (.cells [.ref K 0 xs.length 1, .mp M]) ∧ h[K]? = some (.fz (sF xs)) ∧ h[M]? = some (.map .str (ents xs 0))
theorem ap_n (s : ByteArray) (h : H) (K : V → H → R) : append Try.prog 25 25 nilS (.lit 1 [S s]) h K = K (.ref h.length 0 1 1) (h ++ [.fz (sF [s])]) :=
  append_n1 el25 u25 rfl (by omega) K
theorem ap_1 {k : Nat} {xs : List ByteArray} (s : ByteArray) {h : H} (hk : h[k]? = some (.fz (sF xs))) (hb : xs.length ≤ 1000000) (K : V → H → R) :
    append Try.prog 25 25 (.ref k 0 xs.length 1) (.lit 1 [S s]) h K = K (.ref h.length 0 (xs.length + 1) 1) (h.set k .dead ++ [.fz (sF (xs ++ [s]))]) := by
  rw [append_l1 el25 u25 (x := .s (.string s)) rfl hk (by simp) (by omega)]
  simp [sF]
  rw [List.take_of_length_le (by simp)]
theorem tAdd_nil (T W : Nat) (h : H) (s : ByteArray) (h1 : h[T]? = some (.cells [nilS, nilM])) (hW : W < h.length) :
    ∃ h', run w0 16 [.ptr T 0, S s] h = some (.ret (N .i64 0), h') ∧ Tab h' T W [s] ∧ (∀ j < h.length, j ≠ T → h'[j]? = h[j]?) := by
  have hT := get_lt h1
  have e : run w0 16 [.ptr T 0, S s] h = some (.ret (N .i64 0), ((h ++ [Ob.map .str (ents [s] 0), Ob.fz (sF [s])]).set T (.cells [.ref (h.length + 1) 0 1 1, .mp h.length]))) := by
    have q1 : (h ++ [Ob.map .str []])[T]? = some (.cells [nilS, nilM]) := get_app h1 _
    have q2 : ((h ++ [Ob.map .str []]).set T (.cells [nilS, .mp h.length]))[T]? = some (.cells [nilS, .mp h.length]) := get_set' _ _ (by simp <;> omega)
    have q3 : ((h ++ [Ob.map .str []]).set T (.cells [nilS, .mp h.length]))[h.length]? = some (.map .str []) := by rw [get_set_ne' _ _ (by omega), get_new]
    rw [tAdd_eq, gV_nilM h1 rfl, lk_nil]
    simp only [V.int?, V.f?, F.int?, Option.bind_some, if_true, Bool.not_false]
    rw [gV_nilM h1 rfl, nil_eq1, cnd_B, if_pos rfl, newO_eq, stC_c q1 (by simp)]
    rw [show splice [nilS, nilM] (0 + 1) [.mp h.length] = [nilS, .mp h.length] from rfl]
    rw [gL_c q2 rfl, coeSl_nil, lnV_lst, gV_mp q2 rfl, gLn_nil ag25 q2 rfl, ap_n]
    simp only [onFoot_eq]
    refine ite_go (by simp [nocl, Foot.clash, objOf]; omega) ?_
    rw [mapE (get_app q3 _) rfl]
    simp only [tpV_tup, Option.bind_some, List.getElem?_cons_succ, List.getElem?_cons_zero, V.int?, V.f?, F.int?, if_true]
    rw [entS (get_set' _ _ (by simp; omega)) (by simp [mput]), stV_ref (get_set_ne' _ _ (by omega) |>.trans (get_set_ne' _ _ (by omega) |>.trans (get_app q2 _))) rfl (by simp)]
    simp [List.set_append, hT, mput, ents]
  refine ⟨_, e, .inr ⟨h.length + 1, h.length, by omega, ?_, ?_, ?_⟩, ?_⟩
  · rw [get_set' _ _ (by simp; omega)]; rfl
  · rw [get_set_ne' _ _ (by omega), List.getElem?_append_right (by omega)]; simp
  · rw [get_set_ne' _ _ (by omega), List.getElem?_append_right (by omega)]; simp
  · intro j hj hn
    rw [get_set_ne' _ _ (fun q => hn q.symm), List.getElem?_append_left hj]
theorem tAdd_old {T W K M : Nat} {xs : List ByteArray} {h : H} {s : ByteArray} (hk : K ≠ W) (h1 : h[T]? = some (.cells [.ref K 0 xs.length 1, .mp M])) (h2 : h[K]? = some (.fz (sF xs))) (h3 : h[M]? = some (.map .str (ents xs 0))) (hs : s ∈ xs) :
    run w0 16 [.ptr T 0, S s] h = some (.ret (N .i64 (xs.idxOf s : Nat)), h) := by
  rw [tAdd_eq, gV_mp h1 rfl]
  have e : mfind (.string s) (ents xs 0) = some (.s (.int .i64 (xs.idxOf s : Nat))) := by rw [mfind_ents, if_pos hs]; simp
  rw [lk_mp h3, e]
  simp only [V.int?, V.f?, F.int?, Option.bind_some, if_true, Bool.not_true]
  rfl
theorem tAdd_new {T W K M : Nat} {xs : List ByteArray} {h : H} {s : ByteArray} (hk : K ≠ W) (h1 : h[T]? = some (.cells [.ref K 0 xs.length 1, .mp M])) (h2 : h[K]? = some (.fz (sF xs))) (h3 : h[M]? = some (.map .str (ents xs 0))) (hs : s ∉ xs) (hb : xs.length ≤ 1000000) (hW : W < h.length) :
    ∃ h', run w0 16 [.ptr T 0, S s] h = some (.ret (N .i64 xs.length), h') ∧ Tab h' T W (xs ++ [s]) ∧ (∀ j < h.length, j ≠ T → j ≠ K → j ≠ M → h'[j]? = h[j]?) := by
  have hT := get_lt h1
  have hK := get_lt h2
  have hM := get_lt h3
  have n1 : K ≠ T := fun q => by subst q; rw [h1] at h2; cases h2
  have n2 : M ≠ T := fun q => by subst q; rw [h1] at h3; cases h3
  have n3 : K ≠ M := fun q => by subst q; rw [h2] at h3; cases h3
  have e : run w0 16 [.ptr T 0, S s] h = some (.ret (N .i64 xs.length), (((h.set K .dead ++ [Ob.fz (sF (xs ++ [s]))]).set M (.map .str (ents (xs ++ [s]) 0))).set T (.cells [.ref h.length 0 (xs.length + 1) 1, .mp M]))) := by
    have e : mfind (.string s) (ents xs 0) = none := by rw [mfind_ents, if_neg hs]
    rw [tAdd_eq, gV_mp h1 rfl, lk_mp h3, e]
    simp only [V.int?, V.f?, F.int?, Option.bind_some, if_true, Bool.not_false]
    rw [gV_mp h1 rfl, nil_eq2, cnd_B, if_neg (by simp)]
    rw [gL_c h1 rfl, coeSl_ref, lnV_ref, gV_mp h1 rfl, gLn_ref h1 rfl, ap_1 s h2 hb]
    simp only [onFoot_eq]
    refine ite_go (by simp [nocl, Foot.clash, objOf]; omega) ?_
    have q3 : (h.set K .dead ++ [Ob.fz (sF (xs ++ [s]))])[M]? = some (.map .str (ents xs 0)) := get_app (by rw [get_set_ne' _ _ n3, h3]) _
    have q2 : (h.set K .dead ++ [Ob.fz (sF (xs ++ [s]))])[T]? = some (.cells [.ref K 0 xs.length 1, .mp M]) := get_app (by rw [get_set_ne' _ _ n1, h1]) _
    rw [mapE q3 (mfindI_ents xs 0 0 hs)]
    simp only [tpV_tup, Option.bind_some, List.getElem?_cons_succ, List.getElem?_cons_zero, V.int?, V.f?, F.int?, if_true]
    rw [mput_ents _ _ _ hs, ents_length]
    rw [entS (get_set' _ _ (by simp; omega)) (by simp [ents_length]; omega), stV_ref (get_set_ne' _ _ n2 |>.trans (get_set_ne' _ _ n2 |>.trans q2)) rfl (by simp)]
    have := modify_app (fun a : Value × F => (a.1, F.s (.int .i64 xs.length))) (.string s, .s (.int .i64 0)) (ents xs 0)
    rw [ents_length] at this
    simp [this, ents_app]
  refine ⟨_, e, .inr ⟨h.length, M, by omega, ?_, ?_, ?_⟩, ?_⟩
  · rw [get_set' _ _ (by simp; omega)]; simp
  · rw [get_set_ne' _ _ (by omega), get_set_ne' _ _ (by omega), List.getElem?_append_right (by simp)]; simp
  · rw [get_set_ne' _ _ (by omega), get_set' _ _ (by simp; omega)]
  · intro j hj a b c
    rw [get_set_ne' _ _ (fun q => a q.symm), get_set_ne' _ _ (fun q => c q.symm), List.getElem?_append_left (by simpa using hj), get_set_ne' _ _ (fun q => b q.symm)]
theorem tAll_nil (h : H) : run w0 17 [vs (.pointer none)] h = some (.ret nilS, h) := (run_eq w0 ..).trans (by kernel_rfl)
theorem tAll_some {T K M W : Nat} {xs : List ByteArray} {h : H} (hk : K ≠ W) (h1 : h[T]? = some (.cells [.ref K 0 xs.length 1, .mp M])) (h2 : h[K]? = some (.fz (sF xs))) (hb : xs.length ≤ 1000000) :
    run w0 17 [.ptr T 0] h = some (.ret (.ref h.length 0 xs.length 1), h.set K .dead ++ [.fz (sF xs)]) := by
  rw [tAll_eq, nil_eq3, cnd_B, if_neg (by simp), gL_c h1 rfl, coeSl_ref]
  rw [call_give (xs := []) own_cloneS h2 (by simp) (of_decide_eq_true (by kernel_rfl)) rfl]
  have e := cloneS_any (n := xs.length) (c := sF xs) (h.set K .dead) (by simp) (by omega)
  rw [call_vals own_cloneS (of_decide_eq_true (by kernel_rfl)) rfl] at e
  have e0 : ((sF xs).drop 0).take (xs.length * 1) = sF xs := by rw [List.drop_zero, List.take_of_length_le (by simp)]
  rw [e0, e]
  obtain ⟨zp, zr, p1, p2⟩ := poS
  obtain ⟨z0, rfl⟩ := List.length_eq_one_iff.1 p2
  unfold ownK onCall
  simp only [tidy, p1]
  have hpin : pinOf [Sh.val] [V.ref K 0 xs.length 1] = none := rfl
  have hk : kill [K] 0 h = h.set K .dead := kill_one K 0 h (by omega) (fun cs hc => by rw [Nat.sub_zero, h2] at hc; cases hc)
  simp only [hpin, List.map_cons, List.map_nil, unpin, takesL, takes, givs, refsOf, List.append_nil, List.nil_append, hk]
  simp [reR, reS, asRef, asFz]
end Go.Proofs.Ytjefolfbdohkcaa
