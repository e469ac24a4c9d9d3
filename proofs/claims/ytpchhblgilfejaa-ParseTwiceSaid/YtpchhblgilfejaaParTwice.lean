/-
  Texts that break rules: the law. (Its equation is printed by a program of mine.)
-/
import Derived.Test.YtpchhblgilfejaaAbsFoldL
import Derived.Test.YtpchhblgilfejaaParTw0
import Derived.Test.YtpchhblgilfejaaParTw1
import Derived.Test.YtpchhblgilfejaaParTw2
import Derived.Test.YtpchhblgilfejaaParTw3
import Derived.Test.YtpchhblgilfejaaParAwake
import Derived.Test.YtpchhblgilfejaaParExt
set_option autoImplicit false
set_option linter.unusedVariables false
set_option maxRecDepth 100000
namespace Go.Proofs.Ytpchhblgilfejaa
open Go Go.Abs
noncomputable def ParseTwice_0 (n1 : Int) : R := pureOf w0 6 Try.f6 [N .u8 n1]
theorem ParseTwice_run (n1 : Int) (h0 : H) : run w0 6 [N .u8 n1] h0 = frzArgsK h0 [N .u8 n1] fun args_ => withH ([N .u8 n1].all ripe) h0 (pureOf w0 6 Try.f6 args_) := (run_eq w0 ..).trans (by kernel_rfl)
theorem ParseTwice_eq (n1 : Int) : ParseTwice_0 n1 = xB (run w0 7 [] ([])) no2 fun b2 => if (!b2) = true then some (.ret (B false), []) else newO (.fz [F.s (.string (⟨#[103, 108, 111, 98, 97, 108, 32, 36, 97, 59, 32, 103, 108, 111, 98, 97, 108, 32, 36, 97, 59]⟩ : ByteArray)), F.s (.string (⟨#[102, 117, 110, 99, 32, 64, 102, 40, 41, 32, 123, 32, 125, 32, 102, 117, 110, 99, 32, 64, 102, 40, 41, 32, 123, 32, 125]⟩ : ByteArray)), F.s (.string (⟨#[102, 117, 110, 99, 32, 64, 102, 40, 37, 97, 44, 32, 37, 97, 41, 32, 123, 32, 125]⟩ : ByteArray)), F.s (.string (⟨#[102, 117, 110, 99, 32, 64, 102, 40, 41, 32, 123, 32, 115, 105, 116, 101, 32, 35, 104, 59, 32, 115, 105, 116, 101, 32, 35, 104, 59, 32, 125]⟩ : ByteArray)), F.s (.string (⟨#[102, 117, 110, 99, 32, 64, 102, 40, 41, 32, 123, 32, 125, 32, 101, 110, 116, 114, 121, 32, 64, 102, 59, 32, 101, 110, 116, 114, 121, 32, 64, 102, 59]⟩ : ByteArray)), F.s (.string (⟨#[102, 117, 110, 99, 32, 64, 102, 40, 41, 32, 123, 32, 114, 101, 116, 117, 114, 110, 32, 37, 97, 59, 32, 125]⟩ : ByteArray)), F.s (.string (⟨#[102, 117, 110, 99, 32, 64, 102, 40, 41, 32, 123, 32, 114, 101, 116, 117, 114, 110, 32, 36, 97, 59, 32, 125]⟩ : ByteArray)), F.s (.string (⟨#[102, 117, 110, 99, 32, 64, 102, 40, 41, 32, 123, 32, 64, 103, 40, 41, 59, 32, 125]⟩ : ByteArray)), F.s (.string (⟨#[101, 110, 116, 114, 121, 32, 64, 102, 59]⟩ : ByteArray)), F.s (.string (⟨#[102, 117, 110, 99, 32, 64, 102, 40, 37, 97, 41, 32, 123, 32, 64, 102, 40, 41, 59, 32, 125]⟩ : ByteArray)), F.s (.string (⟨#[102, 117, 110, 99, 32, 64, 102, 40, 41, 32, 123, 32, 118, 97, 114, 32, 37, 120, 59, 32, 37, 120, 32, 61, 32, 38, 35, 120, 59, 32, 125]⟩ : ByteArray))]) ([]) fun k3 h4 => idx Try.prog 23 (.ref k3 0 11 1) (Int.tmod (IntKind.wrap .i64 (n1)) 11) fun v5 => gS (v5) h4 fun s6 => newO (.fz (byteF s6)) h4 fun k7 h8 => kV (run w0 8 [.ref k7 0 s6.size 1] h8) no2 fun v10 h9 => tpV (v10) 0 fun v11 => tpV (v10) 1 fun v12 => newO (.cells [nilS, nilS, nilS, nilS]) h9 fun k13 h14 => newO (.cells [N .i64 0, N .i64 0, N .i64 0, N .i64 0, N .i64 0, N .i64 0, N .i64 0]) h14 fun k15 h16 => stV (.ptr k13 0) v11 4 h16 fun h17 => stV (.ptr k15 0) v12 7 h17 fun h18 => newO (.fz [F.s (.int .i64 3), F.s (.int .i64 3), F.s (.int .i64 3), F.s (.int .i64 3), F.s (.int .i64 3), F.s (.int .i64 8), F.s (.int .i64 8), F.s (.int .i64 8), F.s (.int .i64 5), F.s (.int .i64 9), F.s (.int .i64 8)]) h18 fun k19 h20 => idx Try.prog 24 (.ref k19 0 11 1) (Int.tmod (IntKind.wrap .i64 (n1)) 11) fun v21 => gI .i64 (v21) h20 fun n22 => gI .i64 (.ptr k15 0) h20 fun n23 => if (n23 == 8) = true then gI .i64 (.ptr k15 4) h20 fun n24 => some (.ret (B (n24 == n22)), []) else some (.ret (B false), []) := by kernel_rfl
theorem got (h' : H) (a1 a2 a3 a4 b1 b2 b3 b4 b5 b6 b7 : V) (K : Nat → Nat → H → R) :
    (newO (.cells [nilS, nilS, nilS, nilS]) h' fun k5 h6 => newO (.cells [N .i64 0, N .i64 0, N .i64 0, N .i64 0, N .i64 0, N .i64 0, N .i64 0]) h6 fun k7 h8 => stV (.ptr k5 0) (.agg [a1, a2, a3, a4]) 4 h8 fun h9 => stV (.ptr k7 0) (.agg [b1, b2, b3, b4, b5, b6, b7]) 7 h9 fun h10 => K k5 k7 h10) = K h'.length (h'.length + 1) (h' ++ [.cells [a1, a2, a3, a4], .cells [b1, b2, b3, b4, b5, b6, b7]]) := by
  simp only [newO_eq, List.append_assoc, List.cons_append, List.nil_append, List.length_append, List.length_cons, List.length_nil, Nat.zero_add]
  have g0 : ∀ (t : H) (j : Nat) (a : Ob), t[j]? = some a → (h' ++ t)[h'.length + j]? = some a := fun t j a e => by rw [get_tail]; exact e
  have g00 : ∀ (a : Ob) (t : H), (h' ++ a :: t)[h'.length]? = some a := fun a t => by simp
  rw [stV_c (n := 4) (off := 0) (l := [a1, a2, a3, a4]) rfl (g00 _ _) rfl (by simp)]
  have s0 := set_tail h' [Ob.cells [nilS, nilS, nilS, nilS], .cells [N .i64 0, N .i64 0, N .i64 0, N .i64 0, N .i64 0, N .i64 0, N .i64 0]] 0 (.cells [a1, a2, a3, a4])
  rw [Nat.add_zero] at s0
  rw [show splice [nilS, nilS, nilS, nilS] 0 [a1, a2, a3, a4] = [a1, a2, a3, a4] from rfl, s0]
  rw [stV_c (n := 7) (off := 0) (l := [b1, b2, b3, b4, b5, b6, b7]) rfl (g0 _ 1 _ rfl) rfl (by simp), set_tail]
  rfl
theorem u23 : Try.prog.underlying 23 = some (.slice 9) := by kernel_rfl
theorem u24 : Try.prog.underlying 24 = some (.slice 3) := by kernel_rfl
theorem s9 : szOf Try.prog 9 = some 1 := by kernel_rfl
theorem s3 : szOf Try.prog 3 = some 1 := by kernel_rfl
def wantL : List Int := [3, 3, 3, 3, 3, 8, 8, 8, 5, 9, 8]
theorem law_k (k : Nat) (s : ByteArray) (q n : Int) (hk : k < 11) (hn : Int.tmod (IntKind.wrap .i64 n) 11 = (k : Int)) (hs : twL[k]? = some s) (hq : wantL[k]? = some q)
    (hr : errOf ((lvl w0 900).1 8 [.ref 1 0 s.size 1] [.fz (sF twL), .fz (byteF s)]) = some (8, q)) : ParseTwice_0 n = some (.ret (B true), []) := by
  obtain ⟨a, b, c, d, x, y, z, u, v, g, e⟩ := errOf_spec hr
  have hrun := run_of e
  rw [ParseTwice_eq, run_of aw, xB_some, if_neg (by simp), newO_eq, hn]
  rw [idx_ref u23 s9 (by omega) (by omega)]
  rw [gS_z (zs := sF twL) (s := s) rfl (by simp [sF, hs])]
  rw [newO_eq]
  change kV (run w0 8 [.ref 1 0 s.size 1] [.fz (sF twL), .fz (byteF s)]) no2 _ = _
  rw [hrun, kV_some]
  simp only [tpV_tup, List.getElem?_cons_zero, List.getElem?_cons_succ, Option.bind_some]
  rw [got, newO_eq]
  rw [idx_ref u24 s3 (by omega) (by omega)]
  rw [gI_z (i := q) (get_new _ _) (by show (kF .i64 wantL)[0 + ((k : Nat) : Int).toNat * 1]? = _; simp [kF, hq])]
  have h1 : (g ++ [Ob.cells [a, b, c, d], .cells [N .i64 8, x, y, z, N .i64 q, u, v]])[g.length + 1]? = some (.cells [N .i64 8, x, y, z, N .i64 q, u, v]) := by rw [get_tail]; rfl
  rw [gI_c (i := 8) (get_app h1 _) rfl, if_pos (by rfl), gI_c (i := q) (get_app h1 _) rfl]
  simp
theorem ParseTwice_law (n : Nat) (hn : n < 256) : ParseTwice_0 n = some (.ret (B true), []) := by
  have hm : Int.tmod (IntKind.wrap .i64 (n : Int)) 11 = ((n % 11 : Nat) : Int) := by
    rw [wrap_i64 (by omega) (by omega), Int.tmod_eq_emod_of_nonneg (by omega)]; omega
  have hk : n % 11 < 11 := Nat.mod_lt _ (by omega)
  generalize n % 11 = k at hm hk
  have : k = 0 ∨ k = 1 ∨ k = 2 ∨ k = 3 ∨ k = 4 ∨ k = 5 ∨ k = 6 ∨ k = 7 ∨ k = 8 ∨ k = 9 ∨ k = 10 := by omega
  rcases this with rfl | rfl | rfl | rfl | rfl | rfl | rfl | rfl | rfl | rfl | rfl
  · exact law_k 0 _ _ _ hk hm rfl rfl tw_0
  · exact law_k 1 _ _ _ hk hm rfl rfl tw_1
  · exact law_k 2 _ _ _ hk hm rfl rfl tw_2
  · exact law_k 3 _ _ _ hk hm rfl rfl tw_3
  · exact law_k 4 _ _ _ hk hm rfl rfl tw_4
  · exact law_k 5 _ _ _ hk hm rfl rfl tw_5
  · exact law_k 6 _ _ _ hk hm rfl rfl tw_6
  · exact law_k 7 _ _ _ hk hm rfl rfl tw_7
  · exact law_k 8 _ _ _ hk hm rfl rfl tw_8
  · exact law_k 9 _ _ _ hk hm rfl rfl tw_9
  · exact law_k 10 _ _ _ hk hm rfl rfl tw_10
set_option maxRecDepth 100000 in
theorem ParseTwice_all (l : List (List F)) (h : Args Try.prog Try.f6.params.toList l) : ∃ h', run w0 6 (argVs Try.prog Try.f6.params.toList l) [] = some (.ret (B true), h') := by
  obtain ⟨x1, l1, rfl, h1, h⟩ := h.cons_inv
  obtain rfl := h.nil_inv
  obtain ⟨t, rfl, wt⟩ := h1.of_int (k := .u8) (by kernel_rfl)
  obtain ⟨n, rfl, ht⟩ := wf_u8 wt
  have h : run w0 6 [N .u8 n] [] = some (.ret (B true), []) := by
    rw [ParseTwice_run]
    show withH true [] (ParseTwice_0 n) = _
    rw [ParseTwice_law n ht, withH_true]
  exact ⟨[], h⟩
end Go.Proofs.Ytpchhblgilfejaa
