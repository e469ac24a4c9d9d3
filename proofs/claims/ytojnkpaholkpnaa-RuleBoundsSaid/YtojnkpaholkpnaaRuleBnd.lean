/-
  RuleBounds.
-/
import Derived.Test.YtojnkpaholkpnaaRuleLaws
set_option autoImplicit false
set_option linter.unusedVariables false
set_option linter.unusedSimpArgs false
namespace Go.Proofs.Ytojnkpaholkpnaa
open Go Go.Abs

def bS (k : Nat) : ByteArray := ⟨[UInt8.ofNat (97 + k / 26), UInt8.ofNat (97 + k % 26)].toArray⟩
def bSS (n : Nat) : List ByteArray := (List.range n).map bS
def nat0 (n : Nat) : List Int := (List.range n).map fun (i : Nat) => (i : Int)
theorem bSS_len (n : Nat) : (bSS n).length = n := by simp [bSS]
theorem nat0_len (n : Nat) : (nat0 n).length = n := by simp [nat0]
theorem nat0_succ (n : Nat) : kF .i64 (nat0 n) ++ [F.s (.int .i64 (n : Int))] = kF .i64 (nat0 (n + 1)) := by simp [nat0, kF, List.range_succ]
theorem str_loop (how n : Int) (b : Bool) : ∀ (k i : Nat), i + k = 60 → RuleBounds_1 how b n i i (sF (bSS i)) = RuleBounds_1 how b n 60 60 (sF (bSS 60))
  | 0, i, h => by
    have : i = 60 := by omega
    subst this; rfl
  | k + 1, i, h => by
    have h1 : Int.tdiv (i : Int) 26 = ((i / 26 : Nat) : Int) := rfl
    have h2 : Int.tmod (i : Int) 26 = ((i % 26 : Nat) : Int) := rfl
    have e1 : IntKind.wrap .u8 (97 + (IntKind.wrap .u8 (IntKind.wrap .i64 ((i / 26 : Nat) : Int)))) = ((97 + i / 26 : Nat) : Int) := by
      rw [wrap_i64 (by omega) (by omega), wrap_u8_in (n := ((i / 26 : Nat) : Int)) (by omega) (by omega), wrap_u8_in (by omega) (by omega)]; omega
    have e2 : IntKind.wrap .u8 (97 + (IntKind.wrap .u8 ((i % 26 : Nat) : Int))) = ((97 + i % 26 : Nat) : Int) := by
      rw [wrap_u8_in (n := ((i % 26 : Nat) : Int)) (by omega) (by omega), wrap_u8_in (by omega) (by omega)]; omega
    have hs : sF (bSS i) ++ [F.s (.string (⟨[UInt8.ofNat (97 + i / 26), UInt8.ofNat (97 + i % 26)].toArray⟩ : ByteArray))] = sF (bSS (i + 1)) := by simp [bSS, bS, sF, List.range_succ]
    rw [RuleBounds_1_eq, if_pos (by simp; omega), if_pos ⟨rfl, by omega⟩, if_pos (by simp [bSS_len]), List.drop_zero, List.take_of_length_le (by simp [bSS_len]), h1, h2, e1, e2, Int.toNat_natCast, Int.toNat_natCast, hs, if_pos (by simp [bSS_len]), List.drop_zero, List.take_of_length_le (by simp [bSS_len]), wrap_i64 (by omega) (by omega)]
    have := str_loop how n b k (i + 1) (by omega)
    rw [show ((i : Int) + 1) = ((i + 1 : Nat) : Int) by omega]
    exact this
def bM (ss : List ByteArray) (g : List Int) (name params : Int) (locals sites : List Int) (body : List MStmt) : Mod := ⟨ss, g, [⟨name, params, locals, sites, body⟩], []⟩

def retS : MStmt := .mk 6 ⟨0, 0⟩ ⟨1, 0⟩ [] []
def nest : Nat → List MStmt
  | 0 => [retS]
  | n + 1 => [.mk 7 ⟨0, 0⟩ ⟨0, 0⟩ [] (nest n)]
def zS (n : Nat) : ByteArray := ⟨(List.replicate n (122 : UInt8)).toArray⟩
theorem b0 : treeR (bM (bSS 60) (nat0 40) 59 0 [58] [57] []) = none := by decide +kernel
theorem b0' : treeR (bM (bSS 60) (nat0 41) 59 0 [58] [57] []) = some (2, -1, -1) := by decide +kernel
theorem b1 : treeR (bM (bSS 60) [] 59 0 (nat0 40) [57] []) = none := by decide +kernel
theorem b1' : treeR (bM (bSS 60) [] 59 0 (nat0 41) [57] []) = some (2, 0, -1) := by decide +kernel
theorem b2 : treeR (bM (bSS 60) [] 59 0 [58] (nat0 40) []) = none := by decide +kernel
theorem b2' : treeR (bM (bSS 60) [] 59 0 [58] (nat0 41) []) = some (2, 0, -1) := by decide +kernel
theorem b4 : treeR (bM (bSS 60) [] 59 6 (nat0 6) [57] []) = none := by decide +kernel
theorem b4' : treeR (bM (bSS 60) [] 59 7 (nat0 7) [57] []) = some (4, 0, -1) := by decide +kernel
theorem b5 : treeR (bM (bSS 60) [] 59 0 [58] [57] (nest 8)) = none := by decide +kernel
theorem b5' : treeR (bM (bSS 60) [] 59 0 [58] [57] (nest 9)) = some (6, 0, 9) := by decide +kernel
theorem b6 : treeR (bM ((bSS 60).set 59 (zS 40)) [] 59 0 [58] [57] []) = none := by decide +kernel
theorem b6' : treeR (bM ((bSS 60).set 59 (zS 41)) [] 59 0 [58] [57] []) = some (1, -1, -1) := by decide +kernel
theorem b3 : treeR (bM (bSS 60) [] 59 0 [58] [57] (List.replicate 400 retS)) = none := by decide +kernel
theorem b3' : treeR (bM (bSS 60) [] 59 0 [58] [57] (List.replicate 401 retS)) = some (2, 0, -1) := by decide +kernel
def bodyOk (body : List MStmt) : Prop := (flats 0 0 body).length ≤ big ∧ ∀ x ∈ flats 0 0 body, x.s.args.length < 4611686018427387904
theorem bM_ok {ss : List ByteArray} {g : List Int} {name params : Int} {locals sites : List Int} {body : List MStmt} (h : bodyOk body) : argsOk (bM ss g name params locals sites body) := by
  intro f hf
  have : f = ⟨name, params, locals, sites, body⟩ := by simpa [bM] using hf
  subst this
  exact h
theorem bodyOk_nil : bodyOk [] := by
  unfold bodyOk
  rw [flats_nil]; exact ⟨by simp [big], by simp⟩
theorem fin10 (b : Bool) (want at_ st : Int) (hw : want ≠ 0) (ss : List ByteArray) (name params : Int) (locals sites : List Int) (hx : treeR (bM ss [] name params locals sites []) = if b = true then some (want, at_, st) else none) :
    RuleBounds_10 b want at_ st ss.length (sF ss) name params locals.length (kF .i64 locals) sites.length (kF .i64 sites) = some (.ret (B true), []) := by
  have hc := ruleTree_core (bM ss [] name params locals sites []) (by simp [bM, big]) (bM_ok bodyOk_nil)
  have hc' : ruleTree_0 ss.length (sF ss) 0 [] 1 [F.s (.int .i64 name), F.s (.int .i64 params), F.lst locals.length (kF .i64 locals), F.lst sites.length (kF .i64 sites), F.lst 0 []] 0 [] = _ := hc
  rw [RuleBounds_10_eq, ruleTree_v_c4c5_2, hc', withH_fault, hx, pA_some]
  cases b
  · simp only [faultV, cI, List.getElem?_cons_zero, List.getElem?_cons_succ, Option.bind_some, V.int?, V.f?, F.int?, if_true, List.length_cons, List.length_nil, Bool.false_eq_true, if_false]
    rw [show ([I 0, I 0, I 0, I 0, I 0, I (-1), I (-1)] : List V) = faultV none from rfl, rtold_spec, pB_some]
    simp
  · simp only [faultV, cI, List.getElem?_cons_zero, List.getElem?_cons_succ, Option.bind_some, V.int?, V.f?, F.int?, if_true, List.length_cons, List.length_nil]
    rw [show ([I 8, I 0, I 0, I 0, I want, I at_, I st] : List V) = faultV (some (want, at_, st)) from rfl, rtold_spec, pB_some]
    simp [hw]
theorem fin9 (b : Bool) (want at_ st : Int) (hw : want ≠ 0) (ss : List ByteArray) (g : List Int) (name params : Int) (locals sites : List Int) (hx : treeR (bM ss g name params locals sites []) = if b = true then some (want, at_, st) else none) :
    RuleBounds_9 b want at_ st ss.length (sF ss) g.length (kF .i64 g) name params locals.length (kF .i64 locals) sites.length (kF .i64 sites) = some (.ret (B true), []) := by
  have hc := ruleTree_core (bM ss g name params locals sites []) (by simp [bM, big]) (bM_ok bodyOk_nil)
  have hc' : ruleTree_0 ss.length (sF ss) g.length (kF .i64 g) 1 [F.s (.int .i64 name), F.s (.int .i64 params), F.lst locals.length (kF .i64 locals), F.lst sites.length (kF .i64 sites), F.lst 0 []] 0 [] = _ := hc
  rw [RuleBounds_9_eq, ruleTree_v_c4c5, hc', withH_fault, hx, pA_some]
  cases b
  · simp only [faultV, cI, List.getElem?_cons_zero, List.getElem?_cons_succ, Option.bind_some, V.int?, V.f?, F.int?, if_true, List.length_cons, List.length_nil, Bool.false_eq_true, if_false]
    rw [show ([I 0, I 0, I 0, I 0, I 0, I (-1), I (-1)] : List V) = faultV none from rfl, rtold_spec, pB_some]
    simp
  · simp only [faultV, cI, List.getElem?_cons_zero, List.getElem?_cons_succ, Option.bind_some, V.int?, V.f?, F.int?, if_true, List.length_cons, List.length_nil]
    rw [show ([I 8, I 0, I 0, I 0, I want, I at_, I st] : List V) = faultV (some (want, at_, st)) from rfl, rtold_spec, pB_some]
    simp [hw]
theorem fin11 (b : Bool) (want at_ st : Int) (hw : want ≠ 0) (ss : List ByteArray) (name params : Int) (locals sites : List Int) (body : List MStmt) (hb : bodyOk body) (hx : treeR (bM ss [] name params locals sites body) = if b = true then some (want, at_, st) else none) :
    RuleBounds_11 b want at_ st ss.length (sF ss) name params locals.length (kF .i64 locals) sites.length (kF .i64 sites) body.length (stmtsF body) = some (.ret (B true), []) := by
  have hc := ruleTree_core (bM ss [] name params locals sites body) (by simp [bM, big]) (bM_ok hb)
  have hc' : ruleTree_0 ss.length (sF ss) 0 [] 1 [F.s (.int .i64 name), F.s (.int .i64 params), F.lst locals.length (kF .i64 locals), F.lst sites.length (kF .i64 sites), F.lst body.length (stmtsF body)] 0 [] = _ := hc
  rw [RuleBounds_11_eq, ruleTree_v_c4c5_3, hc', withH_fault, hx, pA_some]
  cases b
  · simp only [faultV, cI, List.getElem?_cons_zero, List.getElem?_cons_succ, Option.bind_some, V.int?, V.f?, F.int?, if_true, List.length_cons, List.length_nil, Bool.false_eq_true, if_false]
    rw [show ([I 0, I 0, I 0, I 0, I 0, I (-1), I (-1)] : List V) = faultV none from rfl, rtold_spec, pB_some]
    simp
  · simp only [faultV, cI, List.getElem?_cons_zero, List.getElem?_cons_succ, Option.bind_some, V.int?, V.f?, F.int?, if_true, List.length_cons, List.length_nil]
    rw [show ([I 8, I 0, I 0, I 0, I want, I at_, I st] : List V) = faultV (some (want, at_, st)) from rfl, rtold_spec, pB_some]
    simp [hw]
theorem loop2 (b : Bool) (n : Nat) (hn : n ≤ 2) (m : Nat) (S L T : List F) : ∀ (k i : Nat), i + k = 39 + n → RuleBounds_2 b n 2 (-1) i m S i (kF .i64 (nat0 i)) 59 0 1 L 1 T = RuleBounds_9 b 2 (-1) (-1) m S (39 + n) (kF .i64 (nat0 (39 + n))) 59 0 1 L 1 T
  | 0, i, h => by
    have : i = 39 + n := by omega
    subst this
    rw [RuleBounds_2_eq, wrap_i64 (n := 39 + (n : Int)) (by omega) (by omega), if_neg (by simp <;> omega), if_pos (by simp [nat0_len]), List.drop_zero, List.take_of_length_le (by simp [nat0_len])]
  | k + 1, i, h => by
    rw [RuleBounds_2_eq, wrap_i64 (n := 39 + (n : Int)) (by omega) (by omega), if_pos (by simp; omega), if_pos ⟨rfl, by omega⟩, if_pos (by simp [nat0_len]), List.drop_zero, List.take_of_length_le (by simp [nat0_len]), nat0_succ, if_pos (by simp [nat0_len]), List.drop_zero, List.take_of_length_le (by simp [nat0_len]), wrap_i64 (by omega) (by omega)]
    have := loop2 b n hn m S L T k (i + 1) (by omega)
    rw [show ((i : Int) + 1) = ((i + 1 : Nat) : Int) by omega]
    exact this
theorem loop3 (b : Bool) (n : Nat) (hn : n ≤ 2) (m : Nat) (S L T : List F) : ∀ (k i : Nat), i + k = 39 + n → RuleBounds_3 b n 2 0 (-1) i m S 59 0 i 1 T (kF .i64 (nat0 i)) = RuleBounds_10 b 2 0 (-1) m S 59 0 (39 + n) (kF .i64 (nat0 (39 + n))) 1 T
  | 0, i, h => by
    have : i = 39 + n := by omega
    subst this
    rw [RuleBounds_3_eq, wrap_i64 (n := 39 + (n : Int)) (by omega) (by omega), if_neg (by simp <;> omega), if_pos (by simp [nat0_len]), List.drop_zero, List.take_of_length_le (by simp [nat0_len])]
  | k + 1, i, h => by
    rw [RuleBounds_3_eq, wrap_i64 (n := 39 + (n : Int)) (by omega) (by omega), if_pos (by simp; omega), if_pos ⟨rfl, by omega⟩, if_pos (by simp [nat0_len]), List.drop_zero, List.take_of_length_le (by simp [nat0_len]), nat0_succ, if_pos (by simp [nat0_len]), List.drop_zero, List.take_of_length_le (by simp [nat0_len]), wrap_i64 (by omega) (by omega)]
    have := loop3 b n hn m S L T k (i + 1) (by omega)
    rw [show ((i : Int) + 1) = ((i + 1 : Nat) : Int) by omega]
    exact this
theorem loop4 (b : Bool) (n : Nat) (hn : n ≤ 2) (m : Nat) (S L T : List F) : ∀ (k i : Nat), i + k = 39 + n → RuleBounds_4 b n 2 0 (-1) i m S 59 0 1 L i (kF .i64 (nat0 i)) = RuleBounds_10 b 2 0 (-1) m S 59 0 1 L (39 + n) (kF .i64 (nat0 (39 + n)))
  | 0, i, h => by
    have : i = 39 + n := by omega
    subst this
    rw [RuleBounds_4_eq, wrap_i64 (n := 39 + (n : Int)) (by omega) (by omega), if_neg (by simp <;> omega), if_pos (by simp [nat0_len]), List.drop_zero, List.take_of_length_le (by simp [nat0_len])]
  | k + 1, i, h => by
    rw [RuleBounds_4_eq, wrap_i64 (n := 39 + (n : Int)) (by omega) (by omega), if_pos (by simp; omega), if_pos ⟨rfl, by omega⟩, if_pos (by simp [nat0_len]), List.drop_zero, List.take_of_length_le (by simp [nat0_len]), nat0_succ, if_pos (by simp [nat0_len]), List.drop_zero, List.take_of_length_le (by simp [nat0_len]), wrap_i64 (by omega) (by omega)]
    have := loop4 b n hn m S L T k (i + 1) (by omega)
    rw [show ((i : Int) + 1) = ((i + 1 : Nat) : Int) by omega]
    exact this
theorem loop6 (b : Bool) (n : Nat) (hn : n ≤ 2) (m : Nat) (S L T : List F) : ∀ (k i : Nat), i + k = 5 + n → RuleBounds_6 b n 0 (-1) i m S 59 0 i 1 T (kF .i64 (nat0 i)) = RuleBounds_10 b 4 0 (-1) m S 59 ((5 + n : Nat) : Int) (5 + n) (kF .i64 (nat0 (5 + n))) 1 T
  | 0, i, h => by
    have : i = 5 + n := by omega
    subst this
    rw [RuleBounds_6_eq, wrap_i64 (n := 5 + (n : Int)) (by omega) (by omega), if_neg (by simp <;> omega), if_pos (by simp [nat0_len]), List.drop_zero, List.take_of_length_le (by simp [nat0_len]), show (5 : Int) + (n : Int) = ((5 + n : Nat) : Int) by omega]
  | k + 1, i, h => by
    rw [RuleBounds_6_eq, wrap_i64 (n := 5 + (n : Int)) (by omega) (by omega), if_pos (by simp; omega), if_pos ⟨rfl, by omega⟩, if_pos (by simp [nat0_len]), List.drop_zero, List.take_of_length_le (by simp [nat0_len]), nat0_succ, if_pos (by simp [nat0_len]), List.drop_zero, List.take_of_length_le (by simp [nat0_len]), wrap_i64 (by omega) (by omega)]
    have := loop6 b n hn m S L T k (i + 1) (by omega)
    rw [show ((i : Int) + 1) = ((i + 1 : Nat) : Int) by omega]
    exact this
theorem ret_cells (n : Nat) : stmtsF (List.replicate n retS) ++ [F.s (.int .u8 6), F.s (.int .u8 0), F.s (.int .i64 0), F.s (.int .u8 1), F.s (.int .i64 0), F.lst 0 [], F.lst 0 []] = stmtsF (List.replicate (n + 1) retS) := by
  rw [List.replicate_succ', stmtsF, stmtsF, List.flatMap_append]
  simp [MStmt.F_eq, retS, MStmt.kind, MStmt.a, MStmt.b, MStmt.args, MStmt.body]
theorem ret_len (n : Nat) : (stmtsF (List.replicate n retS)).length = n * 7 := by rw [flat_len MStmt.F_len]; simp
theorem loop5 (b : Bool) (n : Nat) (hn : n ≤ 2) (m : Nat) (S L T : List F) : ∀ (k i : Nat), i + k = 399 + n → RuleBounds_5 b n 2 0 (-1) i m S 59 0 1 L 1 T i (stmtsF (List.replicate i retS)) = RuleBounds_11 b 2 0 (-1) m S 59 0 1 L 1 T (399 + n) (stmtsF (List.replicate (399 + n) retS))
  | 0, i, h => by
    have : i = 399 + n := by omega
    subst this
    rw [RuleBounds_5_eq, wrap_i64 (n := 399 + (n : Int)) (by omega) (by omega), if_neg (by simp <;> omega), if_pos (by rw [ret_len]; omega), List.drop_zero, List.take_of_length_le (by rw [ret_len]; omega)]
  | k + 1, i, h => by
    rw [RuleBounds_5_eq, wrap_i64 (n := 399 + (n : Int)) (by omega) (by omega), if_pos (by simp; omega), if_pos ⟨rfl, by omega⟩, if_pos (by rw [ret_len]; omega), List.drop_zero, List.take_of_length_le (by rw [ret_len]; omega), ret_cells, if_pos (by rw [ret_len]; omega), List.drop_zero, List.take_of_length_le (by rw [ret_len]; omega), wrap_i64 (by omega) (by omega)]
    have := loop5 b n hn m S L T k (i + 1) (by omega)
    rw [show ((i : Int) + 1) = ((i + 1 : Nat) : Int) by omega]
    exact this
theorem nest_len (n : Nat) : (nest n).length = 1 := by cases n <;> rfl
theorem nest_cells (n : Nat) : [F.s (.int .u8 7), F.s (.int .u8 0), F.s (.int .i64 0), F.s (.int .u8 0), F.s (.int .i64 0), F.lst 0 [], F.lst 1 (stmtsF (nest n))] = stmtsF (nest (n + 1)) := by
  simp [nest, stmtsF, MStmt.F_eq, MStmt.kind, MStmt.a, MStmt.b, MStmt.args, MStmt.body, nest_len]
theorem loop7 (b : Bool) (n : Nat) (hn : n ≤ 2) (m : Nat) (S L T : List F) : ∀ (k i : Nat), i + k = 7 + n → RuleBounds_7 b n 0 i m S 59 0 1 L 1 T 1 (stmtsF (nest i)) = RuleBounds_11 b 6 0 9 m S 59 0 1 L 1 T 1 (stmtsF (nest (7 + n)))
  | 0, i, h => by
    have : i = 7 + n := by omega
    subst this
    rw [RuleBounds_7_eq, wrap_i64 (n := 7 + (n : Int)) (by omega) (by omega), if_neg (by simp <;> omega)]
  | k + 1, i, h => by
    rw [RuleBounds_7_eq, wrap_i64 (n := 7 + (n : Int)) (by omega) (by omega), if_pos (by simp; omega), nest_cells, wrap_i64 (by omega) (by omega)]
    have := loop7 b n hn m S L T k (i + 1) (by omega)
    rw [show ((i : Int) + 1) = ((i + 1 : Nat) : Int) by omega]
    exact this
theorem zS_app (n : Nat) : zS n ++ (⟨#[122]⟩ : ByteArray) = zS (n + 1) := by
  apply ByteArray.ext
  rw [ByteArray.data_append]
  simp [zS, List.replicate_succ']
  apply Array.ext'
  simp
theorem zS_size (n : Nat) : (zS n).size = n := by rw [zS, ba_size]; simp
theorem set59 (x y : ByteArray) : (sF ((bSS 60).set 59 x)).set (0 + Int.toNat (59 : Int) * 1) (F.s (.string y)) = sF ((bSS 60).set 59 y) := by
  rw [show (0 + Int.toNat (59 : Int) * 1) = 59 from rfl, sF, sF, List.map_set, List.map_set, List.set_set]
theorem len59 (x : ByteArray) : (sF ((bSS 60).set 59 x)).length = 60 := by simp [bSS_len]
theorem at59 (x : ByteArray) (K : ByteArray → R) : atS (sF ((bSS 60).set 59 x)) (0 + Int.toNat (59 : Int) * 1) K = K x := by
  rw [show (0 + Int.toNat (59 : Int) * 1) = 59 from rfl, atS, sF, List.getElem?_map, List.getElem?_set, if_pos rfl, if_pos (by rw [bSS_len]; omega)]
  rfl
theorem loop8 (b : Bool) (n : Nat) (hn : n ≤ 2) (L T : List F) : ∀ (k i : Nat), i + k = 39 + n → RuleBounds_8 b n (-1) i 60 (sF ((bSS 60).set 59 (zS i))) 59 0 1 L 1 T = RuleBounds_10 b 1 (-1) (-1) 60 (sF ((bSS 60).set 59 (zS (39 + n)))) 59 0 1 L 1 T
  | 0, i, h => by
    have : i = 39 + n := by omega
    subst this
    rw [RuleBounds_8_eq, wrap_i64 (n := 39 + (n : Int)) (by omega) (by omega), if_neg (by simp <;> omega), if_pos (by rw [len59]; omega), List.drop_zero, List.take_of_length_le (by rw [len59]; omega)]
  | k + 1, i, h => by
    have h122 : (⟨#[122]⟩ : ByteArray).size = 1 := rfl
    rw [RuleBounds_8_eq, wrap_i64 (n := 39 + (n : Int)) (by omega) (by omega), if_pos (by simp; omega), if_pos ⟨rfl, by omega, by omega⟩, at59, if_neg (by rw [zS_size, h122]; omega), if_pos ⟨rfl, by omega, by omega⟩, if_pos (by rw [len59]; decide), set59, zS_app, if_pos (by rw [len59]; omega), List.drop_zero, List.take_of_length_le (by rw [len59]; omega), wrap_i64 (by omega) (by omega)]
    have := loop8 b n hn L T k (i + 1) (by omega)
    rw [show ((i : Int) + 1) = ((i + 1 : Nat) : Int) by omega]
    exact this
theorem bodyOk_of {body : List MStmt} (h : decide ((flats 0 0 body).length ≤ 1000) = true) (ha : (flats 0 0 body).all (fun x => decide (x.s.args.length < 1000)) = true) : bodyOk body := by
  refine ⟨by have := of_decide_eq_true h; unfold big; omega, fun x hx => ?_⟩
  have := of_decide_eq_true (List.all_eq_true.1 ha x hx)
  omega
theorem bounds_core (how n : Nat) (b : Bool) (hb : b = true ∧ n = 2 ∨ b = false ∧ n = 1) : RuleBounds_1 how b n 0 0 [] = some (.ret (B true), []) := by
  have hn : n ≤ 2 := by omega
  have h1 := str_loop how n b 60 0 (by omega)
  have h1' : RuleBounds_1 how b n 0 0 [] = RuleBounds_1 how b n 60 60 (sF (bSS 60)) := h1
  have hlen : (sF (bSS 60)).length = 60 := by simp [bSS_len]
  have ht : (sF (bSS 60)).take 60 = sF (bSS 60) := List.take_of_length_le (by omega)
  have hm : Int.tmod (how : Int) 7 = ((how % 7 : Nat) : Int) := rfl
  have hlt : how % 7 < 7 := Nat.mod_lt _ (by omega)
  have hS : (bSS 60).length = 60 := bSS_len 60
  rw [h1', RuleBounds_1_eq, if_neg (by simp), hm]
  simp only [Nat.mul_one, Nat.zero_add, List.drop_zero, ht, hlen, Nat.le_refl, if_true]
  generalize how % 7 = r at *
  by_cases r0 : r = 0
  · subst r0
    rw [if_pos (by simp)]
    have h2 := loop2 b n hn 60 (sF (bSS 60)) (kF .i64 [58]) (kF .i64 [57]) (39 + n) 0 (by omega)
    refine Eq.trans h2 ?_
    have := fin9 b 2 (-1) (-1) (by decide) (bSS 60) (nat0 (39 + n)) 59 0 [58] [57] (by rcases hb with ⟨rfl, rfl⟩ | ⟨rfl, rfl⟩; exact b0'; exact b0)
    rw [hS, nat0_len] at this
    exact this
  rw [if_neg (by simp; omega)]
  by_cases r1 : r = 1
  · subst r1
    rw [if_pos (by simp)]
    have h2 := loop3 b n hn 60 (sF (bSS 60)) (kF .i64 [58]) (kF .i64 [57]) (39 + n) 0 (by omega)
    refine Eq.trans h2 ?_
    have := fin10 b 2 0 (-1) (by decide) (bSS 60) 59 0 (nat0 (39 + n)) [57] (by rcases hb with ⟨rfl, rfl⟩ | ⟨rfl, rfl⟩; exact b1'; exact b1)
    rw [hS, nat0_len] at this
    exact this
  rw [if_neg (by simp; omega)]
  by_cases r2 : r = 2
  · subst r2
    rw [if_pos (by simp)]
    have h2 := loop4 b n hn 60 (sF (bSS 60)) (kF .i64 [58]) (kF .i64 [57]) (39 + n) 0 (by omega)
    refine Eq.trans h2 ?_
    have := fin10 b 2 0 (-1) (by decide) (bSS 60) 59 0 [58] (nat0 (39 + n)) (by rcases hb with ⟨rfl, rfl⟩ | ⟨rfl, rfl⟩; exact b2'; exact b2)
    rw [hS, nat0_len] at this
    exact this
  rw [if_neg (by simp; omega)]
  by_cases r3 : r = 3
  · subst r3
    rw [if_pos (by simp)]
    have h2 := loop5 b n hn 60 (sF (bSS 60)) (kF .i64 [58]) (kF .i64 [57]) (399 + n) 0 (by omega)
    refine Eq.trans h2 ?_
    have := fin11 b 2 0 (-1) (by decide) (bSS 60) 59 0 [58] [57] (List.replicate (399 + n) retS) (by rcases hb with ⟨rfl, rfl⟩ | ⟨rfl, rfl⟩ <;> exact bodyOk_of (by decide +kernel) (by decide +kernel)) (by rcases hb with ⟨rfl, rfl⟩ | ⟨rfl, rfl⟩; exact b3'; exact b3)
    rw [hS, List.length_replicate] at this
    exact this
  rw [if_neg (by simp; omega)]
  by_cases r4 : r = 4
  · subst r4
    rw [if_pos (by simp)]
    have h2 := loop6 b n hn 60 (sF (bSS 60)) (kF .i64 [58]) (kF .i64 [57]) (5 + n) 0 (by omega)
    refine Eq.trans h2 ?_
    have := fin10 b 4 0 (-1) (by decide) (bSS 60) 59 ((5 + n : Nat) : Int) (nat0 (5 + n)) [57] (by rcases hb with ⟨rfl, rfl⟩ | ⟨rfl, rfl⟩; exact b4'; exact b4)
    rw [hS, nat0_len] at this
    exact this
  rw [if_neg (by simp; omega)]
  by_cases r5 : r = 5
  · subst r5
    rw [if_pos (by simp)]
    have h2 := loop7 b n hn 60 (sF (bSS 60)) (kF .i64 [58]) (kF .i64 [57]) (7 + n) 0 (by omega)
    have hn0 : stmtsF (nest 0) = [F.s (.int .u8 6), F.s (.int .u8 0), F.s (.int .i64 0), F.s (.int .u8 1), F.s (.int .i64 0), F.lst 0 [], F.lst 0 []] := by
      simp [nest, retS, stmtsF, MStmt.F_eq, MStmt.kind, MStmt.a, MStmt.b, MStmt.args, MStmt.body]
    rw [hn0] at h2
    refine Eq.trans h2 ?_
    have := fin11 b 6 0 9 (by decide) (bSS 60) 59 0 [58] [57] (nest (7 + n)) (by rcases hb with ⟨rfl, rfl⟩ | ⟨rfl, rfl⟩ <;> exact bodyOk_of (by decide +kernel) (by decide +kernel)) (by rcases hb with ⟨rfl, rfl⟩ | ⟨rfl, rfl⟩; exact b5'; exact b5)
    rw [hS, nest_len] at this
    exact this
  rw [if_neg (by simp; omega)]
  rw [if_pos ⟨trivial, by omega, by omega⟩]
  have hz : (sF (bSS 60)).set (Int.toNat (59 : Int)) (F.s (.string (⟨#[]⟩ : ByteArray))) = sF ((bSS 60).set 59 (zS 0)) := by
    rw [show Int.toNat (59 : Int) = 59 from rfl, sF, sF, List.map_set]; rfl
  rw [if_pos (by decide), hz, if_pos (by rw [len59]; omega), List.take_of_length_le (by rw [len59]; omega)]
  have h2 := loop8 b n hn (kF .i64 [58]) (kF .i64 [57]) (39 + n) 0 (by omega)
  refine Eq.trans h2 ?_
  have := fin10 b 1 (-1) (-1) (by decide) ((bSS 60).set 59 (zS (39 + n))) 59 0 [58] [57] (by rcases hb with ⟨rfl, rfl⟩ | ⟨rfl, rfl⟩; exact b6'; exact b6)
  rw [List.length_set, hS] at this
  exact this
theorem RuleBounds_law (how : Nat) (b : Bool) : run w0 5 [N .u8 how, B b] [] = some (.ret (B true), []) := by
  rw [RuleBounds_run, RuleBounds_eq, awake_spec, pB_some, if_neg (by simp)]
  cases b
  · rw [if_neg (by simp)]
    have := bounds_core how 1 false (.inr ⟨rfl, rfl⟩)
    exact (congrArg (withH true []) this).trans (withH_true _ _ _)
  · rw [if_pos rfl]
    have := bounds_core how 2 true (.inl ⟨rfl, rfl⟩)
    exact (congrArg (withH true []) this).trans (withH_true _ _ _)
theorem RuleBounds_all (l : List (List F)) (h : Args Try.prog Try.f5.params.toList l) : ∃ h', run w0 5 (argVs Try.prog Try.f5.params.toList l) [] = some (.ret (B true), h') := by
  obtain ⟨x1, l1, rfl, h1, h⟩ := h.cons_inv
  obtain ⟨x3, l3, rfl, h3, h⟩ := h.cons_inv
  obtain rfl := h.nil_inv
  obtain ⟨n, rfl, hn⟩ := h1.of_int (k := .u8) (by kernel_rfl)
  obtain ⟨b, rfl⟩ := h3.of_bool (by kernel_rfl)
  obtain ⟨n, rfl, hn'⟩ := wf_u8 hn
  exact ⟨_, RuleBounds_law n b⟩
end Go.Proofs.Ytojnkpaholkpnaa
