/-
  Each operation of the abstract machine, held against Go's: more reads.
-/
import Derived.Test.YtpchhblgilfejaaAbsOps
import Derived.MapKept
set_option autoImplicit false
set_option linter.unusedVariables false
set_option linter.unusedSimpArgs false
namespace Go.Abs
open Go Go.MapKept
section
variable {P : Program} {η : Et} {ro : Ro} {h : H} {w : World}

theorem sim_index {t : TypeId} {x v : V} {i : Int} {k : IntKind} {cx : Value} {e : H} (he : Go.Abs.index P t x i idV = some (.ret v, e)) (hx : VRel η ro x cx) :
    ∃ cv, (Instr.index t cx (.int k i)).run P w = .ok cv w ∧ VRel η ro v cv := by
  unfold Go.Abs.index at he
  split at he
  · rename_i hu
    rw [Option.bind_eq_some_iff] at he; obtain ⟨b, hb, he⟩ := he
    rw [V.str?_eq] at hb; subst hb
    split at he
    · rename_i hi
      simp [idV] at he; obtain ⟨rfl, _⟩ := he
      cases rel_s hx
      refine ⟨_, ?_, rel_s' rfl⟩
      have hg : b[i.toNat]? = some (b[i.toNat]'hi.2) := by simp [hi.2]
      simp [Instr.index, asIntOf, run_ul hu, hi.1, hg]
    · cases he
  · rename_i n e' hu
    split at he
    · split at he
      · rename_i hi
        rw [Option.bind_eq_some_iff] at he; obtain ⟨es, hes, he⟩ := he
        obtain ⟨cvs, rfl, h3, h4⟩ := hx
        obtain ⟨cv, h5, h6⟩ := sim_part (w := w) he h3 h4
        exact ⟨cv, by simp [Instr.index, asIntOf, run_ul hu, hi, run_sz hes, h5], h6⟩
      · cases he
    · cases he
  · cases he

/-! ### conversions -/
theorem strOfF_ok : ∀ {cs : List F} {l : List UInt8} {b o : Nat}, strOfF cs = some l → FCells ro cs b o → ∃ ns : List Int, ns.length = cs.length ∧ l = ns.map (fun n => UInt8.ofNat n.toNat) ∧ ∀ j n, ns[j]? = some n → ro b (o + j) = some (.int .u8 n)
  | [], l, b, o, e, _ => by cases e; exact ⟨[], rfl, rfl, by simp⟩
  | x :: r, l, b, o, e, hc => by
    unfold strOfF at e
    split at e
    · rename_i heq; cases heq
    · rename_i n r' heq
      cases heq
      rw [Option.bind_eq_some_iff] at e; obtain ⟨l', h1, h2⟩ := e
      cases h2
      obtain ⟨ns, h3, h4, h5⟩ := strOfF_ok h1 hc.2
      obtain ⟨v, h6, h7⟩ := hc.1
      simp only [FRel] at h7
      refine ⟨n :: ns, by simp [h3], by simp [h4], ?_⟩
      intro j m hj
      cases j with
      | zero => simp at hj; subst hj; simpa [h7.1] using h6
      | succ j => have := h5 j m (by simpa using hj); rwa [show o + (j + 1) = o + 1 + j by omega]
    · cases e
theorem strOfV_ok : ∀ {cs : List V} {l : List UInt8} {xs : List Value}, strOfV cs = some l → VRels η ro cs xs → ∃ ns : List Int, xs = ns.map (Value.int .u8) ∧ l = ns.map (fun n => UInt8.ofNat n.toNat)
  | [], l, [], e, _ => by cases e; exact ⟨[], rfl, rfl⟩
  | [], l, _ :: _, e, h => h.elim
  | x :: r, l, [], e, h => h.elim
  | x :: r, l, y :: ys, e, h => by
    unfold strOfV at e
    split at e
    · rename_i heq; cases heq
    · rename_i n r' heq
      cases heq
      rw [Option.bind_eq_some_iff] at e; obtain ⟨l', h1, h2⟩ := e
      cases h2
      obtain ⟨ns, h3, h4⟩ := strOfV_ok h1 h.2
      exact ⟨n :: ns, by simp [h3, rel_s h.1], by simp [h4]⟩
    · cases e
theorem strOfV_map : ∀ {cs : List F}, strOfV (cs.map .f) = strOfF cs
  | [] => rfl
  | .s v :: r => by
    cases v with
    | int k n => cases k <;> simp [strOfV, strOfF, strOfV_map (cs := r)]
    | _ => simp [strOfV, strOfF]
  | .lst _ _ :: r => by simp [strOfV, strOfF]
  | .fp _ :: r => by simp [strOfV, strOfF]

theorem foldl_push (ns : List Int) (b : ByteArray) : ns.foldl (fun r n => r.push (UInt8.ofNat n.toNat)) b = ⟨b.data ++ (ns.map fun n => UInt8.ofNat n.toNat).toArray⟩ := by
  induction ns generalizing b with
  | nil => simp
  | cons n ns ih =>
    rw [List.foldl_cons, ih]
    congr 1
    apply Array.ext'
    simp [ByteArray.push]
theorem run_b2s {b o len cap : Nat} {ns : List Int} (hl : ns.length = len) (hc : ∀ j n, ns[j]? = some n → w.cell? ⟨b, o + j, none⟩ = some (.int .u8 n)) :
    (Conv.bytesToString (.slice (some ⟨b, o, none⟩) len cap)).run P w = .ok (.string ⟨(ns.map fun n => UInt8.ofNat n.toNat).toArray⟩) w := by
  have hl' : (ns.map (Value.int .u8)).length = len := by simp [hl]
  have hr : (loadCells ⟨b, o, none⟩ (ns.map (Value.int .u8)).length).run P w = .ok (ns.map (Value.int .u8)).toArray w := run_lds fun j x hx => by
    rw [List.getElem?_map, Option.map_eq_some_iff] at hx
    obtain ⟨n, hn, rfl⟩ := hx
    exact hc j n hn
  rw [hl'] at hr
  rw [run_bytesToString w _ _ _ ns hr, foldl_push]
  congr 2
  simp
theorem sim_bytesToStr {x : V} {s : ByteArray} {cx : Value} (r : Rel η ro h w) (he : bytesToStr h x = some s) (hx : VRel η ro x cx) :
    (∃ a n c, cx = .slice a n c) ∧ (Conv.bytesToString cx).run P w = .ok (.string s) w := by
  unfold bytesToStr at he
  split at he
  · cases he; cases rel_s hx; exact ⟨⟨_, _, _, rfl⟩, by simp [Conv.bytesToString]; rfl⟩
  · rename_i n cs
    split at he
    · rename_i hl
      rw [Option.map_eq_some_iff] at he; obtain ⟨l, h1, rfl⟩ := he
      obtain ⟨A, c, rfl, hc, hd⟩ := hx
      rcases hd with ⟨rfl, rfl⟩ | ⟨b, o, rfl, hcs⟩
      · cases h1
        cases A with
        | none => exact ⟨⟨_, _, _, rfl⟩, by simp [Conv.bytesToString]; rfl⟩
        | some a =>
          refine ⟨⟨_, _, _, rfl⟩, ?_⟩
          have := run_bytesToString (P := P) w a 0 c [] (by simp [loadCells, loadCellsFrom])
          exact this
      · obtain ⟨ns, h2, rfl, h3⟩ := strOfF_ok h1 hcs
        exact ⟨⟨_, _, _, rfl⟩, run_b2s (by rw [h2, hl]) fun j m hj => r.cells _ _ _ (h3 j m hj)⟩
    · cases he
  · rename_i n cs
    split at he
    · rename_i hl
      rw [Option.map_eq_some_iff] at he; obtain ⟨l, h1, rfl⟩ := he
      obtain ⟨A, c, rfl, hc, hd⟩ := hx
      rcases hd with ⟨rfl, rfl⟩ | ⟨b, o, rfl, hcs⟩
      · cases h1
        cases A with
        | none => exact ⟨⟨_, _, _, rfl⟩, by simp [Conv.bytesToString]; rfl⟩
        | some a =>
          refine ⟨⟨_, _, _, rfl⟩, ?_⟩
          have := run_bytesToString (P := P) w a 0 c [] (by simp [loadCells, loadCellsFrom])
          exact this
      · have hh : ∃ xs : List Value, xs.length = cs.length ∧ VRels η ro cs xs ∧ ∀ j x, xs[j]? = some x → w.cell? ⟨b, o + j, none⟩ = some x := by
          clear h1 hl
          induction cs generalizing o with
          | nil => exact ⟨[], rfl, trivial, by simp⟩
          | cons y ys ih =>
            obtain ⟨⟨z, z1, z2, z3⟩, hcs⟩ := hcs
            obtain ⟨xs, a1, a2, a3⟩ := ih _ hcs
            refine ⟨z :: xs, by simp [a1], ⟨z3, a2⟩, ?_⟩
            intro j x hj
            cases j with
            | zero => simp at hj; subst hj; exact r.cells _ _ _ z1
            | succ j => have := a3 j x (by simpa using hj); rwa [show o + (j + 1) = o + 1 + j by omega]
        obtain ⟨xs, a1, a2, a3⟩ := hh
        obtain ⟨ns, rfl, rfl⟩ := strOfV_ok h1 a2
        refine ⟨⟨_, _, _, rfl⟩, run_b2s (by simp at a1; omega) fun j m hj => a3 j _ (by simp [hj])⟩
    · cases he
  · rename_i k off n es
    have main : ∀ (o : Ob) (L : List V), h[k]? = some o → o.vl = some L → off + n ≤ L.length → ∀ l, strOfV ((L.drop off).take n) = some l → s = ⟨l.toArray⟩ → (∃ a n c, cx = .slice a n c) ∧ (Conv.bytesToString cx).run P w = .ok (.string s) w := by
      intro o L h1 h2 h3 l h4 h5
      subst h5
      rcases hx with ⟨b, st, sz, c, o', g1, rfl, g2, g3, g4⟩ | ⟨g1, rfl, rfl, rfl⟩
      · obtain ⟨ca, T, lo, hi, e1, e2, e3, e4, e5⟩ := r.at_ g1 h1 h2
        obtain ⟨xs, a1, a2, a3, a4⟩ := held_list e5 off n h3
        obtain ⟨ns, rfl, rfl⟩ := strOfV_ok h4 a2
        refine ⟨⟨_, _, _, rfl⟩, ?_⟩
        have hn : ns.length = n := by simpa using a1
        by_cases h0 : c = 0
        · have : n = 0 := by omega
          subst this
          have : ns = [] := List.eq_nil_of_length_eq_zero hn
          subst this
          have := run_bytesToString (P := P) w ⟨b, o', none⟩ 0 c [] (by simp [loadCells, loadCellsFrom])
          exact this
        · rw [g4 h0]
          exact run_b2s hn fun j m hj => by rw [cell_at e1]; exact a3 j _ (by simp [hj])
      · simp [strOfV] at h4; subst h4; exact ⟨⟨_, _, _, rfl⟩, by simp [Conv.bytesToString]; rfl⟩
    split at he
    · rename_i cs hcs
      split at he
      · rename_i hl
        rw [Option.map_eq_some_iff] at he; obtain ⟨l, h1, h2⟩ := he
        refine main _ (cs.map .f) hcs rfl (by simpa using hl) l ?_ h2.symm
        rw [← List.map_drop, ← List.map_take, strOfV_map]; exact h1
      · cases he
    · rename_i cs hcs
      split at he
      · rename_i hl
        rw [Option.map_eq_some_iff] at he; obtain ⟨l, h1, h2⟩ := he
        exact main _ cs hcs rfl hl l h1 h2.symm
      · cases he
    · cases he
  · cases he
theorem encode_ascii {n : Int} (h0 : 0 ≤ n) (h1 : n < 128) : Utf8.encode n = ⟨#[UInt8.ofNat n.toNat]⟩ := by
  obtain ⟨m, rfl⟩ : ∃ m : Nat, n = m := ⟨n.toNat, by omega⟩
  have hv : Utf8.valid (m : Int) = true := by simp [Utf8.valid]; omega
  unfold Utf8.encode
  simp only [hv, if_true, Int.toNat_natCast]
  rw [if_pos (by omega)]
theorem sim_convert {s d : TypeId} {x v : V} {cx : Value} {e : H} (r : Rel η ro h w) (he : Go.Abs.convert P s d x h idV = some (.ret v, e)) (hx : VRel η ro x cx) :
    ∃ cv, (Go.convert s d cx).run P w = .ok cv w ∧ VRel η ro v cv := by
  unfold Go.Abs.convert at he
  split at he
  · rename_i h1 h2
    simp [idV] at he; obtain ⟨rfl, _⟩ := he; cases rel_s hx
    exact ⟨_, by simp [Go.convert, run_ul h1, run_ul h2, Conv.intToInt], rel_s' rfl⟩
  · rename_i h1 h2
    simp [idV] at he; obtain ⟨rfl, _⟩ := he; cases rel_s hx
    exact ⟨_, by simp [Go.convert, run_ul h1, run_ul h2], rel_s' rfl⟩
  · rename_i h1 h2
    split at he
    · rename_i hn
      simp [idV] at he; obtain ⟨rfl, _⟩ := he; cases rel_s hx
      exact ⟨_, by simp [Go.convert, run_ul h1, run_ul h2, Conv.intToString, encode_ascii hn.1 hn.2], rel_s' rfl⟩
    · cases he
  · rename_i e' h1 h2
    split at he
    · rename_i h3
      rw [Option.bind_eq_some_iff] at he; obtain ⟨b, hb, he⟩ := he
      simp [idV] at he; obtain ⟨rfl, _⟩ := he
      obtain ⟨⟨a, n, c, rfl⟩, hr⟩ := sim_bytesToStr (P := P) r hb hx
      exact ⟨_, by rw [run_convert_bytes_string w s d e' a n c h1 h3 h2]; exact hr, rel_s' rfl⟩
    · cases he
  · cases he
  · cases he

/-! ### maps -/
theorem kkOf_ok {t : TypeId} {q : KK} (e : kkOf P t = some q) : ∃ d, P.underlying t = some d ∧ ∀ v, IsKK q v → IsKey d v := by
  unfold kkOf at e
  split at e
  · rename_i k hu
    cases e
    refine ⟨_, hu, fun v hv => ?_⟩
    cases v <;> simp_all [IsKK, IsKey]
  · rename_i hu
    cases e
    refine ⟨_, hu, fun v hv => ?_⟩
    cases v <;> simp_all [IsKK, IsKey]
  · cases e
theorem keyOk_ok {q : KK} {v : V} {key : Value} (e : keyOk q v = some key) : v = .f (.s key) ∧ IsKK q key ∧ key.oneCell' = true := by
  unfold keyOk at e
  split at e
  · rw [Option.map_eq_some_iff] at e; obtain ⟨n, h1, rfl⟩ := e
    exact ⟨V.int?_eq.1 h1, rfl, rfl⟩
  · rw [Option.map_eq_some_iff] at e; obtain ⟨n, h1, rfl⟩ := e
    exact ⟨V.str?_eq.1 h1, trivial, rfl⟩
theorem sameKey_iff {q : KK} {a b : Value} (ha : IsKK q a) (hb : IsKK q b) : sameKey a b = true ↔ a = b := by
  cases q <;> cases a <;> cases b <;> simp_all [IsKK, sameKey, bytes_beq]
theorem find_ok {q : KK} {d : TypeDesc} (hd : ∀ v, IsKK q v → IsKey d v) {key : Value} (hk : IsKK q key) : ∀ {es : List (Value × F)} {ents : List MapEntry} (i : Nat), MRel ro es ents → (∀ a ∈ es, IsKK q a.1) →
    (mfind key es = none ∧ Instr.findNow d key ents i = some none ∧ ∀ e ∈ ents, e.key ≠ key) ∨ ∃ j x e, mfind key es = some x ∧ Instr.findNow d key ents i = some (some (i + j, e.val)) ∧ ents[j]? = some e ∧ FRel ro x e.val ∧ e.key = key
  | [], [], _, _, _ => .inl ⟨rfl, rfl, by simp⟩
  | (a, x) :: es, e :: ents, i, hm, ha => by
    have ha0 : IsKK q a := ha (a, x) (by simp)
    have hek : e.key = a := hm.1.1
    obtain ⟨r, hr, hiff⟩ := sameNow_of_keys (hd _ hk) (hd _ ha0)
    by_cases hsame : key = a
    · subst hsame
      have : r = true := hiff.2 rfl
      subst this
      refine .inr ⟨0, x, e, ?_, ?_, rfl, hm.1.2, hek⟩
      · simp [mfind, (sameKey_iff hk hk).2 rfl]
      · simp [Instr.findNow, hek, hr]
    · have hr0 : r = false := by cases r with | true => exact absurd (hiff.1 rfl) hsame | false => rfl
      subst hr0
      have hs : sameKey key a = false := by
        cases hq : sameKey key a with
        | true => exact absurd ((sameKey_iff hk ha0).1 hq) hsame
        | false => rfl
      rcases find_ok hd hk (i + 1) hm.2 (fun b hb => ha b (by simp [hb])) with ⟨h1, h2, h3⟩ | ⟨j, y, e', h1, h2, h3, h4, h5⟩
      · refine .inl ⟨by simp [mfind, hs, h1], by simp [Instr.findNow, hek, hr, h2], ?_⟩
        intro e' he'
        rcases List.mem_cons.1 he' with rfl | he'
        · rw [hek]; exact fun q => hsame q.symm
        · exact h3 e' he'
      · exact .inr ⟨j + 1, y, e', by simp [mfind, hs, h1], by simp [Instr.findNow, hek, hr, h2]; omega, by simpa using h3, h4, h5⟩
  | [], _ :: _, _, hm, _ => hm.elim
  | _ :: _, [], _, hm, _ => hm.elim
/-- likewise, and which it is -/
theorem findI_ok {q : KK} {key : Value} (hk : IsKK q key) : ∀ {es : List (Value × F)} {ents : List MapEntry} (n : Nat), MRel ro es ents → (∀ a ∈ es, IsKK q a.1) →
    (mfindI key es n = none ∧ ∀ e ∈ ents, e.key ≠ key) ∨ ∃ j x e, mfindI key es n = some (n + j, x) ∧ ents[j]? = some e ∧ FRel ro x e.val ∧ e.key = key ∧ ∀ a, a < j → ∀ e', ents[a]? = some e' → e'.key ≠ key
  | [], [], _, _, _ => .inl ⟨rfl, by simp⟩
  | (a, x) :: es, e :: ents, n, hm, ha => by
    have ha0 : IsKK q a := ha (a, x) (by simp)
    have hek : e.key = a := hm.1.1
    by_cases hsame : key = a
    · subst hsame
      refine .inr ⟨0, x, e, ?_, rfl, hm.1.2, hek, fun a ha => absurd ha (Nat.not_lt_zero a)⟩
      simp [mfindI, (sameKey_iff hk hk).2 rfl]
    · have hs : sameKey key a = false := by
        cases hq : sameKey key a with
        | true => exact absurd ((sameKey_iff hk ha0).1 hq) hsame
        | false => rfl
      rcases findI_ok hk (n + 1) hm.2 (fun b hb => ha b (by simp [hb])) with ⟨h1, h3⟩ | ⟨j, y, e', h1, h3, h4, h5, h6⟩
      · refine .inl ⟨by simp [mfindI, hs, h1], ?_⟩
        intro e' he'
        rcases List.mem_cons.1 he' with rfl | he'
        · rw [hek]; exact fun q => hsame q.symm
        · exact h3 e' he'
      · refine .inr ⟨j + 1, y, e', by simp [mfindI, hs, h1]; omega, by simpa using h3, h4, h5, fun a ha e'' he'' => ?_⟩
        cases a with
        | zero => simp at he''; subst he''; rw [hek]; exact fun q => hsame q.symm
        | succ a => exact h6 a (by omega) e'' (by simpa using he'')
  | [], _ :: _, _, hm, _ => hm.elim
  | _ :: _, [], _, hm, _ => hm.elim
theorem run_zero {t : TypeId} {z : Value} (e : ((P.info? t).bind (·.zero)) = some z) : (zeroValue t).run P w = .ok z w := by
  obtain ⟨i, hi, hz⟩ := Option.bind_eq_some_iff.1 e
  simp [zeroValue, typeInfo, hi, hz]
theorem sim_lookup {t : TypeId} {m i v : V} {ok : Bool} {cm ci : Value} {e : H} (r : Rel η ro h w) (he : Go.Abs.lookup P t m i ok h idV = some (.ret v, e)) (hm : VRel η ro m cm) (hi : VRel η ro i ci) :
    ∃ cv, (Instr.lookup t cm ci ok).run P w = .ok cv w ∧ VRel η ro v cv := by
  unfold Go.Abs.lookup at he
  split at he
  · rename_i kt et hu
    rw [Option.bind_eq_some_iff] at he; obtain ⟨q, hq, he⟩ := he
    rw [Option.bind_eq_some_iff] at he; obtain ⟨key, hkey, he⟩ := he
    rw [Option.bind_eq_some_iff] at he; obtain ⟨z, hz, he⟩ := he
    obtain ⟨rfl, hk, hk1⟩ := keyOk_ok hkey
    have hci : key = ci := (rel_s hi).symm
    subst hci
    obtain ⟨d, hd, hdk⟩ := kkOf_ok hq
    split at he
    · rename_i hz1
      have go : ∀ (es : List (Value × F)) (ents : Array MapEntry), MRel ro es ents.toList → (∀ a ∈ es, IsKK q a.1) →
          (if ok then (match mfind key es with | some x => idV (.tup [.f x, B true]) | none => idV (.tup [vs z, B false])) else coeF z ((mfind key es).getD (.s z)) idV) = some (.ret v, e) →
          ∃ cv, ((do
            let (v, ok') ← match ← Instr.findKey kt key ents.toList with
              | some (_, v) => pure (v, true)
              | none => pure (← zeroValue et, false)
            pure (if ok then .tuple #[v, .bool ok'] else v) : Sem Value)).run P w = .ok cv w ∧ VRel η ro v cv := by
        intro es ents hmr hkk he
        rcases find_ok hdk hk 0 hmr hkk with ⟨h1, h2, h3⟩ | ⟨j, x, e', h1, h2, h3, h4, h5⟩
        · have hf := run_findKey (w := w) hd h2
          rw [h1] at he
          by_cases hok : ok = true
          · subst hok
            simp [idV] at he; obtain ⟨rfl, _⟩ := he
            exact ⟨.tuple #[z, .bool false], by simp [hf, run_zero hz], ⟨_, rfl, ⟨rel_s' hz1, rel_s' rfl, trivial⟩⟩⟩
          · have hok : ok = false := by simpa using hok
            subst hok
            simp at he
            exact ⟨z, by simp [hf, run_zero hz], coeF_rel he (⟨rfl, hz1⟩ : FRel ro (.s z) z)⟩
        · have hf := run_findKey (w := w) hd h2
          rw [h1] at he
          by_cases hok : ok = true
          · subst hok
            simp [idV] at he; obtain ⟨rfl, _⟩ := he
            exact ⟨.tuple #[e'.val, .bool true], by simp [hf], ⟨_, rfl, ⟨h4, rel_s' rfl, trivial⟩⟩⟩
          · have hok : ok = false := by simpa using hok
            subst hok
            simp at he
            exact ⟨e'.val, by simp [hf], coeF_rel he h4⟩
      have hck : ∀ b, (Instr.checkKey b (9999 + 1) kt key).run P w = .ok () w := fun b => run_checkKey hd (hdk _ hk) b 9999
      dsimp only at he
      cases m with
      | mp k =>
        dsimp only at he
        cases hes : h[k]? with
        | none => rw [hes] at he; cases he
        | some o =>
          rw [hes] at he
          cases o with
          | map q' es =>
            dsimp only at he
            by_cases hqq : q' = q
            · rw [if_pos hqq] at he
              subst hqq
              obtain ⟨b, h1, rfl⟩ := hm
              obtain ⟨ents, clock, h2, h3, h4⟩ := r.map h1 hes
              obtain ⟨cv, h5, h6⟩ := go es ents h3 h4 he
              refine ⟨cv, ?_, h6⟩
              rw [← h5]
              unfold Instr.lookup
              simp only [Sem.run_bind, run_ul hu, Result.andThen_ok, MapKept.run_getObj_map h2, Sem.run_pure, hck]
              rfl
            · rw [if_neg hqq] at he; cases he
          | cells _ => cases he
          | fz _ => cases he
          | dead => cases he
          | lent _ => cases he
      | f x =>
        cases x with
        | s y =>
          cases y with
          | map rr =>
            cases rr with
            | none =>
              have hcm : Value.map none = cm := (rel_s hm).symm
              subst hcm
              obtain ⟨cv, h5, h6⟩ := go [] #[] trivial (by simp) he
              refine ⟨cv, ?_, h6⟩
              rw [← h5]
              unfold Instr.lookup
              simp only [Sem.run_bind, run_ul hu, Result.andThen_ok, Sem.run_pure, hck]
              rfl
            | some _ => cases he
          | _ => cases he
        | _ => cases he
      | _ => cases he
    · cases he
  · cases he
end
end Go.Abs
