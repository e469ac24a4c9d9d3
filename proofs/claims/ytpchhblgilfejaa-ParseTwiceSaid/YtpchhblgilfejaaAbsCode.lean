/-
  Code: regions, cuts, loops. (A loop's and a call's own steps are handed in.)
-/
import Derived.Test.YtpchhblgilfejaaAbsDraw
set_option autoImplicit false
set_option linter.unusedVariables false
set_option linter.unusedSimpArgs false
namespace Go.Abs
open Go

/-- what is next -/
structure KSim (N : Nat) (ds : List Deferred) (K0 : K) (Q : Exit → Act → World → Prop) (out : Out × H) (Inv : Et → Ro → H → World → Prop) : Prop where
  normal : ∀ {fr h η ro a w}, K0 .normal fr h = some out → FrRel N ds η ro fr a → Rel η ro h w → Inv η ro h w → Q .normal a w
  ret : ∀ {fr h η ro a w}, K0 .ret fr h = some out → FrRel N ds η ro fr a → Rel η ro h w → Inv η ro h w → Q .ret a w
  exit : ∀ {i fr h η ro a w}, K0 (.exit i) fr h = some out → FrRel N ds η ro fr a → Rel η ro h w → Inv η ro h w → Q (.exit i) a w
  pan : ∀ {v fr h η ro w} {a : Act} {cv}, K0 (.pan v) fr h = some out → FrRel N ds η ro fr a → Rel η ro h w → Inv η ro h w → VRel η ro v cv → Q (.panic [{ v := cv, recovered := false }]) a w
/-- cuts change nothing of the machine -/
def CutOk (N : Nat) (ds : List Deferred) (an : Ann) (Inv : Et → Ro → H → World → Prop) : Prop :=
  ∀ {p fr h k kj out η ro a w}, cut an p fr h k kj = some out → FrRel N ds η ro fr a → Rel η ro h w → Inv η ro h w →
    ∃ fr' h' η' ro', (k fr' h' = some out ∨ kj fr' h' = some out) ∧ FrRel N ds η' ro' fr' a ∧ Rel η' ro' h' w ∧ Inv η' ro' h' w
def LoopWp (P : Program) (c : Code) (Q : Exit → Act → World → Prop) (a : Act) (w : World) : Prop :=
  ∀ (b : Frame) (k : List Item) (cs : List Frame), ∃ e a' w', Q e a' w' ∧ Arrives P (lone (b.at a (.code c :: .inLoop c :: k)) cs w) b k cs e a' w'
theorem LoopWp.of {P : Program} {c : Code} {Q : Exit → Act → World → Prop} {a : Act} {w : World} (h : c.wp P (Exit.then (LoopWp P c Q) Q) a w) : LoopWp P c Q a w := by
  intro b k cs
  obtain ⟨e, a₁, w₁, hq, harr⟩ := h b (.inLoop c :: k) cs
  cases e with
  | normal =>
    obtain ⟨e₂, a₂, w₂, hq₂, harr₂⟩ := hq b k cs
    exact ⟨e₂, a₂, w₂, hq₂, .of_steps (Steps.trans harr (.one step_inLoop)) harr₂⟩
  | exit id => exact ⟨_, a₁, w₁, hq, .pass (x := .inLoop c) rfl (fun _ _ => .inl (by simp)) harr⟩
  | goto l => exact ⟨_, a₁, w₁, hq, .pass (x := .inLoop c) rfl (fun _ _ => .inl (by simp)) harr⟩
  | ret => exact ⟨_, a₁, w₁, hq, .pass (x := .inLoop c) rfl (fun _ _ => .inl (by simp)) harr⟩
  | panic ch => exact ⟨_, a₁, w₁, hq, .pass (x := .inLoop c) rfl (fun _ _ => .inl (by simp)) harr⟩
  | outgrown => exact ⟨_, a₁, w₁, hq, .pass (x := .inLoop c) rfl (fun _ _ => .inl (by simp)) harr⟩
theorem LoopWp.wp {P : Program} {c : Code} {Q : Exit → Act → World → Prop} {a : Act} {w : World} (h : LoopWp P c Q a w) : (Code.loop c).wp P Q a w := by
  intro b k cs
  obtain ⟨e, a', w', hq, harr⟩ := h b k cs
  exact ⟨e, a', w', hq, .of_steps (.one step_loop) harr⟩
def JpWp (P : Program) (Q : Exit → Act → World → Prop) (a : Act) (w : World) : Jp → Prop
  | .loop b => LoopWp P b Q a w
  | .code c => c.wp P Q a w
  | .ops all i => wpOps P all Q (List.range' i (all.size - i)) a w
def LoopSim (P : Program) (L : LF) : Prop :=
  ∀ {N ds an lit j p K0 fr h out Q Inv η ro a w}, Keeps Inv → CutOk N ds an Inv → KSim N ds K0 Q out Inv → L N an lit j p K0 fr h = some out → FrRel N ds η ro fr a → Rel η ro h w → Inv η ro h w → JpWp P Q a w j

section
variable {ds : List Deferred} {cx : Cx} {out : Out × H} {Q : Exit → Act → World → Prop} {Inv : Et → Ro → H → World → Prop}

theorem mk_map1 {η : Et} {ro : Ro} (fr : Fr) {g : Nat → Value} (f : ∀ i, VRel η ro (fr i) (g i)) : ∀ (l : List Nat) (i : Nat), VRel η ro (mk (l.map fun j => (j, fr j)) i) (g i)
  | [], i => trivial
  | x :: l, i => by
    by_cases hk : i = x
    · subst hk
      have : mk ((i :: l).map fun j => (j, fr j)) i = fr i := by simp [mk]
      rw [this]; exact f _
    · have : mk ((x :: l).map fun j => (j, fr j)) i = mk (l.map fun j => (j, fr j)) i := by simp [mk, List.lookup, beq_eq_false_iff_ne.2 hk]
      rw [this]; exact mk_map1 fr f l i
theorem ops_ok {p : Nat} (hc : CallSim cx.P cx.call) (hpo : CallPol cx.po cx.call) (hL : LoopSim cx.P cx.L) (hI : Keeps Inv) (hcut : CutOk cx.N ds cx.an Inv) {all : Array Oper} {K0 : K} (hk : KSim cx.N ds K0 Q out Inv) :
    ∀ (rest : List Oper) (i : Nat), all.toList.drop i = rest → ∀ {fr h η ro a w}, cx.ops all K0 p i rest fr h = some out → FrRel cx.N ds η ro fr a → Rel η ro h w → Inv η ro h w → wpOps cx.P all Q (List.range' i rest.length) a w
  | [], i, hd, fr, h, η, ro, a, w, he, f, r, inv => hk.normal he f r inv
  | o :: rest, i, hd, fr, h, η, ro, a, w, he, f, r, inv => by
    have ho : all[i]? = some o := by
      have : (all.toList.drop i)[0]? = some o := by rw [hd]; rfl
      simpa using this
    have hd' : all.toList.drop (i + 1) = rest := by
      rw [← List.drop_drop, hd]; rfl
    rw [List.length_cons, List.range'_succ]
    simp only [wpOps, ho]
    unfold Cx.ops at he
    split at he
    rotate_left
    · cases he
    rename_i hdst
    have hno : ∀ {fr' : Fr}, FrRel cx.N ds η ro fr' a → cx.ops all K0 p (i + 1) rest (Go.Abs.put fr' o.dst .un) h = some out → wpOps cx.P all Q (List.range' (i + 1) rest.length) (a.put o.dst undef) w := fun f' he' =>
      ops_ok hc hpo hL hI hcut hk rest (i + 1) hd' he' (f'.put hdst (Et.le_refl _) (Ro.le_refl _) (show VRel η ro .un undef from rfl)) r inv
    have hgo : ∀ {fr' : Fr}, FrRel cx.N ds η ro fr' a → cx.exec o fr' h (fun v h => cx.cutO all K0 p i (Go.Abs.put fr' o.dst v) h (cx.ops all K0 p (i + 1) rest)) (fun v h => K0 (.pan v) fr' h) = some out → o.wp cx.P a w (wpOps cx.P all Q (List.range' (i + 1) rest.length)) Q := fun {fr'} f' he' => by
      rw [exec_nat] at he'
      cases hx : cx.exec o fr' h idK idP with
      | none => rw [hx] at he'; cases he'
      | some q =>
        obtain ⟨u, h1⟩ := q
        rw [hx] at he'
        refine exec_ok hc hpo r f' hx ?_ ?_
        · rintro η' ro' w' v cv rfl r' s hv
          have he3 : cx.cutO all K0 p i (Go.Abs.put fr' o.dst v) h1 (cx.ops all K0 p (i + 1) rest) = some out := he'
          have f2 := f'.put hdst (s.le r) s.rol hv
          unfold Cx.cutO at he3
          split at he3
          · exact ops_ok hc hpo hL hI hcut hk rest (i + 1) hd' he3 f2 r' (hI.step inv r s)
          · rename_i l hl
            have f3 : FrRel cx.N ds η' ro' (Go.Abs.mk (l.map fun j => (j, Go.Abs.put fr' o.dst v j))) (a.put o.dst cv) := ⟨f2.size, mk_map1 _ f2.at_ _, f2.defers, f2.glob⟩
            have := hL hI hcut hk he3 f3 r' (hI.step inv r s)
            have hlen : all.size - (i + 1) = rest.length := by
              have := congrArg List.length hd'
              simpa using this
            simp only [JpWp, hlen] at this
            exact this
        · rintro η' ro' w' v cv rfl r' s hv
          exact hk.pan he' (f'.mono (s.le r) s.rol) r' (hI.step inv r s) hv
    dsimp only at he
    split at he
    · rename_i hg
      have hw : Region.wanted o (yielded all a.tmps) = true := by simp [Region.wanted, hg]
      rw [if_pos hw]
      exact .inl (hgo f he)
    · rename_i j want hg
      split at he
      · rename_i hj
        have hy : yielded all a.tmps j = none := by unfold yielded; unfold dstOf at hj; rw [hj]; rfl
        have hw : Region.wanted o (yielded all a.tmps) = false := by simp [Region.wanted, hg, hy]
        rw [hw, if_neg (by simp)]
        exact hno f he
      · rename_i d hj
        split at he
        · rename_i b hb
          have hy := yielded_at f hj hb
          split at he
          · rename_i hbw
            have hw : Region.wanted o (yielded all a.tmps) = true := by simp [Region.wanted, hg, hy, hbw]
            rw [if_pos hw]
            exact .inl (hgo (f.lit hb hbw.symm) he)
          · rename_i hbw
            have hw : Region.wanted o (yielded all a.tmps) = false := by simp [Region.wanted, hg, hy, hbw]
            rw [hw, if_neg (by simp)]
            refine hno (f.lit hb ?_) he
            cases b <;> cases want <;> simp_all
        · rename_i hb
          have hy := yielded_un f hj hb
          have hw : Region.wanted o (yielded all a.tmps) = false := by simp [Region.wanted, hg, hy]
          rw [hw, if_neg (by simp)]
          exact hno f he
        · cases he

/-- Code. -/
theorem code_ok (hc : CallSim cx.P cx.call) (hpo : CallPol cx.po cx.call) (hL : LoopSim cx.P cx.L) (hI : Keeps Inv) (hcut : CutOk cx.N ds cx.an Inv) :
    ∀ (c : Code) {p : Nat} {K0 : K} {Q : Exit → Act → World → Prop} {fr h η ro a w}, KSim cx.N ds K0 Q out Inv → code cx c p K0 fr h = some out → FrRel cx.N ds η ro fr a → Rel η ro h w → Inv η ro h w → c.wp cx.P Q a w := by
  intro c
  induction c with
  | skip => intro p K0 Q fr h η ro a w hk he f r inv; exact wp_skip (hk.normal he f r inv)
  | region id all draw =>
    intro p K0 Q fr h η ro a w hk he f r inv
    unfold code at he
    split at he
    · rename_i hd
      have hd' : draw = true := by simpa using hd
      subst hd'
      exact draw_ok hc hpo hI (fun e f r i => hk.normal e f r i) (fun e d r i v => hk.pan e d r i v) he f r inv
    · rename_i hd
      have hd' : draw = false := by simpa using hd
      subst hd'
      have := ops_ok (p := p) (Q := Q) hc hpo hL hI hcut hk all.toList 0 (by simp) he f r inv
      apply wp_region
      rw [List.range_eq_range']
      simpa using this
  | seq x y ihx ihy =>
    intro p K0 Q fr h η ro a w hk he f r inv
    unfold code at he
    refine wp_seq (ihx ?_ he f r inv)
    refine ⟨fun e f r i => ?_, fun e f r i => ?_, fun e f r i => ?_, fun e d r i v => ?_⟩
    · obtain ⟨fr', h', η', ro', h1, h2, h3, h4⟩ := hcut e f r i
      rcases h1 with h1 | h1
      · exact ihy hk h1 h2 h3 h4
      · exact hL hI hcut hk h1 h2 h3 h4
    · exact hk.ret e f r i
    · exact hk.exit e f r i
    · exact hk.pan e d r i v
  | cond c x y ihx ihy =>
    intro p K0 Q fr h η ro a w hk he f r inv
    unfold code at he
    have hv := f.ev (cx := cx) c
    by_cases htf : cx.ev fr c = .tf
    · rw [htf] at hv he
      obtain ⟨b, hb⟩ := hv
      obtain ⟨e1, e2⟩ := both_spec he
      refine wp_cond_split hb (fun _ => ?_) (fun _ => ?_)
      · obtain ⟨fr', h', η', ro', h1, h2, h3, h4⟩ := hcut e1 f r inv
        rcases h1 with h1 | h1
        · exact ihx hk h1 h2 h3 h4
        · exact hL hI hcut hk h1 h2 h3 h4
      · obtain ⟨fr', h', η', ro', h1, h2, h3, h4⟩ := hcut e2 f r inv
        rcases h1 with h1 | h1
        · exact ihy hk h1 h2 h3 h4
        · exact hL hI hcut hk h1 h2 h3 h4
    replace he : ((V.bool? (cx.ev fr c)).bind fun q => if q then cut cx.an (2 * p) fr h (code cx x (2 * p) K0) (cx.go (.code x) (2 * p) K0) else cut cx.an (2 * p + 1) fr h (code cx y (2 * p + 1) K0) (cx.go (.code y) (2 * p + 1) K0)) = some out := by
      revert he htf
      generalize cx.ev fr c = z
      intro he htf
      cases z <;> first | exact absurd rfl htf | exact he
    rw [Option.bind_eq_some_iff] at he; obtain ⟨q, hq, he⟩ := he
    rw [V.bool?_eq] at hq
    rw [hq] at hv
    have hb : a.eval c = .bool q := rel_s hv
    refine wp_cond_split hb ?_ ?_
    · rintro rfl
      rw [if_pos rfl] at he
      obtain ⟨fr', h', η', ro', h1, h2, h3, h4⟩ := hcut he f r inv
      rcases h1 with h1 | h1
      · exact ihx hk h1 h2 h3 h4
      · exact hL hI hcut hk h1 h2 h3 h4
    · rintro rfl
      rw [if_neg (by simp)] at he
      obtain ⟨fr', h', η', ro', h1, h2, h3, h4⟩ := hcut he f r inv
      rcases h1 with h1 | h1
      · exact ihy hk h1 h2 h3 h4
      · exact hL hI hcut hk h1 h2 h3 h4
  | block id b ih =>
    intro p K0 Q fr h η ro a w hk he f r inv
    unfold code at he
    refine wp_block (ih ?_ he f r inv)
    refine ⟨fun e f r i => hk.normal e f r i, fun e f r i => hk.ret e f r i, fun {i} {_ _ _ _ _ _} e f r iv => ?_, fun e d r i v => hk.pan e d r i v⟩
    simp only [blockK] at e
    simp only [Exit.inBlock]
    split at e
    · rename_i hi; rw [if_pos hi]; exact hk.normal e f r iv
    · rename_i hi; rw [if_neg hi]; exact hk.exit e f r iv
  | loop b ih =>
    intro p K0 Q fr h η ro a w hk he f r inv
    unfold code at he
    obtain ⟨fr', h', η', ro', h1, h2, h3, h4⟩ := hcut he f r inv
    have h1 : cx.go (.loop b) p K0 fr' h' = some out := h1.elim id id
    exact LoopWp.wp (hL hI hcut hk h1 h2 h3 h4)
  | exit id => intro p K0 Q fr h η ro a w hk he f r inv; exact wp_exit (hk.exit he f r inv)
  | ret => intro p K0 Q fr h η ro a w hk he f r inv; exact wp_ret (hk.ret he f r inv)
  | _ => intro p K0 Q fr h η ro a w hk he f r inv; simp [code] at he
end

/-- One more level of loops. -/
theorem runL_ok {P : Program} {po : FuncId → Pol} {call : CallF} {L : LF} (hc : CallSim P call) (hp : CallPol po call) (hL : LoopSim P L) : LoopSim P (runL P po call L) := by
  intro N ds an lit j p K0 fr h out Q Inv η ro a w hI hcut hk he f r inv
  unfold runL at he
  cases j with
  | loop b =>
    refine LoopWp.of (code_ok (cx := { P, N, an, lit, call, L, po }) hc hp hL hI hcut b ?_ he f r inv)
    refine ⟨fun e f r i => ?_, fun e f r i => hk.ret e f r i, fun e f r i => hk.exit e f r i, fun e d r i v => hk.pan e d r i v⟩
    obtain ⟨fr', h', η', ro', h1, h2, h3, h4⟩ := hcut e f r i
    have h1 : L N an lit (.loop b) p K0 fr' h' = some out := h1.elim id id
    exact hL hI hcut hk h1 h2 h3 h4
  | code c => exact code_ok (cx := { P, N, an, lit, call, L, po }) hc hp hL hI hcut c hk he f r inv
  | ops all i =>
    have := ops_ok (cx := { P, N, an, lit, call, L, po }) (p := p) hc hp hL hI hcut hk (all.toList.drop i) i rfl he f r inv
    simpa [JpWp] using this
end Go.Abs
