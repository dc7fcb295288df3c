/- Code, evaluated. -/
import Derived.Test.YtddbhljljmijcaaGreatRp
import Derived.Scope
import Derived.LoopNIn
namespace Go.Proofs.YtddbhljljmijcaaGreat.V
open Go.RowKit
set_option linter.unusedVariables false
set_option linter.unusedSimpArgs false
variable {P : Program}

section
variable {F : Fence} {n : Nat} {b : Frame} {a : Act} {k : List Item} {cs : List Frame} {w : World} {Q : Exit → Act → World → Prop}
theorem stepR_scope {c : Code} : step P (lone (b.atR a (.code (.scope c) :: k)) cs w) = .next (lone (b.atR a (.code c :: .inScope c :: k)) cs w) :=
  step_lone_go (by simp [stepG, stepG.exec, Frame.atR])
theorem stepR_inScope {c : Code} : step P (lone (b.atR a (.inScope c :: k)) cs w) = .next (lone (b.atR a k) cs w) :=
  step_lone_go (by simp [stepG, stepG.exec, Frame.atR])
theorem wpIn_scope_straight {c : Code} (h : c.wpIn F n P (Exit.noGoto Q) a w) : (Code.scope c).wpIn F n P Q a w := by
  intro b k cs hro hb hr
  have h0 : (lone (b.atR a (.code (.scope c) :: k)) cs w).fenced P F := fenced_calm hb hr rfl
  obtain ⟨e, a₁, w₁, hq, harr⟩ := h b (.inScope c :: k) cs hro hb hr
  cases e with
  | normal => exact ⟨.normal, a₁, w₁, hq, .head h0 stepR_scope (StepsIn.trans harr (.one (fenced_calm hb hr rfl) stepR_inScope))⟩
  | exit id =>
    have hx : exitTo id (.inScope c :: k) = exitTo id k := by simp [exitTo]
    exact ⟨.exit id, a₁, w₁, hq, fun k' hk => .head h0 stepR_scope (harr.1 k' (by rw [hx]; exact hk)), fun hr' hk => let ⟨k₁, h1, h2⟩ := harr.2 hr' (by rw [hx]; exact hk); ⟨k₁, h1, .head h0 stepR_scope h2⟩⟩
  | goto l => exact hq.elim
  | ret => exact ⟨_, a₁, w₁, hq, .of_steps (.one h0 stepR_scope) harr⟩
  | panic ch => exact ⟨_, a₁, w₁, hq, .of_steps (.one h0 stepR_scope) harr⟩
  | outgrown => exact ⟨_, a₁, w₁, hq, .of_steps (.one h0 stepR_scope) harr⟩
end

inductive Ex where
  | normal
  | exit (id : Nat)
  | ret
def Ex.out : Ex → Exit
  | .normal => .normal
  | .exit id => .exit id
  | .ret => .ret
abbrev XCode := Env → Heap → (Ex → Env → Heap → Bool) → Bool
def CodeS (P : Program) (n : Nat) (c : Code) (env : Env) (h : Heap) (e : Ex) (env' : Env) (h' : Heap) : Prop :=
  ∀ (F : Fence) (H : Nat) (W0 : World) (D : List Deferred) (ρ : Ren) (a : Act) (w : World) (Q : Exit → Act → World → Prop), Wide F → EnvR n D ρ env a → Rel H W0 ρ h w →
    (∀ a' w' ρ', Ext ρ h ρ' h' → Rel H W0 ρ' h' w' → EnvR n D ρ' env' a' → Q e.out a' w') → c.wpIn F 0 P Q a w
def Good (P : Program) (n : Nat) (c : Code) (X : XCode) : Prop := ∀ env h K, X env h K = true → ∃ e env' h', K e env' h' = true ∧ CodeS P n c env h e env' h'

def xSkip : XCode := fun env h K => K .normal env h
theorem good_skip (n : Nat) : Good P n .skip xSkip := fun env h K hk => ⟨.normal, env, h, hk, fun F H W0 D ρ a w Q hF hr hrel hQ => wpIn_skip (hQ a w ρ (Ext.refl _ _) hrel hr)⟩
theorem good_label (n l : Nat) : Good P n (.label l) xSkip := fun env h K hk => ⟨.normal, env, h, hk, fun F H W0 D ρ a w Q hF hr hrel hQ => wpIn_label (hQ a w ρ (Ext.refl _ _) hrel hr)⟩
def xExit (id : Nat) : XCode := fun env h K => K (.exit id) env h
theorem good_exit (n id : Nat) : Good P n (.exit id) (xExit id) := fun env h K hk => ⟨.exit id, env, h, hk, fun F H W0 D ρ a w Q hF hr hrel hQ => wpIn_exit (hQ a w ρ (Ext.refl _ _) hrel hr)⟩
def xRet : XCode := fun env h K => K .ret env h
theorem good_ret (n : Nat) : Good P n .ret xRet := fun env h K hk => ⟨.ret, env, h, hk, fun F H W0 D ρ a w Q hF hr hrel hQ => wpIn_ret (hQ a w ρ (Ext.refl _ _) hrel hr)⟩
/-- What is not reached. -/
def xBad : XCode := fun _ _ _ => false
theorem good_bad (n : Nat) (c : Code) : Good P n c xBad := fun _ _ _ hk => by cases hk
noncomputable def xSeq (X Y : XCode) : XCode := fun env h K => X env h (fun e env h => Ex.rec (motive := fun _ => Bool) (Y env h K) (fun id => K (.exit id) env h) (K .ret env h) e)
theorem good_seq {n : Nat} {x y : Code} {X Y : XCode} (hx : Good P n x X) (hy : Good P n y Y) : Good P n (.seq x y) (xSeq X Y) := by
  intro env h K hk
  obtain ⟨e, env1, h1, e1, e2⟩ := hx _ _ _ hk
  cases e with
  | normal =>
    obtain ⟨e, env2, h2, e3, e4⟩ := hy _ _ _ e1
    refine ⟨e, env2, h2, e3, fun F H W0 D ρ a w Q hF hr hrel hQ => wpIn_seq (e2 F H W0 D ρ a w _ hF hr hrel fun a1 w1 ρ1 hx1 hR1 hE1 => ?_)⟩
    exact e4 F H W0 D ρ1 a1 w1 Q hF hE1 hR1 fun a2 w2 ρ2 hx2 hR2 hE2 => hQ a2 w2 ρ2 (hx1.trans hx2) hR2 hE2
  | exit id => exact ⟨.exit id, env1, h1, e1, fun F H W0 D ρ a w Q hF hr hrel hQ => wpIn_seq (e2 F H W0 D ρ a w _ hF hr hrel fun a1 w1 ρ1 hx1 hR1 hE1 => hQ a1 w1 ρ1 hx1 hR1 hE1)⟩
  | ret => exact ⟨.ret, env1, h1, e1, fun F H W0 D ρ a w Q hF hr hrel hQ => wpIn_seq (e2 F H W0 D ρ a w _ hF hr hrel fun a1 w1 ρ1 hx1 hR1 hE1 => hQ a1 w1 ρ1 hx1 hR1 hE1)⟩
noncomputable def condK (v : AV) (y n : Bool) : Bool :=
  AV.rec (motive_1 := fun _ => Bool) (motive_2 := fun _ => Bool) (fun a => At.rec (motive_1 := fun _ => Bool) (motive_2 := fun _ => Bool) (fun b => sel b y n) (fun _ _ => false) (fun _ => false) false (fun _ _ => false) false false (fun _ _ _ _ _ _ => false) false (fun _ => false) false (fun _ _ _ _ _ => false) false (fun _ _ _ _ => false) a) (fun _ => false) (fun _ _ => false) false (fun _ => false) false (fun _ _ _ _ => false) v
theorem condK_sound {v : AV} {y n : Bool} (h : condK v y n = true) : ∃ q, v = .one (.bool q) ∧ (if q = true then y else n) = true := by
  cases v with
  | any => cases h
  | sym _ => cases h
  | agg l => cases h
  | tup l => cases h
  | one a =>
    cases a with
    | bool b => exact ⟨b, rfl, by rw [← sel_eq]; exact h⟩
    | _ => cases h
noncomputable def xCond (g : Get) (X Y : XCode) : XCode := fun env h K => g env (fun v => condK v (X env h K) (Y env h K))
theorem good_cond {n : Nat} {c : Operand} {g : Get} (hc : ArgG c g) {x y : Code} {X Y : XCode} (hx : Good P n x X) (hy : Good P n y Y) : Good P n (.cond c x y) (xCond g X Y) := by
  intro env h K hk
  have hk : g env (fun v => condK v (X env h K) (Y env h K)) = true := hk
  obtain ⟨v, h1, h2⟩ := hc env
  rw [h1] at hk
  obtain ⟨q, rfl, h3⟩ := condK_sound hk
  have hev : ∀ D ρ a, EnvR n D ρ env a → a.eval c = .bool q := fun D ρ a hr => by
    have := vinv (h2 n D ρ a hr)
    generalize a.eval c = V at this
    cases this
    rfl
  cases q with
  | true =>
    obtain ⟨e, env1, h1, e1, e2⟩ := hx _ _ _ h3
    exact ⟨e, env1, h1, e1, fun F H W0 D ρ a w Q hF hr hrel hQ => wpIn_cond_true (hev D ρ a hr) (e2 F H W0 D ρ a w Q hF hr hrel hQ)⟩
  | false =>
    obtain ⟨e, env1, h1, e1, e2⟩ := hy _ _ _ h3
    exact ⟨e, env1, h1, e1, fun F H W0 D ρ a w Q hF hr hrel hQ => wpIn_cond_false (hev D ρ a hr) (e2 F H W0 D ρ a w Q hF hr hrel hQ)⟩
noncomputable def xBlock (id : Nat) (X : XCode) : XCode := fun env h K => X env h (fun e env h => Ex.rec (motive := fun _ => Bool) (K .normal env h) (fun i => sel (Nat.beq i id) (K .normal env h) (K (.exit i) env h)) (K .ret env h) e)
theorem good_block {n id : Nat} {x : Code} {X : XCode} (hx : Good P n x X) : Good P n (.block id x) (xBlock id X) := by
  intro env h K hk
  obtain ⟨e, env1, h1, e1, e2⟩ := hx _ _ _ hk
  cases e with
  | normal => exact ⟨.normal, env1, h1, e1, fun F H W0 D ρ a w Q hF hr hrel hQ => wpIn_block (e2 F H W0 D ρ a w _ hF hr hrel fun a1 w1 ρ1 hx1 hR1 hE1 => hQ a1 w1 ρ1 hx1 hR1 hE1)⟩
  | ret => exact ⟨.ret, env1, h1, e1, fun F H W0 D ρ a w Q hF hr hrel hQ => wpIn_block (e2 F H W0 D ρ a w _ hF hr hrel fun a1 w1 ρ1 hx1 hR1 hE1 => hQ a1 w1 ρ1 hx1 hR1 hE1)⟩
  | exit i =>
    have e1 : sel (Nat.beq i id) (K .normal env1 h1) (K (.exit i) env1 h1) = true := e1
    rw [sel_eq] at e1
    by_cases hi : i = id
    · rw [if_pos (by simpa using hi)] at e1
      exact ⟨.normal, env1, h1, e1, fun F H W0 D ρ a w Q hF hr hrel hQ => wpIn_block (e2 F H W0 D ρ a w _ hF hr hrel fun a1 w1 ρ1 hx1 hR1 hE1 => by
        simp only [Ex.out, Exit.inBlock, hi, if_true]
        exact hQ a1 w1 ρ1 hx1 hR1 hE1)⟩
    · rw [if_neg (by simpa using hi)] at e1
      exact ⟨.exit i, env1, h1, e1, fun F H W0 D ρ a w Q hF hr hrel hQ => wpIn_block (e2 F H W0 D ρ a w _ hF hr hrel fun a1 w1 ρ1 hx1 hR1 hE1 => by
        simp only [Ex.out, Exit.inBlock, hi, if_false]
        exact hQ a1 w1 ρ1 hx1 hR1 hE1)⟩
theorem good_scope {n : Nat} {x : Code} {X : XCode} (hx : Good P n x X) : Good P n (.scope x) X := by
  intro env h K hk
  obtain ⟨e, env1, h1, e1, e2⟩ := hx _ _ _ hk
  refine ⟨e, env1, h1, e1, fun F H W0 D ρ a w Q hF hr hrel hQ => wpIn_scope_straight (e2 F H W0 D ρ a w _ hF hr hrel fun a1 w1 ρ1 hx1 hR1 hE1 => ?_)⟩
  have := hQ a1 w1 ρ1 hx1 hR1 hE1
  cases e <;> exact this

/-! ### Loops -/
noncomputable def xLoop (fuel : Nat) (X : XCode) : XCode :=
  Nat.rec (motive := fun _ => XCode) (fun _ _ _ => false) (fun _ ih env h K => X env h (fun e env h => Ex.rec (motive := fun _ => Bool) (ih env h K) (fun id => K (.exit id) env h) (K .ret env h) e)) fuel
theorem good_loop {n : Nat} {x : Code} {X : XCode} (hx : Good P n x X) (fuel : Nat) : Good P n (.loop x) (xLoop fuel X) := by
  have key : ∀ (fuel : Nat) env h K, xLoop fuel X env h K = true → ∃ e env' h', K e env' h' = true ∧ ∀ (F : Fence) (H : Nat) (W0 : World) (D : List Deferred) (ρ : Ren) (a : Act) (w : World) (Q : Exit → Act → World → Prop), Wide F → EnvR n D ρ env a → Rel H W0 ρ h w →
      (∀ a' w' ρ', Ext ρ h ρ' h' → Rel H W0 ρ' h' w' → EnvR n D ρ' env' a' → Q e.out a' w') → Code.roundsIn F 0 P x Q fuel a w := by
    intro fuel
    induction fuel with
    | zero => intro env h K hk; cases hk
    | succ f ih =>
      intro env h K hk
      have hk : X env h (fun e env h => Ex.rec (motive := fun _ => Bool) (xLoop f X env h K) (fun id => K (.exit id) env h) (K .ret env h) e) = true := hk
      obtain ⟨e, env1, h1, e1, e2⟩ := hx _ _ _ hk
      cases e with
      | normal =>
        obtain ⟨e, env2, h2, e3, e4⟩ := ih env1 h1 K e1
        refine ⟨e, env2, h2, e3, fun F H W0 D ρ a w Q hF hr hrel hQ => ?_⟩
        refine e2 F H W0 D ρ a w _ hF hr hrel fun a1 w1 ρ1 hx1 hR1 hE1 => ?_
        exact e4 F H W0 D ρ1 a1 w1 Q hF hE1 hR1 fun a2 w2 ρ2 hx2 hR2 hE2 => hQ a2 w2 ρ2 (hx1.trans hx2) hR2 hE2
      | exit id => exact ⟨.exit id, env1, h1, e1, fun F H W0 D ρ a w Q hF hr hrel hQ => e2 F H W0 D ρ a w _ hF hr hrel fun a1 w1 ρ1 hx1 hR1 hE1 => hQ a1 w1 ρ1 hx1 hR1 hE1⟩
      | ret => exact ⟨.ret, env1, h1, e1, fun F H W0 D ρ a w Q hF hr hrel hQ => e2 F H W0 D ρ a w _ hF hr hrel fun a1 w1 ρ1 hx1 hR1 hE1 => hQ a1 w1 ρ1 hx1 hR1 hE1⟩
  intro env h K hk
  obtain ⟨e, env', h', h1, h2⟩ := key fuel env h K hk
  exact ⟨e, env', h', h1, fun F H W0 D ρ a w Q hF hr hrel hQ => wpIn_loop_rounds fuel (h2 F H W0 D ρ a w Q hF hr hrel hQ)⟩

/-! ### Regions that run in their own order -/
noncomputable def xReg (rx : RX) : XCode := fun env h K => rx env h (fun env' h' => K .normal env' h')
theorem good_reg {n id : Nat} {ops : Array Oper} {rx : RX} (hs : ROk P ops n ops.toList rx) (hl : ∀ o ∈ ops.toList, ltO n o) : Good P n (.region id ops false) (xReg rx) := by
  intro env h K hk
  obtain ⟨env', h', e1, e2⟩ := hs hl env h _ hk
  refine ⟨.normal, env', h', e1, fun F H W0 D ρ a w Q hF hr hrel hQ => wpIn_region ?_⟩
  have := e2 0 (fun j o q => by simpa using q) F H W0 D ρ a w Q hF hr hrel hQ
  rw [List.range_eq_range']
  simpa using this
end Go.Proofs.YtddbhljljmijcaaGreat.V
