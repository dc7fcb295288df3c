/- A function in pieces. -/
import Derived.Test.YtddbhljljmijcaaGreatTh
import Derived.Test.YtddbhljljmijcaaGreatSi
namespace Go.Proofs.YtddbhljljmijcaaGreat.V
open Go.RowKit Go.Proofs Go.Proofs.Tryz
set_option linter.unusedVariables false
set_option linter.unusedSimpArgs false

/-! ### Frames that are one -/
theorem EnvR.fewer {n : Nat} {D : List Deferred} {ρ : Ren} {E E' : Env} {a : Act} (h : EnvR n D ρ E a) (hs : ∀ t, (E'.slot t).isAny = false → E.slot t = E'.slot t) : EnvR n D ρ E' a := by
  refine ⟨h.size, h.defers, fun t e => ?_⟩
  have q := hs t e
  obtain ⟨V, e1, e2⟩ := h.get t (by rw [q]; exact e)
  exact ⟨V, e1, by rw [← q]; exact e2⟩
theorem slot_big (E : Env) {t : Nat} (h : 156 ≤ t) : E.slot t = .any := by
  unfold Env.slot
  have h1 : 13 ≤ t / 12 := by omega
  generalize t / 12 = q at h1
  have e1 : E.row q = eRow := by
    cases E
    match q, h1 with
    | q + 13, _ => rfl
  rw [e1]
  have : t % 12 < 12 := Nat.mod_lt _ (by decide)
  generalize t % 12 = k at this
  rcases k with _|_|_|_|_|_|_|_|_|_|_|_|k <;> first | rfl | omega
def sameEnv (pl : List Nat) (E2 E : Env) : Bool := (List.range 156).all fun t => sameV pl (E2.slot t) (E.slot t)
theorem sameEnv_rel {pl : List Nat} {n : Nat} {D : List Deferred} {ρ : Ren} {E2 E : Env} {a : Act} (hs : sameEnv pl E2 E = true) (h : EnvR n D ρ E a) : EnvR n D (renOf pl ρ) E2 a := by
  refine ⟨h.size, h.defers, fun t e => ?_⟩
  have ht : t < 156 := by
    rcases Nat.lt_or_ge t 156 with q | q
    · exact q
    · rw [slot_big _ q] at e; cases e
  simp only [sameEnv, List.all_eq_true] at hs
  have hv := hs t (by simpa using ht)
  have hna : (E.slot t).isAny = false := by
    cases q : E.slot t with
    | any => rw [q] at hv; cases q2 : E2.slot t <;> rw [q2] at hv e <;> first | (cases e; done) | (simp [sameV] at hv; done)
    | _ => rfl
  obtain ⟨V, e1, e2⟩ := h.get t hna
  exact ⟨V, e1, sameV_rel hv e2⟩

/-! ### Codes in a row -/
inductive GoodL : List Code → List XCode → Prop
  | nil : GoodL [] []
  | cons {x : Code} {X : XCode} {l : List Code} {L : List XCode} (hx : Good Pg 146 x X) (t : GoodL l L) : GoodL (x :: l) (X :: L)
def chain : List Code → Code → Code
  | [], c => c
  | x :: l, c => .seq x (chain l c)
noncomputable def xChain : List XCode → XCode
  | [] => xSkip
  | X :: L => xSeq X (xChain L)
theorem chain_good {l : List Code} {L : List XCode} (hl : GoodL l L) : ∀ env h K, xChain L env h K = true → ∃ e env' h', K e env' h' = true ∧ (e = .normal → ∀ (F : Fence) (H : Nat) (W0 : World) (D : List Deferred) (ρ : Ren) (a : Act) (w : World) (Q : Exit → Act → World → Prop) (c : Code), Wide F → EnvR 146 D ρ env a → Rel H W0 ρ h w →
    (∀ a' w' ρ', Ext ρ h ρ' h' → Rel H W0 ρ' h' w' → EnvR 146 D ρ' env' a' → c.wpIn F 0 Pg Q a' w') → (chain l c).wpIn F 0 Pg Q a w) := by
  induction hl with
  | nil => intro env h K hk; exact ⟨.normal, env, h, hk, fun _ F H W0 D ρ a w Q c hF hr hrel hQ => hQ a w ρ (Ext.refl _ _) hrel hr⟩
  | cons hx t ih =>
    rename_i x X l L
    intro env h K hk
    have hk : X env h (fun e env h => Ex.rec (motive := fun _ => Bool) (xChain L env h K) (fun id => K (.exit id) env h) (K .ret env h) e) = true := hk
    obtain ⟨e, env1, h1, e1, e2⟩ := hx _ _ _ hk
    cases e with
    | normal =>
      obtain ⟨e, env2, h2, e3, e4⟩ := ih env1 h1 K e1
      refine ⟨e, env2, h2, e3, fun he F H W0 D ρ a w Q c hF hr hrel hQ => wpIn_seq (e2 F H W0 D ρ a w _ hF hr hrel fun a1 w1 ρ1 hx1 hR1 hE1 => ?_)⟩
      exact e4 he F H W0 D ρ1 a1 w1 Q c hF hE1 hR1 fun a2 w2 ρ2 hx2 hR2 hE2 => hQ a2 w2 ρ2 (hx1.trans hx2) hR2 hE2
    | exit id => exact ⟨.exit id, env1, h1, e1, fun he => by cases he⟩
    | ret => exact ⟨.ret, env1, h1, e1, fun he => by cases he⟩
/-- Only if it goes on. -/
noncomputable def onK (fin : Env → Heap → Bool) : Ex → Env → Heap → Bool := fun e env h => Ex.rec (motive := fun _ => Bool) (fin env h) (fun _ => false) false e
theorem onK_sound {fin : Env → Heap → Bool} {e : Ex} {env : Env} {h : Heap} (hk : onK fin e env h = true) : e = .normal ∧ fin env h = true := by
  cases e with
  | normal => exact ⟨rfl, hk⟩
  | exit id => cases hk
  | ret => cases hk
noncomputable def retK (fin : Env → Heap → Bool) : Ex → Env → Heap → Bool := fun e env h => Ex.rec (motive := fun _ => Bool) false (fun _ => false) (fin env h) e
theorem retK_sound {fin : Env → Heap → Bool} {e : Ex} {env : Env} {h : Heap} (hk : retK fin e env h = true) : e = .ret ∧ fin env h = true := by
  cases e with
  | normal => cases hk
  | exit id => cases hk
  | ret => exact ⟨rfl, hk⟩

/-! ### What is safe from here -/
def Fin (H : Nat) (W0 : World) : Exit → Act → World → Prop := fun e a w => e = .ret ∧ ∃ env h ρ, EnvR 146 [] ρ env a ∧ Rel H W0 ρ h w ∧ env.slot 4 = .one (.bool true)
/-- The second argument is a number that is not known yet. -/
def Safe (c : Code) (E : Env) (S : Heap) : Prop := ∀ (r : Nat), r ≤ 20 → ∀ (F : Fence) (H : Nat) (W0 : World) (ρ : Ren) (a : Act) (w : World), Wide F → EnvR 146 [] ρ E a → Rel H W0 ρ S w → ρ 0 = .val (.int .i64 (.ofNat r)) → c.wpIn F 0 Pg (Fin H W0) a w
theorem val_le {ρ ρ' : Ren} {h h' : Heap} (hx : Ext ρ h ρ' h') {V : Value} (h0 : ρ 0 = .val V) : ρ' 0 = .val V := by
  have := hx.le 0
  rw [h0] at this
  exact this
theorem safe_chain {l : List Code} {L : List XCode} (hl : GoodL l L) {c : Code} {E : Env} {S : Heap} (fin : Env → Heap → Bool) (hk : xChain L E S (onK fin) = true) (hs : ∀ E' S', fin E' S' = true → Safe c E' S') : Safe (chain l c) E S := by
  obtain ⟨e, E', S', h1, h2⟩ := chain_good hl _ _ _ hk
  obtain ⟨he, h1⟩ := onK_sound h1
  intro r hr F H W0 ρ a w hF hE hR h0
  exact h2 he F H W0 [] ρ a w _ c hF hE hR fun a' w' ρ' hx hR' hE' => hs E' S' h1 r hr F H W0 ρ' a' w' hF hE' hR' (val_le hx h0)
/-- The state is this one, but for the blocks' numbers. -/
noncomputable def isState (pl : List Nat) (E2 : Env) (S2 : Heap) (E : Env) (S : Heap) : Bool := sameEnv pl E2 E && (sameH pl S2 S && (distinct pl && (Nat.beq S2.next pl.length && isAt pl 0 0)))
theorem safe_same {pl : List Nat} {E2 E : Env} {S2 S : Heap} (h : isState pl E2 S2 E S = true) {c : Code} (hs : Safe c E2 S2) : Safe c E S := by
  simp only [isState, Bool.and_eq_true] at h
  obtain ⟨h1, h2, h3, h4, h5⟩ := h
  intro r hr F H W0 ρ a w hF hE hR h0
  have h0' : renOf pl ρ 0 = .val (.int .i64 (.ofNat r)) := by rw [renOf_at h5, h0]
  exact hs r hr F H W0 _ a w hF (sameEnv_rel h1 hE) (same_rel h2 h3 h4 h0' hR) h0'
end Go.Proofs.YtddbhljljmijcaaGreat.V

/- works() answers true. -/
namespace Go.Proofs.YtddbhljljmijcaaGreat.V
open Go.RowKit Go.Proofs Go.Proofs.Tryz
set_option linter.unusedVariables false
set_option maxRecDepth 1000000
theorem works : (g6.1 [] ⟨.leaf, 0⟩ (fun v _ => isTrue v)) = true := by decide +kernel
theorem h6x : FnGood Pg 6 xTrue := closed_good rfl h6 works
end Go.Proofs.YtddbhljljmijcaaGreat.V
