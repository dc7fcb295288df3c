/- The frame behind its slots; operands; regions that run in their own order. -/
import Derived.Test.YtddbhljljmijcaaGreatRoe
namespace Go.Proofs.YtddbhljljmijcaaGreat.V
open Go.RowKit
set_option linter.unusedVariables false
set_option linter.unusedSimpArgs false
variable {P : Program}

structure EnvR (n : Nat) (D : List Deferred) (ρ : Ren) (env : Env) (a : Act) : Prop where
  size : a.tmps.size = n
  defers : a.defers = D
  get : ∀ t, (env.slot t).isAny = false → ∃ V, a.tmps[t]? = some V ∧ VRel ρ (env.slot t) V
theorem EnvR.mono {n : Nat} {D : List Deferred} {ρ ρ' : Ren} {env : Env} {a : Act} (h : EnvR n D ρ env a) (hl : Ren.le ρ ρ') : EnvR n D ρ' env a :=
  ⟨h.size, h.defers, fun t e => let ⟨V, h1, h2⟩ := h.get t e; ⟨V, h1, h2.mono hl⟩⟩
theorem EnvR.eval {n : Nat} {D : List Deferred} {ρ : Ren} {env : Env} {a : Act} (h : EnvR n D ρ env a) (t : Nat) : VRel ρ (env.slot t) (a.tmps.getD t undef) := by
  cases e : (env.slot t).isAny with
  | true =>
    have : env.slot t = .any := by cases hv : env.slot t <;> rw [hv] at e <;> first | rfl | cases e
    rw [this]
    exact .any
  | false =>
    obtain ⟨V, e1, e2⟩ := h.get t e
    simp only [Array.getD_eq_getD_getElem?, e1, Option.getD_some]
    exact e2

/-! ### Operands -/
inductive CArg where
  | tmp (t : Nat) (g : Get)
  | val (v : AV)
inductive ArgOk : Operand → CArg → Prop
  | tmp {t : Nat} {g : Get} (h : GetOk g t) : ArgOk (.tmp t) (.tmp t g)
  | val (V : Value) (v : AV) (h : ∀ ρ, VRel ρ v V) : ArgOk (.const V) (.val v)
  | func (f : Nat) (hf : f < 1000000000) : ArgOk (.func f) (.val (.one (.fn f [] [])))
inductive ArgsOk : List Operand → List CArg → Prop
  | nil : ArgsOk [] []
  | cons {x c l m} (h : ArgOk x c) (t : ArgsOk l m) : ArgsOk (x :: l) (c :: m)
noncomputable def argK (c : CArg) (env : Env) (k : AV → Bool) : Bool := CArg.rec (motive := fun _ => Bool) (fun _ g => g env k) (fun v => k v) c
theorem argK_sound {x : Operand} {c : CArg} (hc : ArgOk x c) {env : Env} {k : AV → Bool} (h : argK c env k = true) : ∃ v, k v = true ∧ ∀ n D ρ a, EnvR n D ρ env a → VRel ρ v (a.eval x) := by
  cases hc with
  | tmp hg =>
    rename_i t g
    refine ⟨env.slot t, (hg env k).symm.trans h, fun n D ρ a hr => ?_⟩
    exact hr.eval t
  | val V v hv => exact ⟨v, h, fun n D ρ a hr => hv ρ⟩
  | func f hf => exact ⟨_, h, fun n D ρ a hr => .one (.fn hf .nil .nil)⟩
noncomputable def argsK (l : List CArg) (env : Env) : (List AV → Bool) → Bool :=
  List.rec (motive := fun _ => (List AV → Bool) → Bool) (fun k => k []) (fun c _ ih k => argK c env (fun v => ih (fun vs => k (v :: vs)))) l
theorem argsK_sound {env : Env} : ∀ {l : List Operand} {m : List CArg} (hc : ArgsOk l m) {k : List AV → Bool} (h : argsK m env k = true), ∃ vs, k vs = true ∧ ∀ n D ρ a, EnvR n D ρ env a → VRels ρ vs (l.map a.eval)
  | _, _, .nil, k, h => ⟨[], h, fun _ _ _ _ _ => .nil⟩
  | _, _, .cons (c := c) (m := m) hx t, k, h => by
    obtain ⟨v, h1, h2⟩ := argK_sound (k := fun v => argsK m env (fun vs => k (v :: vs))) hx h
    obtain ⟨vs, h3, h4⟩ := argsK_sound t h1
    exact ⟨v :: vs, h3, fun n D ρ a hr => .cons (h2 n D ρ a hr) (h4 n D ρ a hr)⟩
/-- .. and as functions of the frame. -/
def ArgG (x : Operand) (g : Get) : Prop := ∀ e, ∃ v, (∀ k, g e k = k v) ∧ ∀ n D ρ a, EnvR n D ρ e a → VRel ρ v (a.eval x)
noncomputable def cG (v : AV) : Get := fun _ k => k v
inductive ArgGs : List Operand → List Get → Prop
  | nil : ArgGs [] []
  | cons {x g l m} (h : ArgG x g) (t : ArgGs l m) : ArgGs (x :: l) (g :: m)
theorem GetOk.arg {g : Get} {t : Nat} (h : GetOk g t) : ArgG (.tmp t) g := fun e => ⟨e.slot t, h e, fun n D ρ a hr => hr.eval t⟩
theorem ArgG.val {V : Value} {v : AV} (h : ∀ ρ, VRel ρ v V) : ArgG (.const V) (cG v) := fun e => ⟨v, fun _ => rfl, fun n D ρ a hr => h ρ⟩
theorem ArgG.func {f : Nat} (hf : Nat.blt f 1000000000 = true) : ArgG (.func f) (cG (.one (.fn f [] []))) := fun e => ⟨_, fun _ => rfl, fun n D ρ a hr => .one (.fn (by simpa [Nat.blt_eq] using hf) .nil .nil)⟩
noncomputable def getsK (l : List Get) (env : Env) : (List AV → Bool) → Bool :=
  List.rec (motive := fun _ => (List AV → Bool) → Bool) (fun k => k []) (fun g _ ih k => g env (fun v => ih (fun vs => k (v :: vs)))) l
theorem getsK_sound {env : Env} : ∀ {l : List Operand} {m : List Get} (hc : ArgGs l m) {k : List AV → Bool} (h : getsK m env k = true), ∃ vs, k vs = true ∧ ∀ n D ρ a, EnvR n D ρ env a → VRels ρ vs (l.map a.eval)
  | _, _, .nil, k, h => ⟨[], h, fun _ _ _ _ _ => .nil⟩
  | _, _, .cons (g := g) (m := m) hx t, k, h => by
    have h : g env (fun v => getsK m env (fun vs => k (v :: vs))) = true := h
    obtain ⟨v, h1, h2⟩ := hx env
    rw [h1] at h
    obtain ⟨vs, h3, h4⟩ := getsK_sound t h
    exact ⟨v :: vs, h3, fun n D ρ a hr => .cons (h2 n D ρ a hr) (h4 n D ρ a hr)⟩

/-! ### Temporaries are set -/
noncomputable def noPut : Put := fun _ e k => k e
/-- Where a result goes. -/
inductive DstOk : Option Nat → Put → Prop
  | none : DstOk none noPut
  | some {d : Nat} {p : Put} (h : PutOk p d) : DstOk (some d) p
def PutE (dst : Option Nat) (v : AV) (env env' : Env) : Prop := ∀ j, env'.slot j = if dst = some j then v else env.slot j
theorem DstOk.put {dst : Option Nat} {p : Put} (h : DstOk dst p) {v : AV} {env : Env} {k : Env → Bool} (hk : p v env k = true) : ∃ env', k env' = true ∧ PutE dst v env env' := by
  cases h with
  | none => exact ⟨env, hk, fun j => by rw [if_neg (by simp)]⟩
  | some h =>
    obtain ⟨e', h1, h2⟩ := h v env k
    exact ⟨e', h1.symm.trans hk, fun j => by rw [h2]; simp⟩
theorem PutE.env {dst : Option Nat} {v : AV} {env env' : Env} (h : PutE dst v env env') {n : Nat} {D : List Deferred} {ρ : Ren} {a : Act} {V : Value} (hr : EnvR n D ρ env a) (hv : VRel ρ v V) (hd : ∀ d, dst = some d → d < n) : EnvR n D ρ env' (a.put dst V) := by
  cases dst with
  | none =>
    refine ⟨hr.size, hr.defers, fun t e => ?_⟩
    have := h t
    rw [if_neg (by simp)] at this
    rw [this] at e ⊢
    exact hr.get t e
  | some d =>
    have hd := hd d rfl
    refine ⟨by simpa [Act.put] using hr.size, hr.defers, fun t e => ?_⟩
    have ht := h t
    simp only [Act.put, Array.getElem?_setIfInBounds, hr.size, hd, if_true]
    by_cases hdt : d = t
    · subst hdt
      rw [if_pos rfl] at ht
      rw [ht]
      exact ⟨V, by rw [if_pos rfl], hv⟩
    · rw [if_neg (by simpa using hdt)] at ht
      rw [ht] at e ⊢
      obtain ⟨U, e1, e2⟩ := hr.get t e
      exact ⟨U, by rw [if_neg hdt]; exact e1, e2⟩

/-! ### Operations -/
abbrev Xop := List AV → Heap → (AV → Heap → Bool) → Bool
def XOk (P : Program) (o : Oper) (X : Xop) : Prop := ∀ vals h k, X vals h k = true → ∃ v h', k v h' = true ∧ OpS P o vals h v h'
def GuardOk (ops : Array Oper) : Option (Nat × Bool) → Option (Nat × Bool) → Prop
  | none, none => True
  | some (g, w), some (t, w') => w = w' ∧ (ops[g]?).bind (·.dst) = some t
  | _, _ => False
/-- Is it wanted? -/
noncomputable def guardK (v : AV) (want : Bool) (y n : Bool) : Bool :=
  AV.rec (motive_1 := fun _ => Bool) (motive_2 := fun _ => Bool) (fun a => At.rec (motive_1 := fun _ => Bool) (motive_2 := fun _ => Bool) (fun b => sel b (sel want y n) (sel want n y)) (fun _ _ => false) (fun _ => false) false (fun _ _ => false) false false (fun _ _ _ _ _ _ => false) false (fun _ => false) false (fun _ _ _ _ _ => false) false (fun _ _ _ _ => false) a) (fun _ => false) (fun l _ => List.rec (motive := fun _ => Bool) n (fun _ _ _ => false) l) false (fun _ => false) false (fun _ _ _ _ => false) v
theorem guardK_sound {v : AV} {want y n : Bool} (h : guardK v want y n = true) : v.isAny = false ∧ ∃ q : Bool, (q = true → y = true) ∧ (q = false → n = true) ∧ ∀ ρ V, VRel ρ v V → ((match (some V : Option Value) with | some (.bool b) => some b | _ => none) == some want) = q := by
  cases v with
  | any => cases h
  | sym _ => cases h
  | agg l => cases h
  | tup l =>
    cases l with
    | cons _ _ => cases h
    | nil => exact ⟨rfl, false, fun q => (by cases q), fun _ => h, fun ρ V hV => by cases hV; rfl⟩
  | one a =>
    cases a with
    | bool b =>
      refine ⟨rfl, b == want, ?_, ?_, fun ρ V hV => ?_⟩
      · cases b <;> cases want <;> simp [guardK, sel] at h ⊢ <;> exact h
      · cases b <;> cases want <;> simp [guardK, sel] at h ⊢ <;> exact h
      · cases hV with | one hV => ?_
        cases hV
        cases b <;> cases want <;> rfl
    | _ => cases h
/-- An operation, its operands taken out of the frame. -/
abbrev OX := Env → Heap → (AV → Heap → Bool) → Bool
def FOk (P : Program) (o : Oper) (f : OX) : Prop := ∀ e h k, f e h k = true → ∃ vs v h', k v h' = true ∧ OpS P o vs h v h' ∧ ∀ n D ρ a, EnvR n D ρ e a → VRels ρ vs (o.op.operands.toList.map a.eval)
theorem XOk.gen {o : Oper} {X : Xop} (hX : XOk P o X) {gs : List Get} (ha : ArgGs o.op.operands.toList gs) : FOk P o (fun e h k => getsK gs e (fun vs => X vs h k)) := fun e h k hk => by
  obtain ⟨vs, h1, h2⟩ := getsK_sound ha hk
  obtain ⟨v, h', h3, h4⟩ := hX vs h k h1
  exact ⟨vs, v, h', h3, h4, h2⟩

/-! ### Regions that run in their own order -/
abbrev RX := Env → Heap → (Env → Heap → Bool) → Bool
/-- What a step comes to. -/
def StepS (P : Program) (ops : Array Oper) (n : Nat) (o : Oper) (env : Env) (h : Heap) (env' : Env) (h' : Heap) : Prop :=
  ∀ (F : Fence) (H : Nat) (W0 : World) (D : List Deferred) (ρ : Ren) (a : Act) (w : World) (K : Act → World → Prop) (Q : Exit → Act → World → Prop), Wide F → EnvR n D ρ env a → Rel H W0 ρ h w →
    (∀ a' w' ρ', Ext ρ h ρ' h' → Rel H W0 ρ' h' w' → EnvR n D ρ' env' a' → K a' w') → if Region.wanted o (yielded ops a.tmps) then o.wpIn F 0 P a w K Q else (∀ f, o.about P w a.eval = some f → F.fn f) ∧ K (a.put o.dst undef) w
def ltO (n : Nat) (o : Oper) : Prop := ∀ d, o.dst = some d → d < n
theorem fok_step {o : Oper} {f : OX} (hf : FOk P o f) {p : Put} (hp : DstOk o.dst p) {n : Nat} (hn : ltO n o) {env : Env} {h : Heap} {k : Env → Heap → Bool} (hk : f env h (fun v h' => p v env (fun env' => k env' h')) = true) :
    ∃ env' h', k env' h' = true ∧ ∀ (F : Fence) (H : Nat) (W0 : World) (D : List Deferred) (ρ : Ren) (a : Act) (w : World) (K : Act → World → Prop) (Q : Exit → Act → World → Prop), Wide F → EnvR n D ρ env a → Rel H W0 ρ h w →
      (∀ a' w' ρ', Ext ρ h ρ' h' → Rel H W0 ρ' h' w' → EnvR n D ρ' env' a' → K a' w') → o.wpIn F 0 P a w K Q := by
  obtain ⟨vs, v, h', h1, h2, h3⟩ := hf _ _ _ hk
  obtain ⟨env', h4, h5⟩ := hp.put h1
  refine ⟨env', h', h4, fun F H W0 D ρ a w K Q hF hr hrel hK => ?_⟩
  exact h2 F H W0 ρ w a K Q hF (h3 n D ρ a hr) hrel fun V w' ρ' hx hR hV => hK _ _ ρ' hx hR (h5.env (hr.mono hx.le) hV hn)
def ROk (P : Program) (ops : Array Oper) (n : Nat) (l : List Oper) (rx : RX) : Prop := (∀ o ∈ l, ltO n o) → ∀ env h k, rx env h k = true → ∃ env' h', k env' h' = true ∧ ∀ i, (∀ j o, l[j]? = some o → ops[i + j]? = some o) →
  ∀ (F : Fence) (H : Nat) (W0 : World) (D : List Deferred) (ρ : Ren) (a : Act) (w : World) (Q : Exit → Act → World → Prop), Wide F → EnvR n D ρ env a → Rel H W0 ρ h w → (∀ a' w' ρ', Ext ρ h ρ' h' → Rel H W0 ρ' h' w' → EnvR n D ρ' env' a' → Q .normal a' w') → wpOpsIn F 0 P ops Q (List.range' i l.length) a w
noncomputable def rNil : RX := fun env h k => k env h
theorem rok_nil {ops : Array Oper} {n : Nat} : ROk P ops n [] rNil := fun _ env h k hk => ⟨env, h, hk, fun i _ F H W0 D ρ a w Q hF hr hrel hQ => hQ a w ρ (Ext.refl _ _) hrel hr⟩
theorem rok_cons {ops : Array Oper} {n : Nat} {o : Oper} {l : List Oper} {rx rx' : RX} (ht : ROk P ops n l rx')
    (hs : ltO n o → ∀ env h k, rx env h k = true → ∃ env' h', rx' env' h' k = true ∧ StepS P ops n o env h env' h') : ROk P ops n (o :: l) rx := fun hlt env h k hk => by
  obtain ⟨env1, h1, e1, e2⟩ := hs (hlt o (by simp)) env h k hk
  obtain ⟨env2, h2, e3, e4⟩ := ht (fun o' ho' => hlt o' (by simp [ho'])) env1 h1 k e1
  refine ⟨env2, h2, e3, fun i hl F H W0 D ρ a w Q hF hr hrel hQ => ?_⟩
  have ho : ops[i]? = some o := by simpa using hl 0 o rfl
  rw [List.length_cons, List.range'_succ]
  simp only [wpOpsIn, ho]
  refine e2 F H W0 D ρ a w (wpOpsIn F 0 P ops Q (List.range' (i + 1) l.length)) Q hF hr hrel fun a' w' ρ' hx hR hE => ?_
  exact e4 (i + 1) (fun j o' q => by
    have := hl (j + 1) o' (by simpa using q)
    rw [show i + 1 + j = i + (j + 1) by omega]; exact this) F H W0 D ρ' a' w' Q hF hE hR fun a2 w2 ρ2 hx2 hR2 hE2 => hQ a2 w2 ρ2 (hx.trans hx2) hR2 hE2
noncomputable def rS (f : OX) (p : Put) (rx : RX) : RX := fun env h k => f env h (fun v h' => p v env (fun env' => rx env' h' k))
theorem rok_s {ops : Array Oper} {n : Nat} {o : Oper} {l : List Oper} {f : OX} {p : Put} {rx : RX} (hg : o.guard = none) (hf : FOk P o f) (hp : DstOk o.dst p) (ht : ROk P ops n l rx) : ROk P ops n (o :: l) (rS f p rx) :=
  rok_cons ht fun hlt env h k hk => by
    obtain ⟨env', h', h1, h2⟩ := fok_step hf hp hlt (k := fun env' h' => rx env' h' k) hk
    refine ⟨env', h', h1, fun F H W0 D ρ a w K Q hF hr hrel hK => ?_⟩
    simp only [Region.wanted, hg, if_true]
    exact h2 F H W0 D ρ a w K Q hF hr hrel hK
noncomputable def rG (g : Get) (want : Bool) (f : OX) (p : Put) (rx : RX) : RX := fun env h k => g env (fun gv => guardK gv want (f env h (fun v h' => p v env (fun env' => rx env' h' k))) (p (.tup []) env (fun env' => rx env' h k)))
theorem rok_g {ops : Array Oper} {n : Nat} {o : Oper} {l : List Oper} {f : OX} {p : Put} {rx : RX} {g : Get} {t gi : Nat} {want : Bool} (hg : o.guard = some (gi, want)) (hgt : GetOk g t) (hgi : (ops[gi]?).bind (·.dst) = some t) (hf : FOk P o f) (hp : DstOk o.dst p) (ht : ROk P ops n l rx) : ROk P ops n (o :: l) (rG g want f p rx) :=
  rok_cons ht fun hlt env h k hk => by
    have hk : g env (fun gv => guardK gv want (f env h (fun v h' => p v env (fun env' => rx env' h' k))) (p (.tup []) env (fun env' => rx env' h k))) = true := hk
    rw [hgt] at hk
    obtain ⟨hany, q, y1, y2, y3⟩ := guardK_sound hk
    have hwant : ∀ (D : List Deferred) (ρ : Ren) (a : Act), EnvR n D ρ env a → Region.wanted o (yielded ops a.tmps) = q := by
      intro D ρ a hr
      obtain ⟨V, v1, v2⟩ := hr.get t hany
      have := y3 ρ V v2
      simp only [Region.wanted, hg, yielded, hgi, Option.bind_some, v1]
      exact this
    cases q with
    | true =>
      obtain ⟨env', h', h1, h2⟩ := fok_step hf hp hlt (k := fun env' h' => rx env' h' k) (y1 rfl)
      refine ⟨env', h', h1, fun F H W0 D ρ a w K Q hF hr hrel hK => ?_⟩
      rw [hwant D ρ a hr, if_pos rfl]
      exact h2 F H W0 D ρ a w K Q hF hr hrel hK
    | false =>
      obtain ⟨env', h4, h5⟩ := hp.put (y2 rfl)
      refine ⟨env', h, h4, fun F H W0 D ρ a w K Q hF hr hrel hK => ?_⟩
      rw [hwant D ρ a hr, if_neg (by simp)]
      exact ⟨fun f _ => hF.fn f, hK _ _ ρ (Ext.refl _ _) hrel (h5.env hr (VRel.undef ρ) hlt)⟩
end Go.Proofs.YtddbhljljmijcaaGreat.V
