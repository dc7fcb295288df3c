/- Regions in any order: evaluated. -/
import Derived.Test.YtddbhljljmijcaaGreatRu
namespace Go.Proofs.YtddbhljljmijcaaGreat.V
open Go.RowKit
set_option linter.unusedVariables false
set_option linter.unusedSimpArgs false
variable {P : Program}

/-! ### Alike? -/
noncomputable def eqAtB (a b : At) : Bool :=
  match a, b with
  | .bool x, .bool y => sel x y (sel y false true)
  | .int k x, .int k' y => gd (Nat.beq (kidx k) (kidx k')) (eqI x y)
  | .str s, .str s' => leqB s s'
  | .nilp, .nilp => true
  | .ptr b o, .ptr b' o' => gd (Nat.beq b b') (Nat.beq o o')
  | .nils, .nils => true
  | .emps, .emps => true
  | .slc b o n c sz ex, .slc b' o' n' c' sz' ex' => gd (Nat.beq b b') (gd (Nat.beq o o') (gd (Nat.beq n n') (gd (Nat.beq c c') (gd (Nat.beq sz sz') (sel ex ex' (sel ex' false true))))))
  | .nilm, .nilm => true
  | .mp b, .mp b' => Nat.beq b b'
  | .nilf, .nilf => true
  | _, _ => false
theorem selEq {x y : Bool} (h : sel x y (sel y false true) = true) : x = y := by cases x <;> cases y <;> first | rfl | cases h
theorem eqAtB_sound {a b : At} (h : eqAtB a b = true) : a = b := by
  unfold eqAtB at h
  split at h
  · rw [selEq h]
  · obtain ⟨h1, h2⟩ := gd_eq h
    rw [eqI_eq] at h2
    rw [kidx_inj h1, eq_of_beq h2]
  · rw [leqB_eq] at h
    rw [of_decide_eq_true h]
  · rfl
  · obtain ⟨h1, h2⟩ := gd_eq h
    rw [Nat.eq_of_beq_eq_true h1, Nat.eq_of_beq_eq_true h2]
  · rfl
  · rfl
  · obtain ⟨h1, h⟩ := gd_eq h
    obtain ⟨h2, h⟩ := gd_eq h
    obtain ⟨h3, h⟩ := gd_eq h
    obtain ⟨h4, h⟩ := gd_eq h
    obtain ⟨h5, h⟩ := gd_eq h
    rw [Nat.eq_of_beq_eq_true h1, Nat.eq_of_beq_eq_true h2, Nat.eq_of_beq_eq_true h3, Nat.eq_of_beq_eq_true h4, Nat.eq_of_beq_eq_true h5, selEq h]
  · rfl
  · rw [Nat.eq_of_beq_eq_true h]
  · rfl
  · cases h
noncomputable def eqAtL (l : List At) : List At → Bool :=
  List.rec (motive := fun _ => List At → Bool) (fun m => List.rec (motive := fun _ => Bool) true (fun _ _ _ => false) m) (fun a _ ih m => List.rec (motive := fun _ => Bool) false (fun b m _ => gd (eqAtB a b) (ih m)) m) l
theorem eqAtL_sound : ∀ {l m : List At}, eqAtL l m = true → l = m
  | [], [], _ => rfl
  | [], _ :: _, h => by cases h
  | _ :: _, [], h => by cases h
  | a :: l, b :: m, h => by
    obtain ⟨h1, h2⟩ := gd_eq (show gd (eqAtB a b) (eqAtL l m) = true from h)
    rw [eqAtB_sound h1, eqAtL_sound h2]
noncomputable def eqAV1 (a b : AV) : Bool :=
  match a, b with
  | .one a, .one b => eqAtB a b
  | .agg l, .agg m => eqAtL l m
  | _, _ => false
theorem eqAV1_sound {a b : AV} (h : eqAV1 a b = true) : a = b := by
  unfold eqAV1 at h
  split at h
  · rw [eqAtB_sound h]
  · rw [eqAtL_sound h]
  · cases h
noncomputable def eqAVs (l : List AV) : List AV → Bool :=
  List.rec (motive := fun _ => List AV → Bool) (fun m => List.rec (motive := fun _ => Bool) true (fun _ _ _ => false) m) (fun a _ ih m => List.rec (motive := fun _ => Bool) false (fun b m _ => gd (eqAV1 a b) (ih m)) m) l
theorem eqAVs_sound : ∀ {l m : List AV}, eqAVs l m = true → l = m
  | [], [], _ => rfl
  | [], _ :: _, h => by cases h
  | _ :: _, [], h => by cases h
  | a :: l, b :: m, h => by
    obtain ⟨h1, h2⟩ := gd_eq (show gd (eqAV1 a b) (eqAVs l m) = true from h)
    rw [eqAV1_sound h1, eqAVs_sound h2]
noncomputable def eqAV (a b : AV) : Bool :=
  match a, b with
  | .tup l, .tup m => eqAVs l m
  | a, b => eqAV1 a b
theorem eqAV_sound {a b : AV} (h : eqAV a b = true) : a = b := by
  unfold eqAV at h
  split at h
  · rw [eqAVs_sound h]
  · exact eqAV1_sound h

/-! ### Kinds -/
def PureOk (P : Program) (o : Oper) (X : List AV → (AV → Bool) → Bool) : Prop := ∀ vals k, X vals k = true → ∃ v, k v = true ∧ ∀ h, OpS P o vals h v h
def ReadOk (P : Program) (o : Oper) (X : List AV → Heap → (AV → Bool) → Bool) : Prop := ∀ vals h k, X vals h k = true → ∃ v, k v = true ∧ OpS P o vals h v h
def OpN (P : Program) (o : Oper) (vals : List AV) (b : Nat) (ob : Ob) (v : AV) : Prop :=
  ∀ (F : Fence) (h : Heap) (H : Nat) (W0 : World) (ρ : Ren) (w : World) (a : Act) (K : Act → World → Prop) (Q : Exit → Act → World → Prop), Wide F → VRels ρ vals (o.op.operands.toList.map a.eval) → Rel H W0 ρ h w → ρ b = .un → b < h.next → h.m.get b = some ob →
    (∀ V w' ρ', Ren.le ρ ρ' → (∀ c, ρ c = .un → c ≠ b → ρ' c = .un) → Rel H W0 ρ' h w' → VRel ρ' v V → K (a.put o.dst V) w') → o.wpIn F 0 P a w K Q
def NewOk (P : Program) (o : Oper) (X : List AV → (Ob → (Nat → AV) → Bool) → Bool) : Prop := ∀ vals k, X vals k = true → ∃ ob mk, k ob mk = true ∧ ∀ b, OpN P o vals b ob (mk b)
inductive DX where
  | pure (X : List AV → (AV → Bool) → Bool)
  | read (X : List AV → Heap → (AV → Bool) → Bool)
  | new (X : List AV → (Ob → (Nat → AV) → Bool) → Bool)
  | chain (X : Xop)
def DXOk (P : Program) (o : Oper) : DX → Prop
  | .pure X => PureOk P o X
  | .read X => ReadOk P o X
  | .new X => NewOk P o X
  | .chain X => XOk P o X
structure DStep where
  i : Nat
  anc : Nat
  dst : Option Nat
  put : Put
  args : List CArg
  guard : Option (Nat × Get × Bool)
  X : DX
def argTs : List CArg → List Nat
  | [] => []
  | .tmp t _ :: l => t :: argTs l
  | .val _ :: l => argTs l
def DStep.ts (s : DStep) : List Nat := match s.guard with | none => argTs s.args | some (t, _, _) => t :: argTs s.args
def DStep.p (s : DStep) : PEnt := ⟨s.i, s.anc, s.dst, s.ts⟩
/-- Operands, of temporaries that are known. -/
theorem argsK_reads {env : Env} : ∀ {l : List Operand} {m : List CArg} (hc : ArgsOk l m) {k : List AV → Bool} (h : argsK m env k = true), ∃ vs, k vs = true ∧ ∀ ρ a, Reads (argTs m) env ρ a → VRels ρ vs (l.map a.eval)
  | _, _, .nil, k, h => ⟨[], h, fun _ _ _ => .nil⟩
  | _, _, .cons (x := x) (c := c) (m := m) hx t, k, h => by
    have h : argK c env (fun v => argsK m env (fun vs => k (v :: vs))) = true := h
    cases hx with
    | @tmp t' g hg =>
      have h2 := (hg env _).symm.trans h
      obtain ⟨vs, h3, h4⟩ := argsK_reads t h2
      refine ⟨_ :: vs, h3, fun ρ a hr => .cons ?_ (h4 ρ a fun t0 ht0 => hr t0 (by simp [argTs, ht0]))⟩
      exact (hr t' (by simp [argTs]) _ rfl).eval
    | val V v hv =>
      obtain ⟨vs, h3, h4⟩ := argsK_reads t h
      exact ⟨v :: vs, h3, fun ρ a hr => .cons (hv ρ) (h4 ρ a hr)⟩
    | func f hf =>
      obtain ⟨vs, h3, h4⟩ := argsK_reads t h
      exact ⟨_ :: vs, h3, fun ρ a hr => .cons (.one (.fn hf .nil .nil)) (h4 ρ a hr)⟩

abbrev Pend := List (Nat × (Heap → Bool))
noncomputable def chkK (l : Pend) (h : Heap) (k : Bool) : Bool := List.rec (motive := fun _ => Bool) k (fun p _ ih => Prod.rec (motive := fun _ => Bool) (fun _ f => gd (f h) ih) p) l
theorem chkK_sound : ∀ {l : Pend} {h : Heap} {k : Bool}, chkK l h k = true → (∀ p ∈ l, p.2 h = true) ∧ k = true
  | [], h, k, hk => ⟨fun p hp => (by cases hp), hk⟩
  | (i, f) :: l, h, k, hk => by
    obtain ⟨h1, h2⟩ := gd_eq (show gd (f h) (chkK l h k) = true from hk)
    obtain ⟨h3, h4⟩ := chkK_sound h2
    exact ⟨fun p hp => by
      cases hp with
      | head => exact h1
      | tail _ hp => exact h3 p hp, h4⟩
noncomputable def filtK (anc : Nat) (l : Pend) : (Pend → Bool) → Bool := List.rec (motive := fun _ => (Pend → Bool) → Bool) (fun k => k []) (fun p _ ih k => Prod.rec (motive := fun _ => Bool) (fun i f => sel (Nat.testBit anc i) (ih k) (ih (fun l => k ((i, f) :: l)))) p) l
theorem filtK_sound {anc : Nat} : ∀ {l : Pend} {k : Pend → Bool}, filtK anc l k = true → ∃ m, k m = true ∧ ∀ p ∈ l, anc.testBit p.1 = true ∨ p ∈ m
  | [], k, hk => ⟨[], hk, fun p hp => by cases hp⟩
  | (i, f) :: l, k, hk => by
    have hk : sel (Nat.testBit anc i) (filtK anc l k) (filtK anc l (fun l => k ((i, f) :: l))) = true := hk
    rw [sel_eq] at hk
    by_cases hb : Nat.testBit anc i = true
    · rw [if_pos hb] at hk
      obtain ⟨m, h1, h2⟩ := filtK_sound hk
      exact ⟨m, h1, fun p hp => by
        cases hp with
        | head => exact .inl hb
        | tail _ hp => exact h2 p hp⟩
    · rw [if_neg hb] at hk
      obtain ⟨m, h1, h2⟩ := filtK_sound hk
      exact ⟨(i, f) :: m, h1, fun p hp => by
        cases hp with
        | head => exact .inr (by simp)
        | tail _ hp => exact (h2 p hp).imp id (fun q => by simp [q])⟩
noncomputable def actD (s : DStep) (pend : Pend) (env : Env) (h : Heap) (k : Pend → Env → Heap → Bool) : Bool :=
  argsK s.args env (fun vs => DX.rec (motive := fun _ => Bool) (fun X => X vs (fun v => s.put v env (fun env' => k pend env' h))) (fun X => X vs h (fun v => s.put v env (fun env' => k ((s.i, fun h' => X vs h' (fun v' => eqAV v' v)) :: pend) env' h))) (fun X => X vs (fun ob mk => h.m.setK h.next ob (fun m => fN (Nat.succ h.next) (fun nx => chkK pend ⟨m, nx⟩ (s.put (mk h.next) env (fun env' => k pend env' ⟨m, nx⟩)))))) (fun X => filtK s.anc pend (fun pend' => X vs h (fun v h' => chkK pend' h' (s.put v env (fun env' => k pend' env' h'))))) s.X)
noncomputable def stepD (s : DStep) (pend : Pend) (env : Env) (h : Heap) (k : Pend → Env → Heap → Bool) : Bool :=
  Option.rec (motive := fun _ => Bool) (actD s pend env h k) (fun p => Prod.rec (motive := fun _ => Bool) (fun _ p => Prod.rec (motive := fun _ => Bool) (fun gt want => gt env (fun g => guardK g want (actD s pend env h k) (s.put (.tup []) env (fun env' => k pend env' h)))) p) p) s.guard
noncomputable def planK (l : List DStep) : Pend → Env → Heap → (Env → Heap → Bool) → Bool :=
  List.rec (motive := fun _ => Pend → Env → Heap → (Env → Heap → Bool) → Bool) (fun _ env h k => k env h) (fun s _ ih pend env h k => stepD s pend env h (fun pend' env' h' => ih pend' env' h' k)) l
def GuardG (ops : Array Oper) : Option (Nat × Bool) → Option (Nat × Get × Bool) → Prop
  | none, none => True
  | some (g, w), some (t, gt, w') => w = w' ∧ (ops[g]?).bind (·.dst) = some t ∧ GetOk gt t
  | _, _ => False
structure DStepOk (P : Program) (ops : Array Oper) (n : Nat) (o : Oper) (s : DStep) : Prop where
  dst : o.dst = s.dst
  lt : ∀ d, s.dst = some d → d < n
  args : ArgsOk o.op.operands.toList s.args
  guard : GuardG ops o.guard s.guard
  put : DstOk s.dst s.put
  X : DXOk P o s.X
/-- What is recheckable. -/
def AlInv (P : Program) (ops : Array Oper) (al : List Ent) (pend : Pend) : Prop := ∀ e ∈ al, ∀ o, ops[e.i]? = some o → (∀ h, RunS P ops o e.ts e.env h e.v e.nb) ∨ ∃ chk, (e.i, chk) ∈ pend ∧ ∀ h, chk h = true → RunS P ops o e.ts e.env h e.v e.nb

theorem Reads.args {s : DStep} {env : Env} {ρ : Ren} {a : Act} (h : Reads s.ts env ρ a) : Reads (argTs s.args) env ρ a := by
  unfold DStep.ts at h
  split at h
  · exact h
  · exact fun t ht => h t (by simp [ht])
section
variable {ops : Array Oper} {n : Nat} {o : Oper} {s : DStep} {env : Env} {h : Heap} {vs : List AV} {v : AV}
theorem runS_of (hw : ∀ ρ a, Reads s.ts env ρ a → Region.wanted o (yielded ops a.tmps) = true) (ha : ∀ ρ a, Reads (argTs s.args) env ρ a → VRels ρ vs (o.op.operands.toList.map a.eval)) (hop : OpS P o vs h v h) : RunS P ops o s.ts env h v none := by
  intro F H W0 ρ w a K Q hF hr hrel _ hK
  unfold Does
  rw [if_pos (hw ρ a hr)]
  exact hop F H W0 ρ w a K Q hF (ha ρ a hr.args) hrel fun V w' ρ' hx hR hV => hK V w' ρ' hx.le (fun b hb hu _ => (hx.keep b hb hu).1) hR hV
theorem runC_of {h' : Heap} (hw : ∀ ρ a, Reads s.ts env ρ a → Region.wanted o (yielded ops a.tmps) = true) (ha : ∀ ρ a, Reads (argTs s.args) env ρ a → VRels ρ vs (o.op.operands.toList.map a.eval)) (hop : OpS P o vs h v h') : RunC P ops o s.ts env h v h' := by
  intro F H W0 ρ w a K Q hF hr hrel hK
  unfold Does
  rw [if_pos (hw ρ a hr)]
  exact hop F H W0 ρ w a K Q hF (ha ρ a hr.args) hrel hK
theorem runN_of {b : Nat} {ob : Ob} (hw : ∀ ρ a, Reads s.ts env ρ a → Region.wanted o (yielded ops a.tmps) = true) (ha : ∀ ρ a, Reads (argTs s.args) env ρ a → VRels ρ vs (o.op.operands.toList.map a.eval)) (hop : OpN P o vs b ob v) (h : Heap) : RunS P ops o s.ts env h v (some (b, ob)) := by
  intro F H W0 ρ w a K Q hF hr hrel hb hK
  obtain ⟨b1, b2, b3⟩ := hb b ob rfl
  unfold Does
  rw [if_pos (hw ρ a hr)]
  exact hop F h H W0 ρ w a K Q hF (ha ρ a hr.args) hrel b1 b2 b3 fun V w' ρ' hl hk hR hV => hK V w' ρ' hl (fun c hc hu hne => hk c hu (fun q => hne ob (by rw [q]))) hR hV
end
/-- What a step of a plan comes to. -/
def StepD (P : Program) (ops : Array Oper) (o : Oper) (s : DStep) (al : List Ent) (env : Env) (h : Heap) (pend' : Pend) (env' : Env) (h' : Heap) (al' : List Ent) : Prop :=
  AlInv P ops al' pend' ∧ AlRun P ops al' h' ∧
    ((∃ v nb, PutE s.dst v env env' ∧ Made nb h h' ∧ al' = al ++ [s.p.ent env v nb]) ∨ ((∃ X, s.X = .chain X) ∧ ∃ v, PutE s.dst v env env' ∧ RunC P ops o s.ts env h v h' ∧ (∀ e ∈ al, s.anc.testBit e.i = true ∨ e ∈ al')))
theorem al_add {ops : Array Oper} {al : List Ent} {pend pend' : Pend} {h : Heap} (hal : AlInv P ops al pend) (hrun : AlRun P ops al h) (hsub : ∀ p ∈ pend, p ∈ pend') {e : Ent} {o : Oper} (ho : ops[e.i]? = some o) (he : (∀ h, RunS P ops o e.ts e.env h e.v e.nb) ∨ (RunS P ops o e.ts e.env h e.v e.nb ∧ ∃ chk, (e.i, chk) ∈ pend' ∧ ∀ h, chk h = true → RunS P ops o e.ts e.env h e.v e.nb)) :
    AlInv P ops (al ++ [e]) pend' ∧ AlRun P ops (al ++ [e]) h := by
  constructor
  · intro e' he' o' ho'
    rcases List.mem_append.1 he' with q | q
    · rcases hal e' q o' ho' with x | ⟨chk, x, y⟩
      · exact .inl x
      · exact .inr ⟨chk, hsub _ x, y⟩
    · have : e' = e := by simpa using q
      subst this
      rw [ho] at ho'
      cases ho'
      rcases he with x | ⟨_, x⟩
      · exact .inl x
      · exact .inr x
  · intro e' he' o' ho'
    rcases List.mem_append.1 he' with q | q
    · exact hrun e' q o' ho'
    · have : e' = e := by simpa using q
      subst this
      rw [ho] at ho'
      cases ho'
      rcases he with x | ⟨x, _⟩
      · exact x h
      · exact x
theorem actD_sound {ops : Array Oper} {n : Nat} {o : Oper} {s : DStep} {pend : Pend} {env : Env} {h : Heap} {al : List Ent} {k : Pend → Env → Heap → Bool} (hs : DStepOk P ops n o s) (ho : ops[s.i]? = some o) (hw : ∀ ρ a, Reads s.ts env ρ a → Region.wanted o (yielded ops a.tmps) = true) (hk : actD s pend env h k = true) (hal : AlInv P ops al pend) (hrun : AlRun P ops al h) :
    ∃ pend' env' h' al', k pend' env' h' = true ∧ StepD P ops o s al env h pend' env' h' al' := by
  obtain ⟨vs, hk, ha⟩ := argsK_reads hs.args hk
  have hX := hs.X
  cases hsX : s.X with
  | pure X =>
    rw [hsX] at hk hX
    obtain ⟨v, hk, hop⟩ := hX _ _ hk
    obtain ⟨env', hk, hp⟩ := hs.put.put hk
    have := al_add (e := s.p.ent env v none) (pend' := pend) hal hrun (fun _ q => q) ho (.inl fun h => runS_of hw ha (hop h))
    exact ⟨pend, env', h, _, hk, this.1, this.2, .inl ⟨v, none, hp, rfl, rfl⟩⟩
  | read X =>
    rw [hsX] at hk hX
    obtain ⟨v, hk, hop⟩ := hX _ _ _ hk
    obtain ⟨env', hk, hp⟩ := hs.put.put hk
    have := al_add (e := s.p.ent env v none) (pend' := (s.i, fun h' => X vs h' (fun v' => eqAV v' v)) :: pend) hal hrun (fun _ q => by simp [q]) ho (.inr ⟨runS_of hw ha hop, _, List.mem_cons_self, fun h' hc => by
      obtain ⟨v', e1, e2⟩ := hX _ _ _ hc
      rw [eqAV_sound e1] at e2
      exact runS_of hw ha e2⟩)
    exact ⟨_, env', h, _, hk, this.1, this.2, .inl ⟨v, none, hp, rfl, rfl⟩⟩
  | new X =>
    rw [hsX] at hk hX
    obtain ⟨ob, mk, hk, hop⟩ := hX _ _ hk
    obtain ⟨m, hm, hk⟩ := T.setK_sound _ _ _ _ hk
    rw [fN_eq] at hk
    obtain ⟨hc, hk⟩ := chkK_sound hk
    obtain ⟨env', hk, hp⟩ := hs.put.put hk
    have hrun' : AlRun P ops al ⟨m, Nat.succ h.next⟩ := fun e he o' ho' => by
      rcases hal e he o' ho' with x | ⟨chk, x, y⟩
      · exact x _
      · exact y _ (hc _ x)
    have := al_add (e := s.p.ent env (mk h.next) (some (h.next, ob))) (pend' := pend) hal hrun' (fun _ q => q) ho (.inl fun h' => runN_of hw ha (hop h.next) h')
    exact ⟨pend, env', _, _, hk, this.1, this.2, .inl ⟨_, some (h.next, ob), hp, ⟨rfl, rfl, hm⟩, rfl⟩⟩
  | chain X =>
    rw [hsX] at hk hX
    obtain ⟨pend', hk, hf⟩ := filtK_sound hk
    obtain ⟨v, h', hk, hop⟩ := hX _ _ _ hk
    obtain ⟨hc, hk⟩ := chkK_sound hk
    obtain ⟨env', hk, hp⟩ := hs.put.put hk
    refine ⟨pend', env', h', al.filter (fun e => !s.anc.testBit e.i), hk, fun e he o' ho' => ?_, fun e he o' ho' => ?_, .inr ⟨⟨X, hsX⟩, v, hp, runC_of hw ha hop, fun e he => ?_⟩⟩
    · obtain ⟨he, hb⟩ := List.mem_filter.1 he
      rcases hal e he o' ho' with x | ⟨chk, x, y⟩
      · exact .inl x
      · exact .inr ⟨chk, (hf _ x).resolve_left (by simpa using hb), y⟩
    · obtain ⟨he, hb⟩ := List.mem_filter.1 he
      rcases hal e he o' ho' with x | ⟨chk, x, y⟩
      · exact x _
      · exact y _ (hc _ ((hf _ x).resolve_left (by simpa using hb)))
    · by_cases hb : s.anc.testBit e.i = true
      · exact .inl hb
      · exact .inr (List.mem_filter.2 ⟨he, by simpa using hb⟩)

theorem stepD_sound {ops : Array Oper} {n : Nat} {o : Oper} {s : DStep} {pend : Pend} {env : Env} {h : Heap} {al : List Ent} {k : Pend → Env → Heap → Bool} (hs : DStepOk P ops n o s) (ho : ops[s.i]? = some o) (hk : stepD s pend env h k = true) (hal : AlInv P ops al pend) (hrun : AlRun P ops al h) :
    ∃ pend' env' h' al', k pend' env' h' = true ∧ StepD P ops o s al env h pend' env' h' al' := by
  have hg := hs.guard
  unfold stepD at hk
  cases hsg : s.guard with
  | none =>
    rw [hsg] at hk hg
    cases hog : o.guard with
    | some _ => rw [hog] at hg; exact hg.elim
    | none => exact actD_sound hs ho (fun ρ a _ => by simp [Region.wanted, hog]) hk hal hrun
  | some p =>
    obtain ⟨t, gt, want⟩ := p
    rw [hsg] at hk hg
    cases hog : o.guard with
    | none => rw [hog] at hg; exact hg.elim
    | some q =>
      obtain ⟨g, want'⟩ := q
      rw [hog] at hg
      obtain ⟨rfl, hg, hgt⟩ := hg
      have e2 := (hgt env _).symm.trans hk
      obtain ⟨hany, q, y1, y2, y3⟩ := guardK_sound e2
      have hwant : ∀ (ρ : Ren) (a : Act), Reads s.ts env ρ a → Region.wanted o (yielded ops a.tmps) = q := by
        intro ρ a hr
        obtain ⟨V, v1, v2⟩ := hr t (by simp [DStep.ts, hsg]) _ rfl hany
        have := y3 ρ V v2
        simp only [Region.wanted, hog, yielded, hg, Option.bind_some, v1]
        exact this
      cases q with
      | true => exact actD_sound hs ho hwant (y1 rfl) hal hrun
      | false =>
        obtain ⟨env', hk, hp⟩ := hs.put.put (y2 rfl)
        have := al_add (e := s.p.ent env (.tup []) none) (pend' := pend) hal hrun (fun _ q => q) ho (.inl fun h F H W0 ρ w a K Q hF hr hrel _ hK => by
          unfold Does
          rw [hwant ρ a hr, if_neg (by simp)]
          exact ⟨fun f _ => hF.fn f, hK undef w ρ (Ren.le_refl _) (fun _ _ hu _ => hu) hrel (VRel.undef ρ)⟩)
        exact ⟨pend, env', h, _, hk, this.1, this.2, .inl ⟨_, none, hp, rfl, rfl⟩⟩
def Behind : List DStep → Prop
  | [] => True
  | s :: l => ((∃ X, s.X = .chain X) → ∀ q ∈ l, q.anc.testBit s.i = true) ∧ Behind l
theorem planK_sound {ops : Array Oper} {n : Nat} : ∀ {l : List DStep} (hs : ∀ s ∈ l, ∃ o, ops[s.i]? = some o ∧ DStepOk P ops n o s) (hb : Behind l) {pend : Pend} {env : Env} {h : Heap} {al : List Ent} {k : Env → Heap → Bool}, planK l pend env h k = true → AlInv P ops al pend → AlRun P ops al h →
    ∃ env' h', k env' h' = true ∧ Ok P ops (fun e1 h1 => e1 = env' ∧ h1 = h') (l.map DStep.p) al env h
  | [], _, _, pend, env, h, al, k, hk, _, _ => ⟨env, h, hk, rfl, rfl⟩
  | s :: l, hs, hb, pend, env, h, al, k, hk, hal, hrun => by
    obtain ⟨o, ho, hso⟩ := hs s (by simp)
    have hk : stepD s pend env h (fun pend' env' h' => planK l pend' env' h' k) = true := hk
    obtain ⟨pend1, env1, h1, al1, hk, hal1, hrun1, hcase⟩ := stepD_sound hso ho hk hal hrun
    obtain ⟨env2, h2, hk, hok⟩ := planK_sound (fun s' hs' => hs s' (by simp [hs'])) hb.2 hk hal1 hrun1
    refine ⟨env2, h2, hk, o, ho, ?_⟩
    rcases hcase with ⟨v, nb, hp, hm, rfl⟩ | ⟨hch, v, hp, hrc, hkeep⟩
    · exact .inl ⟨v, nb, env1, h1, hp, hm, hrun1, hok⟩
    · refine .inr ⟨v, env1, h1, al1, hp, hrc, fun q hq => ?_, hkeep, hrun1, hok⟩
      obtain ⟨s', hs', rfl⟩ := List.mem_map.1 hq
      exact hb.1 hch s' hs'
noncomputable def xDraw (l : List DStep) : XCode := fun env h K => planK l [] env h (fun env' h' => K .normal env' h')
theorem good_draw {n id : Nat} {ops : Array Oper} {l : List DStep} (hm : P.follows .mixedOrders = true) (hs : ∀ s ∈ l, ∃ o, ops[s.i]? = some o ∧ DStepOk P ops n o s) (hb : Behind l) (hp : PlanOk ops n (l.map DStep.p)) : Good P n (.region id ops true) (xDraw l) := by
  intro env h K hk
  obtain ⟨env', h', hk, hok⟩ := planK_sound (P := P) (ops := ops) (n := n) (al := []) hs hb hk (fun e he => by cases he) (fun e he => by cases he)
  refine ⟨.normal, env', h', hk, fun F H W0 D ρ a w Q hF hr hrel hQ => wpIn_region_any hm ?_⟩
  have hinj : ∀ p ∈ l.map DStep.p, ∀ q ∈ l.map DStep.p, p.i = q.i → p = q := by
    have key : ∀ (m : List PEnt), m.Pairwise (fun p q => Seq2 p.i p.dst p.ts q.i q.anc q.dst q.ts) → ∀ p ∈ m, ∀ q ∈ m, p.i = q.i → p = q := by
      intro m
      induction m with
      | nil => intro _ p hp; cases hp
      | cons x m ih =>
        intro hm p hp q hq hi
        obtain ⟨h1, h2⟩ := List.pairwise_cons.1 hm
        cases hp with
        | head =>
          cases hq with
          | head => rfl
          | tail _ hq => exact absurd hi (h1 q hq).ne
        | tail _ hp =>
          cases hq with
          | head => exact absurd hi.symm (h1 p hp).ne
          | tail _ hq => exact ih h2 p hp q hq hi
    exact key _ hp.pair
  have noOn : ∀ j, ¬ On (Array.replicate ops.size false) j := by
    intro j q
    unfold On at q
    by_cases hj : j < ops.size
    · simp [hj] at q
    · simp [Array.getD_eq_getD_getElem?, Array.getElem?_eq_none (show (Array.replicate ops.size false).size ≤ j by simp; omega)] at q
  refine sim hF (n := n) (D := D) (H := H) (W0 := W0) (env0 := env) (fin := fun e1 h1 => e1 = env' ∧ h1 = h') (plan := l.map DStep.p) hp hinj ops.size (l.map DStep.p) [] [] env h _ ρ ρ h a _ (by simp) hok ?_ ?_ (fun e he => by cases he) (fun e he => by cases he) (fun e he => by cases he) (by simp) ?_ (Ext.refl _ _) ?_
  · exact ⟨fun e he => (by cases he), fun e he => (by cases he), fun e he => (by cases he), fun e he => (by cases he), fun e he => (by cases he), fun _ _ => rfl, fun e he => (by cases he)⟩
  · exact ⟨hr.size, hr.defers, hrel.drawn rfl rfl rfl rfl, fun t u hu _ => (by cases hu; exact hr.get t), fun e he => (by cases he), fun e he => (by cases he), fun e he => (by cases he), fun j hj => absurd hj (noOn j)⟩
  · unfold unl
    exact Nat.le_trans (List.length_filter_le _ _) (by simp)
  · rintro e1 h1 a1 w1 ρ1 ⟨rfl, rfl⟩ hE hR hx
    exact hQ a1 w1 ρ1 hx hR hE
end Go.Proofs.YtddbhljljmijcaaGreat.V
