/- Functions, evaluated; calls. -/
import Derived.Test.YtddbhljljmijcaaGreatRq
import Derived.Tactics
namespace Go.Proofs.YtddbhljljmijcaaGreat.V
open Go.RowKit
set_option linter.unusedVariables false
set_option linter.unusedSimpArgs false
variable {P : Program}

/-! ### What a function returns -/
inductive CRes where
  | tmp (g : Get)
  | cell (g : Get) (row : Option Nat)
inductive ResOk (P : Program) : ResultVar → CRes → Prop
  | tmp {t : Nat} {g : Get} (h : GetOk g t) : ResOk P (.tmp t) (.tmp g)
  | cell {t : Nat} {g : Get} (h : GetOk g t) (ty : TypeId) (d : TypeDesc) (hd : P.underlying ty = some d) (ha : isAggD d = false) : ResOk P (.cell t ty) (.cell g none)
  | row {t : Nat} {g : Get} (h : GetOk g t) (ty : TypeId) (d : TypeDesc) (hd : P.underlying ty = some d) (ha : isAggD d = true) (inf : TypeInfo) (hi : P.info? ty = some inf) : ResOk P (.cell t ty) (.cell g (some inf.size))
noncomputable def ptrK (v : AV) (k : Nat → Nat → Bool) : Bool :=
  AV.rec (motive_1 := fun _ => Bool) (motive_2 := fun _ => Bool) (fun a => At.rec (motive_1 := fun _ => Bool) (motive_2 := fun _ => Bool) (fun _ => false) (fun _ _ => false) (fun _ => false) false k false false (fun _ _ _ _ _ _ => false) false (fun _ => false) false (fun _ _ _ _ _ => false) false (fun _ _ _ _ => false) a) (fun _ => false) (fun _ _ => false) false (fun _ => false) false (fun _ _ _ _ => false) v
theorem ptrK_sound {v : AV} {k : Nat → Nat → Bool} (h : ptrK v k = true) : ∃ b o, v = .one (.ptr b o) ∧ k b o = true := by
  cases v with
  | any => cases h
  | sym _ => cases h
  | agg l => cases h
  | tup l => cases h
  | one a =>
    cases a with
    | ptr b o => exact ⟨b, o, rfl, h⟩
    | _ => cases h
noncomputable def resK (r : CRes) (env : Env) (h : Heap) (k : AV → Bool) : Bool :=
  CRes.rec (motive := fun _ => Bool) (fun g => g env k) (fun g row => g env (fun p => ptrK p (fun b o => cellsK h b (fun c _ _ => Option.rec (motive := fun _ => Bool) (lgetK c o (fun a => k (.one a))) (fun n => lsubK c o n (fun l => k (.agg l))) row)))) r
def resRun (r : ResultVar) (tmps : Array Value) : Sem Value :=
  match r with
  | .tmp t => pure (tmps.getD t undef)
  | .cell a t => do loadVar t (← asAddr (tmps.getD a undef))
theorem resK_sound {r : ResultVar} {c : CRes} (hc : ResOk P r c) {env : Env} {h : Heap} {k : AV → Bool} (hk : resK c env h k = true) : ∃ v, k v = true ∧
    ∀ n D H W0 ρ w a, EnvR n D ρ env a → Rel H W0 ρ h w → ∃ V, (resRun r a.tmps).run P w = .ok V w ∧ VRel ρ v V := by
  cases hc with
  | tmp hg =>
    exact ⟨_, (hg env k).symm.trans hk, fun n D H W0 ρ w a hr hrel => ⟨_, rfl, hr.eval _⟩⟩
  | cell hgt ty d hd ha =>
    rename_i t g
    have hk0 := (hgt env _).symm.trans hk
    clear hk
    obtain ⟨b, o, h1, hk⟩ := ptrK_sound hk0
    obtain ⟨c, fz, byte, bd, hg, hk⟩ := cellsK_sound hk
    obtain ⟨at_, hc, hk⟩ := lgetK_sound _ _ _ hk
    refine ⟨_, hk, fun n D H W0 ρ w a hr hrel => ?_⟩
    have hp := vinv (h1 ▸ hr.eval t)
    generalize hx : a.tmps.getD t undef = X at hp
    obtain ⟨B, base, S, CS, el, fr, hb, _, hw, _, hcs, _⟩ := hrel.row hg hp.not_un
    cases hp with
    | ptrd q => rw [hb] at q; cases q
    | ptr q =>
      rw [hb] at q
      injection q with q1 q2
      subst q1; subst q2
      obtain ⟨v, hv, hr⟩ := hcs o at_ hc
      refine ⟨v, ?_, .one hr⟩
      simp [resRun, hx, asAddr, loadVar, run_isAgg hd, ha, cell_of B (base + o) hw, hv]
  | row hgt ty d hd ha inf hi =>
    rename_i t g
    have hk0 := (hgt env _).symm.trans hk
    clear hk
    obtain ⟨b, o, h1, hk⟩ := ptrK_sound hk0
    obtain ⟨c, fz, byte, bd, hg, hk⟩ := cellsK_sound hk
    obtain ⟨l, hl, hc, hk⟩ := lsubK_sound _ _ _ _ hk
    refine ⟨_, hk, fun n D H W0 ρ w a hr hrel => ?_⟩
    have hp := vinv (h1 ▸ hr.eval t)
    generalize hx : a.tmps.getD t undef = X at hp
    obtain ⟨B, base, S, CS, el, fr, hb, _, hw, _, hcs, _⟩ := hrel.row hg hp.not_un
    cases hp with
    | ptrd q => rw [hb] at q; cases q
    | ptr q =>
      rw [hb] at q
      injection q with q1 q2
      subst q1; subst q2
      have hcell : ∀ j, j < inf.size → ∃ v a, CS[base + o + j]? = some v ∧ l[j]? = some a ∧ ARel ρ a v := fun j hj => by
        obtain ⟨a, ha⟩ : ∃ a, l[j]? = some a := ⟨l[j]'(by omega), List.getElem?_eq_getElem _⟩
        obtain ⟨v, hv, hr⟩ := hcs (o + j) a ((hc j hj).trans ha)
        exact ⟨v, a, by rw [← hv]; congr 1; omega, ha, hr⟩
      have hrun : (loadCells ⟨B, base + o, none⟩ inf.size).run P w = .ok ((List.range inf.size).map (fun j => (CS[base + o + j]?).getD Go.undef)).toArray w := by
        have := run_loadCells (P := P) (w := w) ⟨B, base + o, none⟩ inf.size (fun j => (CS[base + o + j]?).getD Go.undef) (fun j hj => by
          obtain ⟨v, a, hv, _⟩ := hcell j hj
          rw [addr_add, cell_of B _ hw, hv]; rfl)
        rw [this]
      refine ⟨.agg ((List.range inf.size).map (fun j => (CS[base + o + j]?).getD Go.undef)).toArray, ?_, .agg ?_⟩
      · simp [resRun, hx, asAddr, loadVar, run_isAgg hd, ha, sizeOf, typeInfo, hi, hrun]
      · refine ARels.of_get (by simp [hl]) (fun j a v h1 h2 => ?_)
        have hj : j < inf.size := by have := (List.getElem?_eq_some_iff.1 h1).1; omega
        obtain ⟨v', a', e1, e2, e3⟩ := hcell j hj
        rw [h1] at e2
        cases e2
        simp only [List.getElem?_map, List.getElem?_range hj, e1, Option.map_some] at h2
        cases h2
        exact e3
inductive RessOk (P : Program) : List ResultVar → List CRes → Prop
  | nil : RessOk P [] []
  | cons {r c l m} (h : ResOk P r c) (t : RessOk P l m) : RessOk P (r :: l) (c :: m)
noncomputable def ressK (l : List CRes) (env : Env) (h : Heap) : (List AV → Bool) → Bool :=
  List.rec (motive := fun _ => (List AV → Bool) → Bool) (fun k => k []) (fun c _ ih k => resK c env h (fun v => ih (fun vs => k (v :: vs)))) l
theorem ressK_sound {env : Env} {h : Heap} : ∀ {l : List ResultVar} {m : List CRes} (hc : RessOk P l m) {k : List AV → Bool} (hk : ressK m env h k = true), ∃ vs, k vs = true ∧ vs.length = l.length ∧
    ∀ n D H W0 ρ w a, EnvR n D ρ env a → Rel H W0 ρ h w → ∃ Vs, (l.mapM (fun r => resRun r a.tmps)).run P w = .ok Vs w ∧ VRels ρ vs Vs
  | _, _, .nil, k, hk => ⟨[], hk, rfl, fun n D H W0 ρ w a hr hrel => ⟨[], rfl, .nil⟩⟩
  | _, _, .cons (c := c) (m := m) hx t, k, hk => by
    obtain ⟨v, h1, h2⟩ := resK_sound (k := fun v => ressK m env h (fun vs => k (v :: vs))) hx hk
    obtain ⟨vs, h3, hl, h4⟩ := ressK_sound t h1
    refine ⟨v :: vs, h3, by simp [hl], fun n D H W0 ρ w a hr hrel => ?_⟩
    obtain ⟨V, e1, e2⟩ := h2 n D H W0 ρ w a hr hrel
    obtain ⟨Vs, e3, e4⟩ := h4 n D H W0 ρ w a hr hrel
    exact ⟨V :: Vs, by simp [List.mapM_cons, e1, e3], .cons e2 e4⟩
/-- One value, or so many. -/
noncomputable def oneOfK (vs : List AV) (k : AV → Bool) : Bool :=
  List.rec (motive := fun _ => Bool) (k (.tup [])) (fun v l _ => List.rec (motive := fun _ => Bool) (k v) (fun u m _ => k (.tup (v :: u :: m))) l) vs
def oneOf : List Value → Value
  | [v] => v
  | vs => .tuple vs.toArray
theorem results_run {fn : Func} {L : List ResultVar} (hf : fn.results = L.toArray) {tmps : Array Value} {w : World} {Vs : List Value} (h : (L.mapM (fun r => resRun r tmps)).run P w = .ok Vs w) : (results fn tmps).run P w = .ok (oneOf Vs) w := by
  have e : results fn tmps = (do let vs ← fn.results.mapM (fun r => resRun r tmps); pure (if h : vs.size = 1 then vs[0] else .tuple vs)) := rfl
  rw [e, hf]
  simp only [List.mapM_toArray, Sem.run_bind]
  have : (List.toArray <$> List.mapM (fun r => resRun r tmps) L).run P w = .ok Vs.toArray w := by
    rw [map_eq_pure_bind, Sem.run_bind, h]
    rfl
  rw [this]
  match Vs with
  | [] => rfl
  | [v] => rfl
  | v :: u :: m => simp [oneOf]
theorem VRels.length {ρ : Ren} : ∀ {l : List AV} {L : List Value}, VRels ρ l L → l.length = L.length
  | _, _, .nil => rfl
  | _, _, .cons _ t => by simp [t.length]
theorem VRels.get {ρ : Ren} : ∀ {l : List AV} {L : List Value}, VRels ρ l L → ∀ (i : Nat) a, l[i]? = some a → ∃ v, L[i]? = some v ∧ VRel ρ a v
  | _, _, .nil, i, a, h => by simp at h
  | _, _, .cons h t, 0, a, e => by simp at e; subst e; exact ⟨_, rfl, h⟩
  | _, _, .cons h t, i + 1, a, e => by simpa using t.get i a (by simpa using e)
theorem oneOfK_sound {vs : List AV} {k : AV → Bool} (h : oneOfK vs k = true) : ∃ v, k v = true ∧ ∀ ρ Vs, VRels ρ vs Vs → VRel ρ v (oneOf Vs) := by
  match vs, h with
  | [], h => exact ⟨_, h, fun ρ Vs hV => by cases hV; exact .tup .nil⟩
  | [v], h => exact ⟨v, h, fun ρ Vs hV => by
      cases hV with | cons a t => ?_
      cases t
      exact a⟩
  | v :: u :: m, h => exact ⟨_, h, fun ρ Vs hV => by
      cases hV with | cons a t => ?_
      cases t with | cons b t => ?_
      exact .tup (.cons a (.cons b t))⟩

/-! ### Functions -/
/-- What a round of a range over a function comes to. -/
def YieldS (P : Program) (b : Nat) (vals : List AV) (h : Heap) (v : AV) (h' : Heap) : Prop :=
  (∀ (H : Nat) (W0 : World) (ρ : Ren) (w : World), Rel H W0 ρ h w → ρ b ≠ .dead) ∧
  ∀ (H : Nat) (W0 : World) (ρ : Ren) (w : World) (args : Array Value) (L base S : Nat), ρ b = .loc L base S → VRels ρ vals args.toList → Rel H W0 ρ h w → ∃ r, w.heap[L]? = some (.loop r) ∧ args.size = r.params.size ∧
    ∀ F, Wide F → RoundIn F 0 P L r.fn ((r.params.zip args).foldl (fun tmps (t, a) => tmps.setIfInBounds t a) r.tmps) r.assign r.body w (fun e w' => ∃ V ρ', e = .returned V ∧ Ext ρ h ρ' h' ∧ Rel H W0 ρ' h' w' ∧ VRel ρ' v V)
/-- What a function comes to, entered with these. -/
def FnS (P : Program) (f : FuncId) (vals : List AV) (h : Heap) (v : AV) (h' : Heap) : Prop :=
  (f < 1000000000 → ∀ (H : Nat) (W0 : World) (ρ : Ren) (w : World) (args : Array Value), VRels ρ vals args.toList → Rel H W0 ρ h w →
    ((callFunc f args).run P w = .ok (.enter f args) w ∧ Calls P f args w (fun e w' => ∃ V ρ', e = .returned V ∧ Ext ρ h ρ' h' ∧ Rel H W0 ρ' h' w' ∧ VRel ρ' v V)) ∨
    ∃ V w' ρ', (callFunc f args).run P w = .ok (.value V) w' ∧ Ext ρ h ρ' h' ∧ Rel H W0 ρ' h' w' ∧ VRel ρ' v V) ∧
  ∀ b, f = 1000000000 + b → YieldS P b vals h v h'
def FnGood (P : Program) (f : FuncId) (X : Xop) : Prop := ∀ vals h k, X vals h k = true → ∃ v h', k v h' = true ∧ FnS P f vals h v h'
/-- The results, at a function's end. -/
noncomputable def endK (rs : List CRes) (env : Env) (h : Heap) (k : AV → Heap → Bool) : Bool := ressK rs env h (fun vs => oneOfK vs (fun v => k v h))
noncomputable def xFn (np : Nat) (X : XCode) (rs : List CRes) : Xop := fun vals h k =>
  llenK vals (fun n => gd (Nat.ble n np) (entryK vals (fun env => X env h (fun e env' h' => Ex.rec (motive := fun _ => Bool) (endK rs env' h' k) (fun _ => false) (endK rs env' h' k) e))))
theorem endK_sound {fn : Func} {L : List ResultVar} {rs : List CRes} (hr : fn.results = L.toArray) (hrs : RessOk P L rs) {env : Env} {h : Heap} {k : AV → Heap → Bool} (hk : endK rs env h k = true) : ∃ v, k v h = true ∧ ∀ n D H W0 ρ w a, EnvR n D ρ env a → Rel H W0 ρ h w → ∃ V, (results fn a.tmps).run P w = .ok V w ∧ VRel ρ v V := by
  obtain ⟨vs, hk, _, hres⟩ := ressK_sound hrs hk
  obtain ⟨v, hk, hone⟩ := oneOfK_sound hk
  refine ⟨v, hk, fun n D H W0 ρ w a hE hR => ?_⟩
  obtain ⟨Vs, r1, r2⟩ := hres n D H W0 ρ w a hE hR
  exact ⟨_, results_run (P := P) hr r1, hone ρ Vs r2⟩
theorem entry_env {vals : List AV} {env : Env} (henv : ∀ t, env.slot t = (vals[t]?).getD .any) {np : Nat} (hn : vals.length ≤ np) {ρ : Ren} {args : Array Value} (hv : VRels ρ vals args.toList) : EnvR np [] ρ env { tmps := args ++ Array.replicate (np - args.size) undef, defers := [] } := by
  refine ⟨?_, rfl, fun t e => ?_⟩
  · have : args.size = vals.length := by have := hv.length; simpa using this.symm
    simp [this]; omega
  · rw [henv] at e ⊢
    cases hvt : vals[t]? with
    | none => rw [hvt] at e; cases e
    | some v =>
      obtain ⟨V, e3, e4⟩ := hv.get t v hvt
      have hlt : t < args.size := by simpa using (List.getElem?_eq_some_iff.1 e3).1
      refine ⟨V, ?_, e4⟩
      show (args ++ Array.replicate (np - args.size) undef)[t]? = some V
      rw [Array.getElem?_append_left hlt]
      simpa using e3
theorem good_fn {f : FuncId} {fn : Func} (hlt : f < 1000000000) (hf : P.funcs[f]? = some fn) (hname : (fn.name == "runtime.NumGoroutine") = false) {c : Code} (hb : fn.body = some c) {X : XCode} (hX : Good P fn.ntmps c X) {L : List ResultVar} (hr : fn.results = L.toArray) {rs : List CRes} (hrs : RessOk P L rs) : FnGood P f (xFn fn.ntmps X rs) := by
  intro vals h k hk
  rw [xFn, llenK_eq] at hk
  obtain ⟨hn, hk⟩ := gd_eq hk
  have hn : vals.length ≤ fn.ntmps := by simpa using hn
  obtain ⟨env, hk, henv⟩ := entryK_sound hk
  obtain ⟨e, env1, h1, hk, hS⟩ := hX _ _ _ hk
  have main : endK rs env1 h1 k = true ∧ (e = .normal ∨ e = .ret) := by
    cases e with
    | normal => exact ⟨hk, .inl rfl⟩
    | exit id => cases hk
    | ret => exact ⟨hk, .inr rfl⟩
  obtain ⟨hk, he⟩ := main
  obtain ⟨v, hk, hres⟩ := endK_sound hr hrs hk
  refine ⟨v, h1, hk, fun _ H W0 ρ w args hv hrel => .inl ⟨?_, ?_⟩, fun b hb => absurd (hb ▸ hlt : 1000000000 + b < 1000000000) (Nat.not_lt.2 (Nat.le_add_right 1000000000 b))⟩
  · have hn1 : fn.name ≠ "runtime.NumGoroutine" := by simpa using hname
    simp [callFunc, hf, hn1, hb]
  · refine calls_of_wp hf hb (wpIn_wide.1 (hS Fence.wide H W0 [] ρ _ w _ .wide (entry_env henv hn hv) hrel fun a' w' ρ' hx hR hE => ?_))
    obtain ⟨V, r1, r2⟩ := hres _ _ H W0 ρ' w' a' hE hR
    have fin : a'.defers = [] ∧ ∃ u, (results fn a'.tmps).run P w' = .ok u w' ∧ ∃ V ρ', Ending.returned u = .returned V ∧ Ext ρ h ρ' h1 ∧ Rel H W0 ρ' h1 w' ∧ VRel ρ' v V := ⟨hE.defers, _, r1, _, ρ', rfl, hx, hR, r2⟩
    rcases he with rfl | rfl <;> exact fin
end Go.Proofs.YtddbhljljmijcaaGreat.V
