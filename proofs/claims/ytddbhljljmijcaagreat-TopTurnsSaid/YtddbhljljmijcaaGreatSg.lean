/- Deferred calls; functions that leave with some. -/
import Derived.Test.YtddbhljljmijcaaGreatSf
namespace Go.Proofs.YtddbhljljmijcaaGreat.V
open Go.RowKit
set_option linter.unusedVariables false
set_option linter.unusedSimpArgs false
variable {P : Program}

/-! ### A region that ends with a defer -/
abbrev RXD := Env → Heap → (Env → Heap → List Pd → Bool) → Bool
def ROkD (P : Program) (ops : Array Oper) (n : Nat) (l : List Oper) (rx : RXD) : Prop := (∀ o ∈ l, ltO n o) → ∀ env h k, rx env h k = true → ∃ env' h' pd, k env' h' pd = true ∧ ∀ i, (∀ j o, l[j]? = some o → ops[i + j]? = some o) →
  ∀ (H : Nat) (W0 : World) (D : List Deferred) (ρ : Ren) (a : Act) (w : World) (Q : Exit → Act → World → Prop), EnvR n D ρ env a → Rel H W0 ρ h w →
    (∀ a' w' ρ' D', Ext ρ h ρ' h' → Rel H W0 ρ' h' w' → EnvR n (D' ++ D) ρ' env' a' → PdR w.heap.size w' ρ' pd D' → (∀ (k : Nat) (o : Obj), w.heap[k]? = some o → Quiet o → w'.heap[k]? = some o) → w.heap.size ≤ w'.heap.size → Q .normal a' w') → wpOpsIn Fence.wide 0 P ops Q (List.range' i l.length) a w
theorem Ext.pd {N : Nat} {w : World} {ρ : Ren} : PdR N w ρ [] [] := .nil
section
variable {ops : Array Oper} {n d t : Nat} {op : Op} {ty : TypeId} {pos : String} {af : Array Edge} {l : List Oper} {rx : RXD} {f : OX} {p : Put}
noncomputable def rDS (f : OX) (p : Put) (rx : RXD) : RXD := fun env h k => f env h (fun v h' => p v env (fun env' => rx env' h' k))
theorem rokD_s {o : Oper} (hg : o.guard = none) (hf : FOk P o f) (hp : DstOk o.dst p) (ht : ROkD P ops n l rx) : ROkD P ops n (o :: l) (rDS f p rx) := fun hlt env h k hk => by
  obtain ⟨env1, h1, e1, e2⟩ := fok_step hf hp (hlt o (by simp)) (k := fun env' h' => rx env' h' k) hk
  obtain ⟨env2, h2, pd, e3, e4⟩ := ht (fun o' ho' => hlt o' (by simp [ho'])) env1 h1 k e1
  refine ⟨env2, h2, pd, e3, fun i hl H W0 D ρ a w Q hr hrel hQ => ?_⟩
  have ho : ops[i]? = some o := by simpa using hl 0 o rfl
  rw [List.length_cons, List.range'_succ]
  simp only [wpOpsIn, ho]
  simp only [Region.wanted, hg, if_true]
  refine e2 Fence.wide H w D ρ a w (wpOpsIn Fence.wide 0 P ops Q (List.range' (i + 1) l.length)) Q .wide hr hrel.rebase fun a' w' ρ' hx hR hE => ?_
  exact e4 (i + 1) (fun j o' q => by
    have := hl (j + 1) o' (by simpa using q)
    rw [show i + 1 + j = i + (j + 1) by omega]; exact this) H W0 D ρ' a' w' Q hE (hrel.upto hR) fun a2 w2 ρ2 D2 hx2 hR2 hE2 hp2 hk2 hz2 => hQ a2 w2 ρ2 D2 (hx.trans hx2) hR2 hE2 (hp2.low hR.below.size) (fun k o hk q => hk2 k o (hR.keep k o hk q) q) (Nat.le_trans hR.below.size hz2)
theorem sd1 (hp : PutOk p d) (hf : FOk P ⟨some d, op, ty, pos, af, none⟩ f) (h : ROkD P ops n l rx) : ROkD P ops n (⟨some d, op, ty, pos, af, none⟩ :: l) (rDS f p rx) := rokD_s rfl hf (.some hp) h
noncomputable def rDE (g : Get) (gs : List Get) : RXD := fun env h k => g env (fun gv => fnK gv (fun f F C => gd (Nat.blt f 1000000000) (getsK gs env (fun vs => k env h [.call f F C vs]))))
theorem sde {x : Operand} {xs : Array Operand} {ats : Array TypeId} {g : Get} {gs : List Get} (hg : ArgG x g) (ha : ArgGs xs.toList gs) : ROkD P ops n [⟨none, .defer { callee := .value x, args := xs, argTypes := ats }, ty, pos, af, none⟩] (rDE g gs) := fun hlt env h k hk => by
  obtain ⟨gv, g1, g2⟩ := hg env
  have hk : g env _ = true := hk
  rw [g1] at hk
  obtain ⟨f, F, C, rfl, k1⟩ := fnK_sound hk
  clear hk
  obtain ⟨e1, k2⟩ := gd_eq k1
  clear k1
  obtain ⟨vs, k3, e3⟩ := getsK_sound ha k2
  have hfl : f < 1000000000 := by simpa [Nat.blt_eq] using e1
  refine ⟨env, h, _, k3, fun i hl H W0 D ρ a w Q hr hrel hQ => ?_⟩
  have ho := hl 0 _ rfl
  simp only [Nat.add_zero] at ho
  simp only [List.length_singleton, List.range'_one, wpOpsIn, ho, Region.wanted, if_true]
  have hv := vinv (g2 n D ρ a hr)
  generalize hX : a.eval x = X at hv
  cases hv with
  | yl q => exact absurd hfl (Nat.not_lt.2 (Nat.le_add_right _ _))
  | yld q => exact absurd hfl (Nat.not_lt.2 (Nat.le_add_right _ _))
  | @fn _ _ _ FV CV _ hF hC =>
    unfold Oper.wpIn
    refine ⟨fun f _ => trivial, ?_⟩
    have hexec : (execOp a.eval (⟨none, .defer { callee := .value x, args := xs, argTypes := ats }, ty, pos, af, none⟩ : Oper)).run P w = .ok (.defer ⟨.fn (.func f) CV.toArray, FV.toArray ++ xs.map a.eval⟩) w := by
      unfold execOp
      simp only [resolve, hX, Deferred.ofValue]
      rfl
    show Oper.uponIn Fence.wide 0 P _ a _ Q ((execOp a.eval (⟨none, .defer { callee := .value x, args := xs, argTypes := ats }, ty, pos, af, none⟩ : Oper)).run P w)
    rw [hexec]
    refine hQ _ w ρ [⟨.fn (.func f) CV.toArray, FV.toArray ++ xs.map a.eval⟩] (Ext.refl _ _) hrel ⟨hr.size, by show _ :: a.defers = _; rw [hr.defers]; rfl, hr.get⟩ ?_ (fun _ _ h _ => h) (Nat.le_refl _)
    have := PdR.call (N := w.heap.size) (w := w) (pd := []) (D := []) hfl hF hC (e3 n D ρ a hr) .nil
    rw [tolist_map a.eval xs]
    exact this
end
noncomputable def xRegD (rx : RXD) : XCodeM := fun env h K => rx env h (fun env' h' pd => K .normal env' h' pd)
theorem mD {n id : Nat} {ops : Array Oper} {rx : RXD} (hs : ROkD P ops n ops.toList rx) (hl : ltOs n ops.toList = true) : GoodM P n (.region id ops false) (xRegD rx) := by
  intro env h K hk
  obtain ⟨env', h', pd, e1, e2⟩ := hs (ltOs_sound hl) env h _ hk
  refine ⟨.normal, env', h', pd, e1, fun H W0 D ρ a w Q hr hrel hQ => wpIn_region ?_⟩
  have := e2 0 (fun j o q => by simpa using q) H W0 D ρ a w Q hr hrel hQ
  rw [List.range_eq_range']
  simpa using this

/-! ### Functions that are deferred -/
def DefGood (P : Program) (f : FuncId) (X : Xop) : Prop := ∀ vals h k, X vals h k = true → ∃ v h', k v h' = true ∧ ∀ (H : Nat) (W0 : World) (ρ : Ren) (w : World) (args : Array Value), VRels ρ vals args.toList → Rel H W0 ρ h w →
  (callFunc f args).run P w = .ok (.enter f args) w ∧ ∀ u, CallsDIn Fence.wide 0 P f args u w (fun e u' w' => u' = u ∧ ∃ V ρ', e = .returned V ∧ Ext ρ h ρ' h' ∧ Rel H W0 ρ' h' w' ∧ VRel ρ' v V)
theorem fD {f : FuncId} {fn : Func} {np : Nat} {c : Code} {X : XCode} {L : List ResultVar} {rs : List CRes} (hf : P.funcs[f]? = some fn) (hname : (fn.name == "runtime.NumGoroutine") = false) (hnp : fn.ntmps = np) (hr : fn.results = L.toArray) (hb : fn.body = some c) (hX : Good P np c X) (hrs : RessOk P L rs) : DefGood P f (xFn np X rs) := by
  subst hnp
  intro vals h k hk
  rw [xFn, llenK_eq] at hk
  obtain ⟨hn, k1⟩ := gd_eq hk
  clear hk
  have hn : vals.length ≤ fn.ntmps := by simpa using hn
  obtain ⟨env, k2, henv⟩ := entryK_sound k1
  obtain ⟨e, env1, h1, k3, hS⟩ := hX _ _ _ k2
  have main : endK rs env1 h1 k = true ∧ (e = .normal ∨ e = .ret) := by
    cases e with
    | normal => exact ⟨k3, .inl rfl⟩
    | exit id => cases k3
    | ret => exact ⟨k3, .inr rfl⟩
  obtain ⟨k4, he⟩ := main
  obtain ⟨v, k5, hres⟩ := endK_sound hr hrs k4
  refine ⟨v, h1, k5, fun H W0 ρ w args hv hrel => ⟨?_, fun u => ?_⟩⟩
  · have hn1 : fn.name ≠ "runtime.NumGoroutine" := by simpa using hname
    simp [callFunc, hf, hn1, hb]
  · refine callsDIn_of_wp (R := fun e w' => ∃ V ρ', e = .returned V ∧ Ext ρ h ρ' h1 ∧ Rel H W0 ρ' h1 w' ∧ VRel ρ' v V) hf hb trivial (hS Fence.wide H W0 [] ρ _ w _ .wide (entry_env henv hn hv) hrel fun a' w' ρ' hx hR hE => ?_)
    obtain ⟨V, r1, r2⟩ := hres _ _ H W0 ρ' w' a' hE hR
    have fin : a'.defers = [] ∧ ∃ u, (results fn a'.tmps).run P w' = .ok u w' ∧ ∃ V ρ', Ending.returned u = .returned V ∧ Ext ρ h ρ' h1 ∧ Rel H W0 ρ' h1 w' ∧ VRel ρ' v V := ⟨hE.defers, _, r1, _, ρ', rfl, hx, hR, r2⟩
    rcases he with rfl | rfl <;> exact fin
def TblD (P : Program) (t : List (Nat × Xop)) : Prop := ∀ p ∈ t, DefGood P p.1 p.2
theorem td0 : TblD P [] := fun p hp => by cases hp
theorem td1 {f : Nat} {X : Xop} {t : List (Nat × Xop)} (h : DefGood P f X) (ht : TblD P t) : TblD P ((f, X) :: t) := fun p hp => by
  cases hp with
  | head => exact h
  | tail _ hp => exact ht p hp

/-! ### What is done at a function's end -/
noncomputable def pendsK (tb : List (Nat × Xop)) (pd : List Pd) : Heap → (Heap → Bool) → Bool :=
  List.rec (motive := fun _ => Heap → (Heap → Bool) → Bool) (fun h k => k h) (fun p _ ih h k => Pd.rec (motive := fun _ => Bool) (ih h k) (fun f F C args => tblK tb f (fun X => onesK F (fun F => onesK C (fun C => lappK args C (fun r => lappK F r (fun all => X all h (fun _ h' => ih h' k))))))) p) pd
theorem PdR.other {N : Nat} {w w' : World} {ρ : Ren} {r : Nat} (hk : ∀ k, k ≠ r → w'.heap[k]? = w.heap[k]?) : ∀ {pd : List Pd} {D : List Deferred}, PdR N w ρ pd D → (∀ d ∈ D, d.target ≠ .collected r) → PdR N w' ρ pd D
  | _, _, .nil, _ => .nil
  | _, _, .mark (r := r') hr hw t hd, h => .mark hr ((hk r' (fun q => h _ (List.mem_cons_self) (by rw [q]))).trans hw) (t.other hk fun d hm => h d (List.mem_cons_of_mem _ hm)) hd
  | _, _, .call hf h1 h2 h3 t, h => .call hf h1 h2 h3 (t.other hk fun d hm => h d (List.mem_cons_of_mem _ hm))
theorem Rel.putDeferred {H : Nat} {W0 : World} {ρ : Ren} {h : Heap} {w : World} (hrel : Rel H W0 ρ h w) {r : Nat} {ds : Option (List Deferred)} (hr : W0.heap.size ≤ r) (hw : w.heap[r]? = some (.deferred ds)) (o : Obj) : Rel H W0 ρ h (w.putObj r o) := by
  have hHr : H ≤ r := Nat.le_trans hrel.base hr
  refine ⟨hrel.base, hrel.below.trans (below_putObj hHr o), fun b B base S e => ?_, hrel.dead, hrel.fresh, hrel.inj, fun k o' hk q => ?_⟩
  · obtain ⟨ob, g, hB, x⟩ := hrel.live b B base S e
    refine ⟨ob, g, hB, x.same (World.putObj_heap_other fun q => ?_)⟩
    subst q
    cases ob with
    | cells c fz byte bd => obtain ⟨_, _, _, h1, _⟩ := x; rw [hw] at h1; cases h1
    | map es => obtain ⟨_, _, h1, _⟩ := x; rw [hw] at h1; cases h1
    | gone => obtain ⟨_, h1⟩ := x; rw [hw] at h1; cases h1
    | loop env n rid => obtain ⟨_, h1, _⟩ := x; rw [hw] at h1; cases h1
  · have := (Array.getElem?_eq_some_iff.1 hk).1
    exact (World.putObj_heap_other (by omega)).trans (hrel.keep k o' hk q)
theorem pends_sound {tb : List (Nat × Xop)} (ht : TblD P tb) : ∀ (pd : List Pd) {h : Heap} {k : Heap → Bool}, pendsK tb pd h k = true → ∃ h', k h' = true ∧ ∀ (fn : Func) (tmps : Array Value) (R : Ending → World → Prop) (H : Nat) (W0 : World) (N : Nat) (ρ : Ren) (w : World) (D : List Deferred), W0.heap.size ≤ N → PdR N w ρ pd D → Rel H W0 ρ h w →
    (∀ ρ' w', Ext ρ h ρ' h' → Rel H W0 ρ' h' w' → LeavesIn Fence.wide 0 P fn tmps R [] .returning w') → LeavesInM Fence.wide 0 P fn tmps R D .returning w
  | [], h, k, hk => ⟨h, hk, fun fn tmps R H W0 N ρ w D hN hp hrel hR => by
      cases hp
      exact hR ρ w (Ext.refl _ _) hrel⟩
  | .mark :: pd, h, k, hk => by
    obtain ⟨h', k1, hS⟩ := pends_sound ht pd (show pendsK tb pd h k = true from hk)
    refine ⟨h', k1, fun fn tmps R H W0 N ρ w D hN hp hrel hR => ?_⟩
    cases hp with
    | @mark r dargs _ D hr hw t hd =>
      refine ⟨nofun, .inl ⟨r, _, rfl, run_takeDeferred hw, ?_⟩⟩
      exact hS fn tmps R H W0 N ρ _ D hN (t.other (fun k hk => World.putObj_heap_other hk) hd) (hrel.putDeferred (Nat.le_trans hN hr) hw _) hR
  | .call f F C args :: pd, h, k, hk => by
    have hk : tblK tb f (fun X => onesK F (fun F => onesK C (fun C => lappK args C (fun r => lappK F r (fun all => X all h (fun _ h' => pendsK tb pd h' k)))))) = true := hk
    obtain ⟨X, hm, k1⟩ := tblK_sound hk
    rw [onesK_eq, onesK_eq, lappK_eq, lappK_eq] at k1
    obtain ⟨v, h1, k2, hX⟩ := ht _ hm _ _ _ k1
    obtain ⟨h', k3, hS⟩ := pends_sound ht pd k2
    refine ⟨h', k3, fun fn tmps R H W0 N ρ w D hN hp hrel hR => ?_⟩
    cases hp with
    | @call _ _ _ _ FV CV AV' _ D hf h1' h2' h3' t =>
      have hargs : VRels ρ (F.map .one ++ (args ++ C.map .one)) ((FV.toArray ++ AV'.toArray) ++ CV.toArray).toList := by
        have e : ((FV.toArray ++ AV'.toArray) ++ CV.toArray).toList = FV ++ (AV' ++ CV) := by simp
        rw [e]
        exact h1'.ones.append (h3'.append h2'.ones)
      obtain ⟨c1, c2⟩ := hX H w ρ w _ hargs hrel.rebase
      refine ⟨nofun, .inr ⟨nofun, .func f, CV.toArray, f, (FV.toArray ++ AV'.toArray) ++ CV.toArray, rfl, c1, fun _ _ => trivial, ?_⟩⟩
      refine (c2 .returning).mono fun e u' w' he => ?_
      obtain ⟨rfl, V, ρ', rfl, hx, hR1, _⟩ := he
      refine hS fn tmps R H W0 N ρ' w' D hN (t.keep hx.le (fun k o => hR1.keep k o)) (hrel.upto hR1) fun ρ2 w2 hx2 hR2 => hR ρ2 w2 (hx.trans hx2) hR2
noncomputable def xFnM (np : Nat) (tb : List (Nat × Xop)) (X : XCodeM) (rs : List CRes) : Xop := fun vals h k =>
  llenK vals (fun n => gd (Nat.ble n np) (entryK vals (fun env => X env h (fun e env' h' pd => Ex.rec (motive := fun _ => Bool) (pendsK tb pd h' (fun h' => endK rs env' h' k)) (fun _ => false) (pendsK tb pd h' (fun h' => endK rs env' h' k)) e))))
/-- What a frame's temporaries say is kept where memory turns. -/
theorem EnvR.ext {n : Nat} {D D' : List Deferred} {ρ ρ' : Ren} {env : Env} {a : Act} (h : EnvR n D ρ env a) (hl : Ren.le ρ ρ') : EnvR n D' ρ' env ⟨a.tmps, D'⟩ :=
  ⟨h.size, rfl, fun t e => let ⟨V, h1, h2⟩ := h.get t e; ⟨V, h1, h2.mono hl⟩⟩
theorem fM {f : FuncId} {fn : Func} {np : Nat} {c : Code} {X : XCodeM} {L : List ResultVar} {rs : List CRes} {tb : List (Nat × Xop)} (hlt : Nat.blt f 1000000000 = true) (hf : P.funcs[f]? = some fn) (hname : (fn.name == "runtime.NumGoroutine") = false) (hnp : fn.ntmps = np) (hr : fn.results = L.toArray) (hb : fn.body = some c) (ht : TblD P tb) (hX : GoodM P np c X) (hrs : RessOk P L rs) : FnGood P f (xFnM np tb X rs) := by
  subst hnp
  intro vals h k hk
  have hfl : f < 1000000000 := by simpa [Nat.blt_eq] using hlt
  rw [xFnM, llenK_eq] at hk
  obtain ⟨hn, k1⟩ := gd_eq hk
  clear hk
  have hn : vals.length ≤ fn.ntmps := by simpa using hn
  obtain ⟨env, k2, henv⟩ := entryK_sound k1
  obtain ⟨e, env1, h1, pd, k3, hS⟩ := hX _ _ _ k2
  have main : pendsK tb pd h1 (fun h' => endK rs env1 h' k) = true ∧ (e = .normal ∨ e = .ret) := by
    cases e with
    | normal => exact ⟨k3, .inl rfl⟩
    | exit id => cases k3
    | ret => exact ⟨k3, .inr rfl⟩
  obtain ⟨k4, he⟩ := main
  obtain ⟨h2, k5, hpd⟩ := pends_sound ht pd k4
  obtain ⟨v, k6, hres⟩ := endK_sound hr hrs k5
  refine ⟨v, h2, k6, fun _ H W0 ρ w args hv hrel => .inl ⟨?_, ?_⟩, fun b hb => absurd (hb ▸ hfl : 1000000000 + b < 1000000000) (Nat.not_lt.2 (Nat.le_add_right 1000000000 b))⟩
  · have hn1 : fn.name ≠ "runtime.NumGoroutine" := by simpa using hname
    simp [callFunc, hf, hn1, hb]
  · refine callsIn_wide.1 (callsIn_of_wp_marks (n := 0) hf hb trivial (hS H W0 [] ρ _ w _ (entry_env henv hn hv) hrel fun a' w' ρ' D' hx hR hE hp hkq hz => ?_))
    have hD : a'.defers = D' := by rw [hE.defers, List.append_nil]
    have fin : LeavesInM Fence.wide 0 P fn a'.tmps (fun e w' => ∃ V ρ', e = .returned V ∧ Ext ρ h ρ' h2 ∧ Rel H W0 ρ' h2 w' ∧ VRel ρ' v V) a'.defers .returning w' := by
      rw [hD]
      refine hpd fn a'.tmps _ H W0 w.heap.size ρ' w' D' hrel.below.size hp hR fun ρ2 w2 hx2 hR2 => ?_
      obtain ⟨V, r1, r2⟩ := hres _ _ H W0 ρ2 w2 _ (hE.ext (D' := []) hx2.le) hR2
      exact ⟨V, r1, V, ρ2, rfl, hx.trans hx2, hR2, r2⟩
    rcases he with rfl | rfl <;> exact fin
end Go.Proofs.YtddbhljljmijcaaGreat.V
