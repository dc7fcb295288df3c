/- Calls. -/
import Derived.Test.YtddbhljljmijcaaGreatRr
import Derived.Laws.Externs
namespace Go.Proofs.YtddbhljljmijcaaGreat.V
open Go.RowKit
set_option linter.unusedVariables false
set_option linter.unusedSimpArgs false
variable {P : Program}

theorem VRels.append {ρ : Ren} : ∀ {l : List AV} {L : List Value} {m : List AV} {M : List Value}, VRels ρ l L → VRels ρ m M → VRels ρ (l ++ m) (L ++ M)
  | _, _, _, _, .nil, h => h
  | _, _, _, _, .cons h t, h' => .cons h (t.append h')
theorem ARels.ones {ρ : Ren} : ∀ {l : List At} {L : List Value}, ARels ρ l L → VRels ρ (l.map .one) L
  | _, _, .nil => .nil
  | _, _, .cons h t => .cons (.one h) t.ones
noncomputable def onesK (l : List At) : (List AV → Bool) → Bool := List.rec (motive := fun _ => (List AV → Bool) → Bool) (fun k => k []) (fun a _ ih k => ih (fun r => k (.one a :: r))) l
theorem onesK_eq : ∀ (l : List At) (k : List AV → Bool), onesK l k = k (l.map .one)
  | [], k => rfl
  | a :: l, k => onesK_eq l _
noncomputable def tblK (t : List (Nat × Xop)) (f : Nat) (k : Xop → Bool) : Bool :=
  List.rec (motive := fun _ => Bool) false (fun p _ ih => Prod.rec (motive := fun _ => Bool) (fun g X => sel (Nat.beq g f) (k X) ih) p) t
def TblOk (P : Program) (t : List (Nat × Xop)) : Prop := ∀ p ∈ t, FnGood P p.1 p.2
theorem TblOk.nil : TblOk P [] := fun p hp => by cases hp
theorem TblOk.cons {f : Nat} {X : Xop} {t : List (Nat × Xop)} (h : FnGood P f X) (ht : TblOk P t) : TblOk P ((f, X) :: t) := fun p hp => by
  cases hp with
  | head => exact h
  | tail _ hp => exact ht p hp
theorem tblK_sound {f : Nat} {k : Xop → Bool} : ∀ {t : List (Nat × Xop)}, tblK t f k = true → ∃ X, (f, X) ∈ t ∧ k X = true
  | [], h => by cases h
  | (g, X) :: t, h => by
    have h0 : sel (Nat.beq g f) (k X) (tblK t f k) = true := h
    clear h
    rw [sel_eq] at h0
    by_cases e : g = f
    · rw [if_pos (by simpa using e)] at h0
      subst e
      exact ⟨X, by simp, h0⟩
    · rw [if_neg (by simpa using e)] at h0
      obtain ⟨Y, h1, h2⟩ := tblK_sound h0
      exact ⟨Y, by simp [h1], h2⟩
noncomputable def fnK (v : AV) (k : Nat → List At → List At → Bool) : Bool :=
  AV.rec (motive_1 := fun _ => Bool) (motive_2 := fun _ => Bool) (fun a => At.rec (motive_1 := fun _ => Bool) (motive_2 := fun _ => Bool) (fun _ => false) (fun _ _ => false) (fun _ => false) false (fun _ _ => false) false false (fun _ _ _ _ _ _ => false) false (fun _ => false) false (fun a0 a1 a2 _ _ => k a0 a1 a2) false (fun _ _ _ _ => false) a) (fun _ => false) (fun _ _ => false) false (fun _ => false) false (fun _ _ _ _ => false) v
theorem fnK_sound {v : AV} {k : Nat → List At → List At → Bool} (h : fnK v k = true) : ∃ f F C, v = .one (.fn f F C) ∧ k f F C = true := by
  cases v with
  | any => cases h
  | sym _ => cases h
  | agg l => cases h
  | tup l => cases h
  | one a =>
    cases a with
    | fn f F C => exact ⟨f, F, C, rfl, h⟩
    | _ => cases h
noncomputable def xCall (t : List (Nat × Xop)) : Xop := fun vals h k =>
  List.rec (motive := fun _ => Bool) false (fun v vs _ => fnK v (fun f F C => tblK t f (fun X => onesK F (fun F => onesK C (fun C => lappK vs C (fun r => lappK F r (fun all => X all h k))))))) vals
theorem s_call (o : Oper) (fop : Operand) (xs : Array Operand) (ats : Array TypeId) (ho : o.op = .call { callee := .value fop, args := xs, argTypes := ats }) {t : List (Nat × Xop)} (ht : TblOk P t) : XOk P o (xCall t) := by
  intro vals h k hk
  cases vals with
  | nil => cases hk
  | cons v vs =>
    obtain ⟨f, F, C, hv0, hk1⟩ := fnK_sound (v := v) hk
    clear hk
    subst hv0
    obtain ⟨X, hm, hk2⟩ := tblK_sound hk1
    rw [onesK_eq, onesK_eq, lappK_eq, lappK_eq] at hk2
    obtain ⟨r, h', hk3, hS⟩ := ht _ hm _ _ _ hk2
    refine ⟨r, h', hk3, fun Fc H W0 ρ w a K Q hFc hv hrel hK => ?_⟩
    have hops : o.op.operands.toList = fop :: xs.toList := by rw [ho]; simp [Op.operands, Call.operands]
    rw [hops, List.map_cons] at hv
    cases hv with | cons h1 h2 => ?_
    have h1 := vinv h1
    have hnd : ∀ c, o.op ≠ .defer c := fun c hc => by rw [ho] at hc; cases hc
    unfold Oper.wpIn
    refine ⟨fun f _ => hFc.fn f, ?_⟩
    rw [Oper.semAt_eq _ _ _ hnd]
    generalize hx : a.eval fop = X0 at h1
    have yl : ∀ (b L base S : Nat), f = 1000000000 + b → F = [] → C = [] → X0 = .func (.yield L) #[] #[] → ρ b = .loc L base S → o.uponIn Fc 0 P a K Q ((execOp a.eval o).run P w) := by
      intro b L base S hf0 hF0 hC0 hX0 hρ
      subst hF0; subst hC0; subst hX0
      have hargs : VRels ρ (List.map AV.one [] ++ (vs ++ List.map AV.one [])) (xs.map a.eval).toList := by
        simpa using h2
      obtain ⟨r0, e1, e2, e3⟩ := (hS.2 b hf0).2 H W0 ρ w (xs.map a.eval) L base S hρ hargs hrel
      have hexec : (execOp a.eval o).run P w = .ok (.round L r0.fn ((r0.params.zip (xs.map a.eval)).foldl (fun tmps (t, a) => tmps.setIfInBounds t a) r0.tmps) r0.assign r0.body) w := by
        unfold execOp
        rw [ho]
        simp [resolve, hx, Deferred.ofValue, invoke]
        have := run_yield (P := P) (args := xs.map a.eval) e1 e2
        simpa using this
      rw [hexec]
      refine ⟨hFc.deep, (e3 Fc hFc).mono fun e w' he => ?_⟩
      obtain ⟨V, ρ', rfl, hx', hR, hV⟩ := he
      exact hK V w' ρ' hx' hR hV
    cases h1 with
    | yl hb => exact yl _ _ _ _ rfl rfl rfl rfl hb
    | yld hb => exact absurd hb ((hS.2 _ rfl).1 H W0 ρ w hrel)
    | fn hlt hF hC =>
      rename_i FV CV
      have hargs : VRels ρ (F.map .one ++ (vs ++ C.map .one)) (FV.toArray ++ xs.map a.eval ++ CV.toArray).toList := by
        have e : (FV.toArray ++ xs.map a.eval ++ CV.toArray).toList = FV ++ (xs.toList.map a.eval ++ CV) := by simp
        rw [e]
        exact hF.ones.append (h2.append hC.ones)
      have hexec : (execOp a.eval o).run P w = (callFunc f (FV.toArray ++ xs.map a.eval ++ CV.toArray)).run P w := by
        unfold execOp
        rw [ho]
        simp [resolve, hx, Deferred.ofValue, invoke]
      rw [hexec]
      rcases hS.1 hlt H W0 ρ w _ hargs hrel with ⟨e1, e2⟩ | ⟨V, w', ρ', e1, e2, e3, e4⟩
      · rw [e1]
        refine ⟨hFc.deep, hFc.calls (Calls.mono e2 fun e w' he => ?_)⟩
        obtain ⟨V, ρ', rfl, hx', hR, hV⟩ := he
        exact hK V w' ρ' hx' hR hV
      · rw [e1]
        exact hK V w' ρ' e2 e3 e4
/-- A function that has no body and answers what it is asked with. -/
noncomputable def xSame : Xop := fun vals h k => List.rec (motive := fun _ => Bool) false (fun v vs _ => List.rec (motive := fun _ => Bool) (k v h) (fun _ _ _ => false) vs) vals
theorem good_same {f : FuncId} {fn : Func} {e : Array Value → Sem Value} (hf : P.funcs[f]? = some fn) (hname : (fn.name == "runtime.NumGoroutine") = false) (hb : fn.body.isNone = true) (hn : Extern.findNext fn = none) (he : Extern.find fn = some e)
    (hlt : f < 1000000000) (hs : ∀ (V : Value) (w : World), (e #[V]).run P w = .ok V w) : FnGood P f xSame := by
  intro vals h k hk
  match vals, hk with
  | [v], hk =>
    refine ⟨v, h, hk, fun _ H W0 ρ w args hv hrel => .inr ?_, fun b hb => absurd (hb ▸ hlt : 1000000000 + b < 1000000000) (Nat.not_lt.2 (Nat.le_add_right 1000000000 b))⟩
    cases args with | mk L => ?_
    cases hv with | cons h1 h2 => ?_
    cases h2
    rename_i V
    refine ⟨V, w, ρ, ?_, Ext.refl _ _, hrel, h1⟩
    rw [run_callFunc_extern hf hname hb hn he, hs]
    rfl
end Go.Proofs.YtddbhljljmijcaaGreat.V
