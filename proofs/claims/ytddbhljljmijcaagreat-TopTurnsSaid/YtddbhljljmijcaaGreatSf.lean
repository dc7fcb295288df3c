/- Code that defers, or ranges over a function; the functions that hold it. -/
import Derived.Test.YtddbhljljmijcaaGreatSe
import Derived.DefersIn
namespace Go.Proofs.YtddbhljljmijcaaGreat.V
open Go.RowKit
set_option linter.unusedVariables false
set_option linter.unusedSimpArgs false
variable {P : Program}

/-- What is done when a function ends: nothing (a mark), or a call. -/
inductive Pd where
  | mark
  | call (f : Nat) (first caps : List At) (args : List AV)
/-- The deferred calls, as they are; marks' blocks lie from N on. -/
inductive PdR (N : Nat) (w : World) (ρ : Ren) : List Pd → List Deferred → Prop
  | nil : PdR N w ρ [] []
  | mark {r : Nat} {dargs : Array Value} {pd : List Pd} {D : List Deferred} (hr : N ≤ r) (hw : w.heap[r]? = some (.deferred (some []))) (t : PdR N w ρ pd D) (hd : ∀ d ∈ D, d.target ≠ .collected r) : PdR N w ρ (.mark :: pd) (⟨.collected r, dargs⟩ :: D)
  | call {f : Nat} {first caps : List At} {args : List AV} {F C A : List Value} {pd : List Pd} {D : List Deferred} (hf : f < 1000000000) (h1 : ARels ρ first F) (h2 : ARels ρ caps C) (h3 : VRels ρ args A) (t : PdR N w ρ pd D) : PdR N w ρ (.call f first caps args :: pd) (⟨.fn (.func f) C.toArray, F.toArray ++ A.toArray⟩ :: D)
theorem PdR.low {N N' : Nat} {w : World} {ρ : Ren} (hn : N' ≤ N) : ∀ {pd : List Pd} {D : List Deferred}, PdR N w ρ pd D → PdR N' w ρ pd D
  | _, _, .nil => .nil
  | _, _, .mark hr hw t hd => .mark (Nat.le_trans hn hr) hw (t.low hn) hd
  | _, _, .call hf h1 h2 h3 t => .call hf h1 h2 h3 (t.low hn)
theorem PdR.keep {N : Nat} {w w' : World} {ρ ρ' : Ren} (hl : Ren.le ρ ρ') (hk : ∀ (k : Nat) (o : Obj), w.heap[k]? = some o → Quiet o → w'.heap[k]? = some o) : ∀ {pd : List Pd} {D : List Deferred}, PdR N w ρ pd D → PdR N w' ρ' pd D
  | _, _, .nil => .nil
  | _, _, .mark hr hw t hd => .mark hr (hk _ _ hw trivial) (t.keep hl hk) hd
  | _, _, .call hf h1 h2 h3 t => .call hf (h1.mono hl) (h2.mono hl) (VRels.mono hl h3) (t.keep hl hk)
theorem PdR.lt {N : Nat} {w : World} {ρ : Ren} : ∀ {pd : List Pd} {D : List Deferred}, PdR N w ρ pd D → ∀ d ∈ D, ∀ r, d.target = .collected r → r < w.heap.size
  | _, _, .mark hr hw t hd, d, hm, r, e => by
    cases hm with
    | head => cases e; exact (Array.getElem?_eq_some_iff.1 hw).1
    | tail _ hm => exact t.lt d hm r e
  | _, _, .call _ _ _ _ t, d, hm, r, e => by
    cases hm with
    | head => cases e
    | tail _ hm => exact t.lt d hm r e
/-- Those of two, one behind the other: the later ones first. -/
theorem PdR.append {N M : Nat} {w : World} {ρ : Ren} {pd' : List Pd} {D' : List Deferred} (hn : N ≤ M) (hD : ∀ d ∈ D', ∀ r, d.target = .collected r → r < M) (t' : PdR N w ρ pd' D') : ∀ {pd : List Pd} {D : List Deferred}, PdR M w ρ pd D → PdR N w ρ (pd ++ pd') (D ++ D')
  | _, _, .nil => t'
  | _, _, .mark hr hw t hd => .mark (Nat.le_trans hn hr) hw (PdR.append hn hD t' t) (fun d hm e => by
      rcases List.mem_append.1 hm with q | q
      · exact hd d q e
      · have := hD d q _ e
        omega)
  | _, _, .call hf h1 h2 h3 t => .call hf h1 h2 h3 (PdR.append hn hD t' t)

abbrev XCodeM := Env → Heap → (Ex → Env → Heap → List Pd → Bool) → Bool
def CodeM (P : Program) (n : Nat) (c : Code) (env : Env) (h : Heap) (e : Ex) (env' : Env) (h' : Heap) (pd : List Pd) : Prop :=
  ∀ (H : Nat) (W0 : World) (D : List Deferred) (ρ : Ren) (a : Act) (w : World) (Q : Exit → Act → World → Prop), EnvR n D ρ env a → Rel H W0 ρ h w →
    (∀ a' w' ρ' D', Ext ρ h ρ' h' → Rel H W0 ρ' h' w' → EnvR n (D' ++ D) ρ' env' a' → PdR w.heap.size w' ρ' pd D' → (∀ (k : Nat) (o : Obj), w.heap[k]? = some o → Quiet o → w'.heap[k]? = some o) → w.heap.size ≤ w'.heap.size → Q e.out a' w') → c.wpIn Fence.wide 0 P Q a w
def GoodM (P : Program) (n : Nat) (c : Code) (X : XCodeM) : Prop := ∀ env h K, X env h K = true → ∃ e env' h' pd, K e env' h' pd = true ∧ CodeM P n c env h e env' h' pd
section
variable {n id : Nat} {x y : Code} {X Y : XCode} {XM YM : XCodeM}
noncomputable def xmG (X : XCode) : XCodeM := fun env h K => X env h (fun e env h => K e env h [])
theorem mG (hx : Good P n x X) : GoodM P n x (xmG X) := fun env h K hk => by
  obtain ⟨e, env', h', k1, hS⟩ := hx _ _ _ hk
  refine ⟨e, env', h', [], k1, fun H W0 D ρ a w Q hr hrel hQ => hS Fence.wide H w D ρ a w Q .wide hr hrel.rebase fun a' w' ρ' hx hR hE => ?_⟩
  exact hQ a' w' ρ' [] hx (hrel.upto hR) hE .nil (fun k o => hR.keep k o) hR.below.size
noncomputable def xmS (X Y : XCodeM) : XCodeM := fun env h K => X env h (fun e env h pd => Ex.rec (motive := fun _ => Bool) (Y env h (fun e env h pd' => lappK pd' pd (fun r => K e env h r))) (fun id => K (.exit id) env h pd) (K .ret env h pd) e)
theorem mS (hx : GoodM P n x XM) (hy : GoodM P n y YM) : GoodM P n (.seq x y) (xmS XM YM) := fun env h K hk => by
  obtain ⟨e, env1, h1, pd1, k1, hS1⟩ := hx _ _ _ hk
  cases e with
  | normal =>
    obtain ⟨e, env2, h2, pd2, k2, hS2⟩ := hy _ _ _ k1
    have k2 : lappK pd2 pd1 (fun r => K e env2 h2 r) = true := k2
    rw [lappK_eq] at k2
    refine ⟨e, env2, h2, _, k2, fun H W0 D ρ a w Q hr hrel hQ => wpIn_seq (hS1 H W0 D ρ a w _ hr hrel fun a1 w1 ρ1 D1 hx1 hR1 hE1 hp1 hk1 hz1 => ?_)⟩
    refine hS2 H W0 (D1 ++ D) ρ1 a1 w1 Q hE1 hR1 fun a2 w2 ρ2 D2 hx2 hR2 hE2 hp2 hk2 hz2 => ?_
    refine hQ a2 w2 ρ2 (D2 ++ D1) (hx1.trans hx2) hR2 (by rw [List.append_assoc]; exact hE2) ?_ (fun k o hk q => hk2 k o (hk1 k o hk q) q) (Nat.le_trans hz1 hz2)
    exact PdR.append hz1 (fun d hd r e => hp1.lt d hd r e) (hp1.keep hx2.le hk2) hp2
  | exit id => exact ⟨.exit id, env1, h1, pd1, k1, fun H W0 D ρ a w Q hr hrel hQ => wpIn_seq (hS1 H W0 D ρ a w _ hr hrel fun a1 w1 ρ1 D1 hx1 hR1 hE1 hp1 hk1 hz1 => hQ a1 w1 ρ1 D1 hx1 hR1 hE1 hp1 hk1 hz1)⟩
  | ret => exact ⟨.ret, env1, h1, pd1, k1, fun H W0 D ρ a w Q hr hrel hQ => wpIn_seq (hS1 H W0 D ρ a w _ hr hrel fun a1 w1 ρ1 D1 hx1 hR1 hE1 hp1 hk1 hz1 => hQ a1 w1 ρ1 D1 hx1 hR1 hE1 hp1 hk1 hz1)⟩
noncomputable def xmB (id : Nat) (X : XCodeM) : XCodeM := fun env h K => X env h (fun e env h pd => Ex.rec (motive := fun _ => Bool) (K .normal env h pd) (fun i => sel (Nat.beq i id) (K .normal env h pd) (K (.exit i) env h pd)) (K .ret env h pd) e)
theorem mB (hx : GoodM P n x XM) : GoodM P n (.block id x) (xmB id XM) := fun env h K hk => by
  obtain ⟨e, env1, h1, pd, e1, e2⟩ := hx _ _ _ hk
  cases e with
  | normal => exact ⟨.normal, env1, h1, pd, e1, fun H W0 D ρ a w Q hr hrel hQ => wpIn_block (e2 H W0 D ρ a w _ hr hrel fun a1 w1 ρ1 D1 hx1 hR1 hE1 hp1 hk1 hz1 => hQ a1 w1 ρ1 D1 hx1 hR1 hE1 hp1 hk1 hz1)⟩
  | ret => exact ⟨.ret, env1, h1, pd, e1, fun H W0 D ρ a w Q hr hrel hQ => wpIn_block (e2 H W0 D ρ a w _ hr hrel fun a1 w1 ρ1 D1 hx1 hR1 hE1 hp1 hk1 hz1 => hQ a1 w1 ρ1 D1 hx1 hR1 hE1 hp1 hk1 hz1)⟩
  | exit i =>
    have e1 : sel (Nat.beq i id) (K .normal env1 h1 pd) (K (.exit i) env1 h1 pd) = true := e1
    rw [sel_eq] at e1
    by_cases hi : i = id
    · rw [if_pos (by simpa using hi)] at e1
      exact ⟨.normal, env1, h1, pd, e1, fun H W0 D ρ a w Q hr hrel hQ => wpIn_block (e2 H W0 D ρ a w _ hr hrel fun a1 w1 ρ1 D1 hx1 hR1 hE1 hp1 hk1 hz1 => by
        simp only [Ex.out, Exit.inBlock, hi, if_true]
        exact hQ a1 w1 ρ1 D1 hx1 hR1 hE1 hp1 hk1 hz1)⟩
    · rw [if_neg (by simpa using hi)] at e1
      exact ⟨.exit i, env1, h1, pd, e1, fun H W0 D ρ a w Q hr hrel hQ => wpIn_block (e2 H W0 D ρ a w _ hr hrel fun a1 w1 ρ1 D1 hx1 hR1 hE1 hp1 hk1 hz1 => by
        simp only [Ex.out, Exit.inBlock, hi, if_false]
        exact hQ a1 w1 ρ1 D1 hx1 hR1 hE1 hp1 hk1 hz1)⟩
end

/-! ### A range over a function -/
noncomputable def xRange (gt : Get) (np rid f : Nat) (ps : List Put) (XI : Nat → Xop → Xop) (XA XB : XCode) : XCodeM := fun env h K => gt env (fun g => fnK g (fun f' F C => gd (Nat.beq f' f) (h.m.setK h.next (.loop env np rid) (fun m => fN (Nat.succ h.next) (fun nx => fN (Nat.add 1000000000 h.next) (fun y =>
  onesK F (fun F => onesK C (fun C => lappK F (.one (.fn y [] []) :: C) (fun vals => XI y (xRound h.next np rid ps XA XB) vals ⟨m, nx⟩ (fun _ h' => loopK h' h.next (fun _ _ z => gd (Nat.beq z rid) (h'.m.setK h.next (.loop env np 0) (fun m' => K .normal env ⟨m', h'.next⟩ [.mark])))))))))))))
theorem rangeIn_good {np rid f t : Nat} {gt : Get} (hgt : GetOk gt t) (hrid : (rid == 0) = false) {fn : Func} (hf : P.funcs[f]? = some fn) (hbody : fn.body.isSome = true) (hname : (fn.name == "runtime.NumGoroutine") = false) (hlt : Nat.blt f 1000000000 = true) {ps : List Nat} {pp : List Put} (hps : PutsOk np ps pp) {ca cb : Code} {XA XB : XCode} {XI : Nat → Xop → Xop} (hr : roundsOf rid = some (ps.toArray, ca, cb))
    (hi : ∀ (y : Nat) (XY : Xop), FnGood P y XY → FnGood P f (XI y XY)) (hA : Good P np ca XA) (hB : Good P np cb XB) : GoodM P np (.rangeFunc (.tmp t) ps.toArray ca cb) (xRange gt np rid f pp XI XA XB) := by
  intro env h K hk
  have hrid : rid ≠ 0 := by simpa using hrid
  have hk : gt env _ = true := hk
  rw [hgt] at hk
  obtain ⟨f', F, C, hg, k1⟩ := fnK_sound hk
  clear hk
  obtain ⟨e1, k2⟩ := gd_eq k1
  clear k1
  have e1 := Nat.eq_of_beq_eq_true e1
  subst e1
  obtain ⟨m, hm, k3⟩ := T.setK_sound _ _ _ _ k2
  clear k2
  rw [fN_eq, fN_eq, onesK_eq, onesK_eq, lappK_eq] at k3
  obtain ⟨v, h', k4, hS⟩ := hi _ _ (round_good hrid hps hA hB hr) _ _ _ k3
  clear k3
  obtain ⟨_, _, z, hgz, k5⟩ := loopK_sound k4
  clear k4
  obtain ⟨e2, k6⟩ := gd_eq k5
  clear k5
  have e2 := Nat.eq_of_beq_eq_true e2
  subst e2
  obtain ⟨m', hm', hk⟩ := T.setK_sound _ _ _ _ k6
  clear k6
  refine ⟨_, _, _, _, hk, fun H W0 D ρ a w Q hE hrel hQ => wpIn_rangeFunc fun fnn _ => ?_⟩
  have hgv := hE.eval t
  rw [hg] at hgv
  have hgv := vinv hgv
  generalize hgX : a.tmps.getD t undef = GX at hgv
  have hfl : f' < 1000000000 := by simpa [Nat.blt_eq] using hlt
  cases hgv with
  | yl q => exact absurd hfl (Nat.not_lt.2 (Nat.le_add_right _ _))
  | yld q => exact absurd hfl (Nat.not_lt.2 (Nat.le_add_right _ _))
  | @fn _ _ _ FV CV _ hF hC =>
    have hgE : a.eval (.tmp t) = .func (.func f') FV.toArray CV.toArray := hgX
    -- two blocks are laid
    let wd : World := w.alloc (.deferred (some []))
    let rec0 : Loop := { state := .ready, pending := none, fn := fnn, tmps := a.tmps, params := ps.toArray, assign := ca, body := cb, defers := w.heap.size }
    have hreld : Rel H W0 ρ h wd := by
      refine ⟨hrel.base, hrel.below.trans ⟨rfl, rfl, rfl, by simp [wd, World.size_alloc], fun k hk => ?_⟩, fun b B base S e => ?_, hrel.dead, hrel.fresh, hrel.inj, fun k o hk q => ?_⟩
      · exact Below.heap_alloc w _ k (Nat.lt_of_lt_of_le hk hrel.size)
      · obtain ⟨ob, g, hB, o⟩ := hrel.live b B base S e
        exact ⟨ob, g, hB, o.same (Below.heap_alloc w _ B o.lt)⟩
      · have := hrel.keep k o hk q
        exact (Below.heap_alloc w _ k (Array.getElem?_eq_some_iff.1 this).1).trans this
    have hu := hrel.fresh h.next (Nat.le_refl _)
    have hle1 : Ren.le ρ (ρ.set h.next (.loc wd.heap.size 0 0)) := Ren.set_le (by rw [hu]; trivial)
    obtain ⟨hrel1, hx1⟩ := hreld.new (h' := ⟨m, Nat.succ h.next⟩) (.loop env np z) rfl hm (.loop rec0) 0 ⟨rec0, heap_alloc_new wd _, fun _ => ⟨rfl, rfl, hr, hE.size, fun t ht => let ⟨V, q1, q2⟩ := hE.get t ht; ⟨V, q1, q2.mono hle1⟩⟩⟩
    have hwds : wd.heap.size = w.heap.size + 1 := by simp [wd, World.size_alloc]
    have hρ1 : (ρ.set h.next (.loc wd.heap.size 0 0)) h.next = .loc wd.heap.size 0 0 := by unfold Ren.set; rw [if_pos rfl]
    let w1 : World := wd.alloc (.loop rec0)
    have hargs : VRels (ρ.set h.next (.loc wd.heap.size 0 0)) (F.map .one ++ (.one (.fn (Nat.add 1000000000 h.next) [] []) :: C.map .one)) (FV.toArray ++ #[Value.func (.yield wd.heap.size) #[] #[]] ++ CV.toArray).toList := by
      have e : (FV.toArray ++ #[Value.func (.yield wd.heap.size) #[] #[]] ++ CV.toArray).toList = FV ++ (Value.func (.yield wd.heap.size) #[] #[] :: CV) := by simp
      rw [e]
      exact (hF.mono hle1).ones.append (.cons (.one (.yl hρ1)) (hC.mono hle1).ones)
    rcases hS.1 hfl H w1 _ w1 _ hargs hrel1.rebase with ⟨c1, c2⟩ | ⟨V, w', ρ', c1, _⟩
    · refine ⟨wd.heap.size, [⟨.collected w.heap.size, #[]⟩], w1, ⟨.fn (.func f') CV.toArray, FV.toArray ++ #[Value.func (.yield wd.heap.size) #[] #[]]⟩, w1, f', FV.toArray ++ #[Value.func (.yield wd.heap.size) #[] #[]] ++ CV.toArray, w1, ?_, ?_, fun _ _ => trivial, ?_, ⟨nofun, callsIn_wide.2 (Calls.mono c2 fun e w3 he => ?_)⟩⟩
      · have := run_enterLoop_outer (P := P) (w := w) fnn a.tmps ps.toArray ca cb
        rw [hwds]
        exact this
      · simp only [resolve, hgE, Deferred.ofValue]
        simp [Act.eval]
      · simpa [invoke] using c1
      · obtain ⟨V, ρ', rfl, hx2, hR2, hV⟩ := he
        have hρ2 : ρ' h.next = .loc wd.heap.size 0 0 := hR2.loc hx2.le hρ1 hgz (fun q => by cases q)
        obtain ⟨ob, g', hBB, ho⟩ := hR2.live _ _ _ _ hρ2
        rw [hgz] at g'
        cases g'
        obtain ⟨r3, hw3, ho⟩ := ho
        obtain ⟨s1, s2, _, _⟩ := ho hrid
        have hlt3 : wd.heap.size < w3.heap.size := (Array.getElem?_eq_some_iff.1 hw3).1
        have hend := run_endLoop (P := P) hw3 (by rw [s1]; exact fun q => by cases q)
        rw [s2] at hend
        have hsz1 : w1.heap.size = w.heap.size + 2 := by simp [w1, wd, World.size_alloc]
        have hdef : w3.heap[w.heap.size]? = some (.deferred (some [])) := by
          refine hR2.keep _ _ ?_ trivial
          show (wd.alloc (.loop rec0)).heap[w.heap.size]? = _
          rw [Below.heap_alloc wd _ _ (by omega)]
          exact heap_alloc_new w _
        refine ⟨none, _, hend, ?_⟩
        have hrelF : Rel H W0 ρ' ⟨m', h'.next⟩ (w3.putObj wd.heap.size (.loop { r3 with state := .exhausted, pending := none })) := by
          have hb1 : Rel H W0 ρ' ⟨m', h'.next⟩ w3 := (hrel1.upto hR2).setOb (h' := ⟨m', h'.next⟩) hρ2 rfl hm' ⟨r3, hw3, fun q => absurd rfl q⟩
          refine hb1.putLoop hρ2 (by have := hm' h.next; rw [if_pos rfl] at this; exact this) hw3 _ fun o ho q => ?_
          have := (Array.getElem?_eq_some_iff.1 ho).1
          have := hrel.below.size
          omega
        refine hQ _ _ ρ' _ ⟨Ren.le_trans hx1.le hx2.le, Nat.le_trans hx1.next hx2.next, fun b hb hbu => ?_⟩ hrelF ⟨hE.size, by show _ ++ a.defers = _; rw [hE.defers], fun t ht => ?_⟩ (.mark (Nat.le_refl _) ?_ .nil (fun d hd => by cases hd)) (fun k o ho q => ?_) ?_
        · obtain ⟨u1, q1⟩ := hx1.keep b hb hbu
          obtain ⟨u2, q2⟩ := hx2.keep b (Nat.lt_of_lt_of_le hb hx1.next) u1
          refine ⟨u2, ?_⟩
          show m'.get b = _
          rw [hm', if_neg (by omega)]
          exact q2.trans q1
        · obtain ⟨V, q1, q2⟩ := hE.get t ht
          exact ⟨V, q1, q2.mono (Ren.le_trans hx1.le hx2.le)⟩
        · rw [World.putObj_heap_other (by omega)]
          exact hdef
        · have hlt := (Array.getElem?_eq_some_iff.1 ho).1
          rw [World.putObj_heap_other (by omega)]
          refine hR2.keep k o ?_ q
          show (wd.alloc (.loop rec0)).heap[k]? = _
          rw [Below.heap_alloc wd _ _ (by omega), Below.heap_alloc w _ _ hlt]
          exact ho
        · have := hR2.below.size
          simp only [World.putObj_size]
          omega
    · have hn1 : fn.name ≠ "runtime.NumGoroutine" := by simpa using hname
      obtain ⟨cb', hcb⟩ := Option.isSome_iff_exists.1 hbody
      have : (callFunc f' (FV.toArray ++ #[Value.func (.yield wd.heap.size) #[] #[]] ++ CV.toArray)).run P w1 = .ok (.enter f' (FV.toArray ++ #[Value.func (.yield wd.heap.size) #[] #[]] ++ CV.toArray)) w1 := by
        simp [callFunc, hf, hn1, hcb]
      rw [this] at c1
      cases c1
end Go.Proofs.YtddbhljljmijcaaGreat.V
