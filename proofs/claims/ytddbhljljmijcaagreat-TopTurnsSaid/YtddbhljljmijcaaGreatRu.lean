/- Regions in any order: the simulation. -/
import Derived.Test.YtddbhljljmijcaaGreatRt
namespace Go.Proofs.YtddbhljljmijcaaGreat.V
open Go.RowKit
set_option linter.unusedVariables false
set_option linter.unusedSimpArgs false
variable {P : Program}

structure PEnt where
  i : Nat
  anc : Nat
  dst : Option Nat
  ts : List Nat
def PEnt.ent (p : PEnt) (env : Env) (v : AV) (nb : Option (Nat × Ob)) : Ent := ⟨p.i, p.anc, p.dst, p.ts, env, v, nb⟩
def Ent.p (e : Ent) : PEnt := ⟨e.i, e.anc, e.dst, e.ts⟩
def AlRun (P : Program) (ops : Array Oper) (al : List Ent) (h : Heap) : Prop := ∀ e ∈ al, ∀ o, ops[e.i]? = some o → RunS P ops o e.ts e.env h e.v e.nb
/-- A plan that can be carried out. -/
def Ok (P : Program) (ops : Array Oper) (fin : Env → Heap → Prop) : List PEnt → List Ent → Env → Heap → Prop
  | [], al, env, h => fin env h
  | p :: rest, al, env, h => ∃ o, ops[p.i]? = some o ∧
      ((∃ v nb env' h', PutE p.dst v env env' ∧ Made nb h h' ∧ AlRun P ops (al ++ [p.ent env v nb]) h' ∧ Ok P ops fin rest (al ++ [p.ent env v nb]) env' h') ∨
       (∃ v env' h' al', PutE p.dst v env env' ∧ RunC P ops o p.ts env h v h' ∧ (∀ q ∈ rest, q.anc.testBit p.i = true) ∧ (∀ e ∈ al, p.anc.testBit e.i = true ∨ e ∈ al') ∧ AlRun P ops al' h' ∧ Ok P ops fin rest al' env' h'))
structure PlanOk (ops : Array Oper) (n : Nat) (plan : List PEnt) : Prop where
  pair : plan.Pairwise fun p q => Seq2 p.i p.dst p.ts q.i q.anc q.dst q.ts
  fact : ∀ p ∈ plan, Fact ops n p.i p.anc p.dst p.ts
  all : ∀ i, i < ops.size → ∃ p ∈ plan, p.i = i
  anc : ∀ p ∈ plan, ∀ o, ops[p.i]? = some o → ∀ j, p.anc.testBit j = true → ∃ e ∈ o.after, Region.binds .any e = true ∧ (e.on = j ∨ ∃ q ∈ plan, q.i = e.on ∧ q.anc.testBit j = true)
  topo : ∀ l1 p l2, plan = l1 ++ p :: l2 → ∀ o, ops[p.i]? = some o → ∀ e ∈ o.after, Region.binds .any e = true → ∃ q ∈ l1, q.i = e.on
def unl (ops : Array Oper) (L : Array Bool) : Nat := ((List.range ops.size).filter fun i => !L.getD i false).length
theorem unl_set {ops : Array Oper} {L : Array Bool} {i : Nat} (hL : L.size = ops.size) (hi : i < ops.size) (hn : ¬ On L i) : unl ops (L.setIfInBounds i true) + 1 = unl ops L := by
  unfold unl
  have key : ∀ (l : List Nat), l.Nodup → (∀ j ∈ l, j < ops.size) → (l.filter fun j => !(L.setIfInBounds i true).getD j false).length + (if i ∈ l then 1 else 0) = (l.filter fun j => !L.getD j false).length := by
    intro l
    induction l with
    | nil => intro _ _; rfl
    | cons x l ih =>
      intro hd hb
      have hd' := List.nodup_cons.1 hd
      have ih := ih hd'.2 (fun j hj => hb j (by simp [hj]))
      by_cases hx : x = i
      · subst hx
        have h1 : (L.setIfInBounds x true).getD x false = true := by
          have : x < L.size := by omega
          simp [this]
        have h2 : L.getD x false = false := by simpa [On] using hn
        rw [if_neg hd'.1] at ih
        rw [if_pos (by simp)]
        simp only [List.filter_cons, h1, h2, Bool.not_true, Bool.not_false, if_true, Bool.false_eq_true, if_false, List.length_cons]
        omega
      · have h1 : (L.setIfInBounds i true).getD x false = L.getD x false := getD_set_ne false (fun q => hx q.symm)
        have h2 : (i ∈ x :: l) ↔ i ∈ l := ⟨fun q => (List.mem_cons.1 q).resolve_left (fun q => hx q.symm), fun q => List.mem_cons_of_mem _ q⟩
        simp only [List.filter_cons, h1, h2]
        split
        · simp only [List.length_cons]; omega
        · exact ih
  have := key (List.range ops.size) List.nodup_range (fun j hj => by simpa using hj)
  rw [if_pos (by simpa using hi)] at this
  exact this
variable {ops : Array Oper} {n : Nat} {D : List Deferred} {H : Nat} {W0 : World} {env0 env : Env} {Q : Exit → Act → World → Prop} {fin : Env → Heap → Prop} {plan : List PEnt}
/-- If not all are carried out, another one may be. -/
theorem ready_of (hp : PlanOk ops n plan) {L : Array Bool} (hL : L.size = ops.size) : ∀ (l1 l2 : List PEnt), plan = l1 ++ l2 → (∀ q ∈ l1, On L q.i) → (∃ q ∈ l2, ¬ On L q.i) → ∃ i, i ∈ Region.ready .any ops L
  | l1, [], _, _, h => by obtain ⟨q, hq, _⟩ := h; cases hq
  | l1, p :: l2, he, h1, h => by
    by_cases hon : On L p.i
    · refine ready_of hp hL (l1 ++ [p]) l2 (by simp [he]) (fun q hq => ?_) ?_
      · rcases List.mem_append.1 hq with q1 | q1
        · exact h1 q q1
        · have : q = p := by simpa using q1
          rw [this]; exact hon
      · obtain ⟨q, hq, hn⟩ := h
        cases hq with
        | head => exact absurd hon hn
        | tail _ hq => exact ⟨q, hq, hn⟩
    · obtain ⟨o, ho, _⟩ := (hp.fact p (by simp [he])).op
      have hlt : p.i < ops.size := (Array.getElem?_eq_some_iff.1 ho).1
      refine ⟨p.i, mem_ready.2 ⟨?_, o, ho, fun e he' hb => ?_⟩⟩
      · have : L.getD p.i false = false := by simpa [On] using hon
        simp only [Array.getD_eq_getD_getElem?] at this ⊢
        rw [Array.getElem?_eq_getElem (by omega)] at this ⊢
        simpa using this
      · obtain ⟨q, hq, hi⟩ := hp.topo l1 p l2 he o ho e he' hb
        rw [← hi]
        exact h1 q hq
theorem not_on_of_ready {L : Array Bool} (hL : L.size = ops.size) {i : Nat} (h : i ∈ Region.ready .any ops L) : ∃ o, ops[i]? = some o ∧ i < ops.size ∧ ¬ On L i ∧ ∀ e ∈ o.after, Region.binds .any e = true → On L e.on := by
  obtain ⟨h0, o, ho, hall⟩ := mem_ready.1 h
  have hlt : i < ops.size := (Array.getElem?_eq_some_iff.1 ho).1
  refine ⟨o, ho, hlt, ?_, hall⟩
  intro q
  unfold On at q
  simp only [Array.getD_eq_getD_getElem?] at q h0
  rw [Array.getElem?_eq_getElem (by omega)] at q h0
  simp at q h0
  rw [h0] at q
  cases q

theorem Ok.op {al : List Ent} {h : Heap} {p : PEnt} {rest : List PEnt} (hk : Ok P ops fin (p :: rest) al env h) : ∃ o, ops[p.i]? = some o := let ⟨o, ho, _⟩ := hk; ⟨o, ho⟩
theorem anc_on (hp : PlanOk ops n plan) {pre : List Ent} {h : Heap} {L : Array Bool} {ρ : Ren} {a : Act} {w : World} (r : Inv P ops n D H W0 env0 pre env h L ρ a w) (hpre : ∀ e ∈ pre, e.p ∈ plan) (hinj : ∀ p ∈ plan, ∀ q ∈ plan, p.i = q.i → p = q) {p : PEnt} (hm : p ∈ plan) {o : Oper} (ho : ops[p.i]? = some o) (hall : ∀ e ∈ o.after, Region.binds .any e = true → On L e.on) :
    ∀ j, p.anc.testBit j = true → On L j := by
  intro j hj
  obtain ⟨e, he, hb, h1⟩ := hp.anc p hm o ho j hj
  have hon := hall e he hb
  rcases h1 with q | ⟨q, hq, hi, hj'⟩
  · rw [← q]; exact hon
  · obtain ⟨e', he', hie⟩ := r.sub _ hon
    have : e'.p = q := hinj _ (hpre e' he') _ hq (by show e'.i = q.i; rw [hie, hi])
    refine r.down e' he' (by rw [hie]; exact hon) j ?_
    have : e'.anc = q.anc := by rw [← this]; rfl
    rw [this]; exact hj'
theorem sim {F : Fence} (hF : Wide F) (hp : PlanOk ops n plan) (hinj : ∀ p ∈ plan, ∀ q ∈ plan, p.i = q.i → p = q) : ∀ (fuel : Nat) (rest : List PEnt) (pre al : List Ent) (env : Env) (h : Heap) (L : Array Bool) (ρ0 ρ : Ren) (h0 : Heap) (a : Act) (w : World),
    plan = pre.map Ent.p ++ rest → Ok P ops fin rest al env h → Pre ops n env0 pre env → Inv P ops n D H W0 env0 pre env h L ρ a w → (∀ e ∈ pre, ¬ On L e.i → e ∈ al) → AlRun P ops al h → (∀ e ∈ pre, ∀ b ob, e.nb = some (b, ob) → h0.next ≤ b ∧ b < h.next) → L.size = ops.size → unl ops L ≤ fuel → Ext ρ0 h0 ρ h →
    (∀ env h a w ρ, fin env h → EnvR n D ρ env a → Rel H W0 ρ h w → Ext ρ0 h0 ρ h → Q .normal a w) → wpAnyIn F 0 P .any ops Q fuel L a w := by
  intro fuel
  induction fuel using Nat.strongRecOn with
  | _ fuel ihf =>
    intro rest
    induction rest with
    | nil =>
      intro pre al env h L ρ0 ρ h0 a w hpl hk hpre r hal hrun hnb hL hfu hext hfin
      have hmem : ∀ e ∈ pre, e.p ∈ plan := fun e he => by rw [hpl]; simp; exact ⟨e, he, rfl⟩
      have done : Region.ready .any ops L = [] → Q .normal a w := by
        intro hr
        have hall : ∀ e ∈ pre, On L e.i := by
          intro e he
          by_cases hon : On L e.i
          · exact hon
          · obtain ⟨i, hi⟩ := ready_of hp hL [] plan rfl (fun q hq => by cases hq) ⟨e.p, hmem e he, hon⟩
            rw [hr] at hi; cases hi
        exact hfin env h a w ρ hk ⟨r.size, r.defers, fun t hu => r.new t _ rfl (fun e he _ => hall e he) hu⟩ r.rel hext
      have exec : ∀ i ∈ Region.ready .any ops L, ∀ f, f < fuel → unl ops L ≤ f + 1 → wpOpIn F 0 P ops Q i (wpAnyIn F 0 P .any ops Q f (L.setIfInBounds i true)) a w := by
        intro i hi f hf hfu
        obtain ⟨o, ho, hlt, hoff, hall⟩ := not_on_of_ready hL hi
        obtain ⟨p, hm, rfl⟩ := hp.all i hlt
        have hpm : p ∈ pre.map Ent.p := by rw [hpl] at hm; simpa using hm
        obtain ⟨e, he, rfl⟩ := List.mem_map.1 hpm
        have hlt : e.i < ops.size := hlt
        have hanc := anc_on hp r hmem hinj hm ho hall
        unfold wpOpIn
        simp only [ho]
        refine hrun e (hal e he hoff) o ho F H W0 ρ w a (wpAnyIn F 0 P .any ops Q f (L.setIfInBounds e.i true)) Q hF (r.reads hpre he hoff hanc) r.rel (r.nb e he hoff) fun V w' ρ' hl hkeep hR hV => ?_
        obtain ⟨o', ho', hd⟩ := (hpre.fact e he).op
        rw [show ops[e.i]? = some o from ho] at ho'
        cases ho'
        rw [hd]
        have r' := r.put hpre he (by omega) hoff hanc hl (Nat.le_refl _) (fun b hb hu hne => ⟨hkeep b hb hu hne, rfl⟩) hR hV
        refine ihf f hf [] pre al env h (L.setIfInBounds e.i true) ρ0 ρ' h0 _ w' hpl hk hpre r' (fun e' he' hn' => hal e' he' fun q => hn' ((On.set (by omega)).2 (.inr q))) hrun hnb (by simpa using hL) ?_ ⟨Ren.le_trans hext.le hl, hext.next, fun b hb hu => ?_⟩ hfin
        · have := unl_set hL hlt hoff
          have e1 : unl ops (L.setIfInBounds e.i true) + 1 = unl ops L := this
          omega
        · obtain ⟨k1, k2⟩ := hext.keep b hb hu
          exact ⟨hkeep b (Nat.lt_of_lt_of_le hb hext.next) k1 (fun ob q => by have := (hnb e he b ob q).1; omega), k2⟩
      cases fuel with
      | zero =>
        have hr : Region.ready .any ops L = [] := by
          apply List.eq_nil_iff_forall_not_mem.2
          intro i hi
          obtain ⟨o, ho, hlt, hoff, _⟩ := not_on_of_ready hL hi
          have := unl_set hL hlt hoff
          omega
        exact ⟨hr, done hr⟩
      | succ f => exact ⟨done, fun i hi => exec i hi f (Nat.lt_succ_self _) hfu⟩
    | cons p rest ihr =>
      intro pre al env h L ρ0 ρ h0 a w hpl hk hpre r hal hrun hnb hL hfu hext hfin
      obtain ⟨o, ho, hk⟩ := hk
      have hmem : ∀ e ∈ pre, e.p ∈ plan := fun e he => by rw [hpl]; simp; exact .inl ⟨e, he, rfl⟩
      have hpm : p ∈ plan := by rw [hpl]; simp
      have hseq : ∀ e' ∈ pre, Seq2 e'.i e'.dst e'.ts p.i p.anc p.dst p.ts := fun e' he' => by
        have := hp.pair
        rw [hpl, List.pairwise_append] at this
        exact this.2.2 e'.p (List.mem_map.2 ⟨e', he', rfl⟩) p (by simp)
      rcases hk with ⟨v, nb, env', h', hput, hmade, hrun', hk⟩ | ⟨v, env', h', al', hput, hrunc, hbehind, hkeepal, hrun', hk⟩
      · have hnew : ∀ e' ∈ pre, ∀ b ob ob', e'.nb = some (b, ob) → (p.ent env v nb).nb ≠ some (b, ob') := by
          intro e' he' b ob ob' hb q
          have h1 := (hnb e' he' b ob hb).2
          have q : nb = some (b, ob') := q
          rw [q] at hmade
          have := hmade.1
          omega
        have hpre' := hpre.add (e := p.ent env v nb) (hp.fact p hpm) hseq rfl hput hnew
        obtain ⟨r', hoff⟩ := r.add hpre (e := p.ent env v nb) hseq hput hmade
        refine ihr (pre ++ [p.ent env v nb]) (al ++ [p.ent env v nb]) env' h' L ρ0 ρ h0 a w (by rw [hpl]; simp [PEnt.ent, Ent.p]) hk hpre' r' (fun e he hn => ?_) hrun' (fun e he b ob hb => ?_) hL hfu ⟨hext.le, Nat.le_trans hext.next hmade.next, fun b hb hu => ?_⟩ hfin
        · rcases List.mem_append.1 he with q | q
          · exact List.mem_append_left _ (hal e q hn)
          · exact List.mem_append_right _ q
        · rcases List.mem_append.1 he with q | q
          · obtain ⟨k1, k2⟩ := hnb e q b ob hb
            exact ⟨k1, Nat.lt_of_lt_of_le k2 hmade.next⟩
          · have : e = p.ent env v nb := by simpa using q
            subst this
            have hb : nb = some (b, ob) := hb
            rw [hb] at hmade
            obtain ⟨m1, m2, _⟩ := hmade
            have := hext.next
            omega
        · obtain ⟨k1, k2⟩ := hext.keep b hb hu
          exact ⟨k1, (hmade.keep (Nat.lt_of_lt_of_le hb hext.next)).trans k2⟩
      · have hpre' := hpre.add (e := p.ent env v none) (hp.fact p hpm) hseq rfl hput (fun e' he' b ob ob' hb q => by cases q)
        obtain ⟨r', hoff⟩ := r.add hpre (e := p.ent env v none) hseq hput (h' := h) rfl
        have hoff : ¬ On L p.i := hoff
        obtain ⟨o1, ho1, hd1⟩ := (hp.fact p hpm).op
        rw [ho] at ho1
        cases ho1
        have hplt : p.i < ops.size := (Array.getElem?_eq_some_iff.1 ho).1
        have done : Region.ready .any ops L ≠ [] := by
          intro hr
          obtain ⟨i, hi⟩ := ready_of hp hL [] plan rfl (fun q hq => by cases hq) ⟨p, hpm, hoff⟩
          rw [hr] at hi; cases hi
        have exec : ∀ i ∈ Region.ready .any ops L, ∀ f, f < fuel → unl ops L ≤ f + 1 → wpOpIn F 0 P ops Q i (wpAnyIn F 0 P .any ops Q f (L.setIfInBounds i true)) a w := by
          intro i hi f hf hfu
          obtain ⟨o2, ho2, hlt, hoff2, hall⟩ := not_on_of_ready hL hi
          obtain ⟨q, hm, rfl⟩ := hp.all i hlt
          have hanc := anc_on hp r hmem hinj hm ho2 hall
          have hcase : q ∈ pre.map Ent.p ∨ q = p ∨ q ∈ rest := by rw [hpl] at hm; simpa using hm
          unfold wpOpIn
          simp only [ho2]
          rcases hcase with hq | rfl | hq
          · obtain ⟨e, he, rfl⟩ := List.mem_map.1 hq
            have hlt : e.i < ops.size := hlt
            refine hrun e (hal e he hoff2) o2 ho2 F H W0 ρ w a (wpAnyIn F 0 P .any ops Q f (L.setIfInBounds e.i true)) Q hF (r.reads hpre he hoff2 hanc) r.rel (r.nb e he hoff2) fun V w' ρ' hl hkeep hR hV => ?_
            obtain ⟨o', ho', hd⟩ := (hpre.fact e he).op
            rw [show ops[e.i]? = some o2 from ho2] at ho'
            cases ho'
            rw [hd]
            have r2 := r.put hpre he (by omega) hoff2 hanc hl (Nat.le_refl _) (fun b hb hu hne => ⟨hkeep b hb hu hne, rfl⟩) hR hV
            refine ihf f hf (p :: rest) pre al env h (L.setIfInBounds e.i true) ρ0 ρ' h0 _ w' hpl ⟨o, ho, .inr ⟨v, env', h', al', hput, hrunc, hbehind, hkeepal, hrun', hk⟩⟩ hpre r2 (fun e' he' hn' => hal e' he' fun q => hn' ((On.set (by omega)).2 (.inr q))) hrun hnb (by simpa using hL) ?_ ⟨Ren.le_trans hext.le hl, hext.next, fun b hb hu => ?_⟩ hfin
            · have e1 : unl ops (L.setIfInBounds e.i true) + 1 = unl ops L := unl_set hL hlt hoff2
              omega
            · obtain ⟨k1, k2⟩ := hext.keep b hb hu
              exact ⟨hkeep b (Nat.lt_of_lt_of_le hb hext.next) k1 (fun ob q => by have := (hnb e he b ob q).1; omega), k2⟩
          · rw [ho] at ho2
            cases ho2
            have hme : q.ent env v none ∈ pre ++ [q.ent env v none] := by simp
            have hreads : Reads q.ts env ρ a := r'.reads hpre' hme hoff hanc
            refine hrunc F H W0 ρ w a (wpAnyIn F 0 P .any ops Q f (L.setIfInBounds q.i true)) Q hF hreads r.rel fun V w' ρ' hx hR hV => ?_
            rw [hd1]
            have r2 := r'.put hpre' hme (show q.i < L.size by omega) hoff hanc hx.le hx.next (fun b hb hu _ => hx.keep b hb hu) hR hV
            refine ihf f hf rest (pre ++ [q.ent env v none]) al' env' h' (L.setIfInBounds q.i true) ρ0 ρ' h0 _ w' (by rw [hpl]; simp [PEnt.ent, Ent.p]) hk hpre' r2 (fun e' he' hn' => ?_) hrun' (fun e' he' b ob hb => ?_) (by simpa using hL) ?_ (hext.trans hx) hfin
            · have hne : ¬ (e'.i = q.i ∨ On L e'.i) := fun x => hn' ((On.set (by omega)).2 x)
              rcases List.mem_append.1 he' with x | x
              · rcases hkeepal e' (hal e' x fun y => hne (.inr y)) with y | y
                · exact absurd (hanc _ y) fun z => hne (.inr z)
                · exact y
              · have : e' = q.ent env v none := by simpa using x
                exact absurd (.inl (by rw [this]; rfl)) hne
            · rcases List.mem_append.1 he' with x | x
              · obtain ⟨k1, k2⟩ := hnb e' x b ob hb
                exact ⟨k1, Nat.lt_of_lt_of_le k2 hx.next⟩
              · have : e' = q.ent env v none := by simpa using x
                subst this
                cases hb
            · have := unl_set hL hlt hoff2
              omega
          · exact absurd (hanc _ (hbehind q hq)) hoff
        cases fuel with
        | zero =>
          have := unl_set hL hplt hoff
          omega
        | succ f => exact ⟨fun hr => absurd hr done, fun i hi => exec i hi f (Nat.lt_succ_self _) hfu⟩
end Go.Proofs.YtddbhljljmijcaaGreat.V
