/- Ranges over a function, deferred calls. -/
import Derived.Test.YtddbhljljmijcaaGreatSd
import Derived.RangeFuncRecord
import Derived.RangeFuncIn
namespace Go.Proofs.YtddbhljljmijcaaGreat.V
open Go.RowKit
set_option linter.unusedVariables false
set_option linter.unusedSimpArgs false
variable {P : Program}

/-! ### Worlds on the way -/
section
variable {H : Nat} {W0 : World} {ρ ρ' : Ren} {h h' : Heap} {w w' : World}
theorem below_refl (H : Nat) (w : World) : Below H w w := ⟨rfl, rfl, rfl, Nat.le_refl _, fun _ _ => rfl⟩
theorem Rel.rebase (r : Rel H W0 ρ h w) : Rel H w ρ h w := ⟨r.size, below_refl H w, r.live, r.dead, r.fresh, r.inj, fun _ _ h _ => h⟩
theorem Rel.upto (r : Rel H W0 ρ h w) (r' : Rel H w ρ' h' w') : Rel H W0 ρ' h' w' := ⟨r.base, r.below.trans r'.below, r'.live, r'.dead, r'.fresh, r'.inj, fun k o hk q => r'.keep k o (r.keep k o hk q) q⟩
theorem Rel.setOb (r : Rel H W0 ρ h w) {b L base S : Nat} (e : ρ b = .loc L base S) (hn : h'.next = h.next) {ob : Ob} (hg : ∀ j, h'.m.get j = if b = j then some ob else h.m.get j) (ho : ObRel ρ w L base S ob) : Rel H W0 ρ h' w := by
  refine ⟨r.base, r.below, ?_, ?_, fun b' hb' => r.fresh b' (by omega), r.inj, r.keep⟩
  · intro b' B' base' S' e'
    by_cases hbb : b = b'
    · subst hbb
      rw [e] at e'
      injection e' with q1 q2 q3
      subst q1; subst q2; subst q3
      exact ⟨ob, by rw [hg, if_pos rfl], let ⟨_, _, x, _⟩ := r.live b L base S e; x, ho⟩
    · obtain ⟨ob', g', hB', o⟩ := r.live b' B' base' S' e'
      exact ⟨ob', by rw [hg, if_neg hbb]; exact g', hB', o⟩
  · intro b' ob' e' g'
    rw [hg, if_neg (by intro q; subst q; rw [e] at e'; cases e')] at g'
    exact r.dead b' ob' e' g'
theorem below_putObj {L : Nat} (hw : H ≤ L) (o : Obj) : Below H w (w.putObj L o) := ⟨rfl, rfl, rfl, by simp, fun k hk => World.putObj_heap_other (by omega)⟩
/-- A loop's record turns. -/
theorem Rel.putLoop (r : Rel H W0 ρ h w) {b L base S : Nat} (e : ρ b = .loc L base S) {env : Env} {n : Nat} (hg : h.m.get b = some (.loop env n 0)) {r0 : Loop} (hw : w.heap[L]? = some (.loop r0)) (r1 : Loop) (hk : ∀ (o : Obj), W0.heap[L]? = some o → Quiet o → o = .loop r1) : Rel H W0 ρ h (w.putObj L (.loop r1)) := by
  have hL : H ≤ L := let ⟨_, _, x, _⟩ := r.live b L base S e; x
  have hlt : L < w.heap.size := (Array.getElem?_eq_some_iff.1 hw).1
  refine ⟨r.base, r.below.trans (below_putObj hL _), ?_, r.dead, r.fresh, r.inj, fun k o ho q => ?_⟩
  · intro b' B' base' S' e'
    obtain ⟨ob', g', hB', o⟩ := r.live b' B' base' S' e'
    by_cases hB : B' = L
    · subst hB
      have := r.inj _ _ _ _ _ _ _ e e'
      subst this
      rw [hg] at g'
      cases g'
      exact ⟨_, hg, hB', r1, World.putObj_heap_same hlt, fun q => absurd rfl q⟩
    · exact ⟨ob', g', hB', o.same (World.putObj_heap_other hB)⟩
  · by_cases hkL : k = L
    · subst hkL
      rw [hk o ho q]
      exact World.putObj_heap_same hlt
    · exact (World.putObj_heap_other hkL).trans (r.keep k o ho q)
theorem Rel.busy (r : Rel H W0 ρ h w) {b L base S : Nat} (e : ρ b = .loc L base S) {env : Env} {n : Nat} (hg : h.m.get b = some (.loop env n 0)) {r0 : Loop} (hw : w.heap[L]? = some (.loop r0)) (r1 : Loop) : Rel H (w.putObj L (.loop r1)) ρ h (w.putObj L (.loop r1)) := by
  have hL : H ≤ L := let ⟨_, _, x, _⟩ := r.live b L base S e; x
  have hlt : L < w.heap.size := (Array.getElem?_eq_some_iff.1 hw).1
  refine ⟨by simpa using r.size, below_refl _ _, ?_, r.dead, r.fresh, r.inj, fun _ _ x _ => x⟩
  intro b' B' base' S' e'
  obtain ⟨ob', g', hB', o⟩ := r.live b' B' base' S' e'
  by_cases hB : B' = L
  · subst hB
    have := r.inj _ _ _ _ _ _ _ e e'
    subst this
    rw [hg] at g'
    cases g'
    exact ⟨_, hg, hB', r1, World.putObj_heap_same hlt, fun q => absurd rfl q⟩
  · exact ⟨ob', g', hB', o.same (World.putObj_heap_other hB)⟩
theorem Rel.loc (r : Rel H W0 ρ' h w) (hl : Ren.le ρ ρ') {b L base S : Nat} (e : ρ b = .loc L base S) {ob : Ob} (hg : h.m.get b = some ob) (hob : ob ≠ .gone) : ρ' b = .loc L base S := by
  have := hl b
  rw [e] at this
  rcases this with q | q
  · exact q
  · exact absurd (r.dead b ob q hg) hob
end
noncomputable def loopK (h : Heap) (b : Nat) (k : Env → Nat → Nat → Bool) : Bool := h.m.getK b (fun ob => Ob.rec (motive := fun _ => Bool) (fun _ _ _ _ => false) (fun _ => false) false k ob)
theorem loopK_sound {h : Heap} {b : Nat} {k : Env → Nat → Nat → Bool} (hk : loopK h b k = true) : ∃ env n rid, h.m.get b = some (.loop env n rid) ∧ k env n rid = true := by
  obtain ⟨ob, h1, h2⟩ := T.getK_sound _ _ _ hk
  cases ob with
  | cells c fz byte bd => cases h2
  | map es => cases h2
  | gone => cases h2
  | loop env n rid => exact ⟨env, n, rid, h1, h2⟩

/-! ### A round -/
noncomputable def isNormal (e : Ex) (k : Bool) : Bool := Ex.rec (motive := fun _ => Bool) k (fun _ => false) false e
theorem isNormal_sound {e : Ex} {k : Bool} (h : isNormal e k = true) : e = .normal ∧ k = true := by
  cases e <;> first | exact ⟨rfl, h⟩ | cases h
noncomputable def putsK (ps : List Put) : List AV → Env → (Env → Bool) → Bool :=
  List.rec (motive := fun _ => List AV → Env → (Env → Bool) → Bool) (fun vs env k => List.rec (motive := fun _ => Bool) (k env) (fun _ _ _ => false) vs) (fun p _ ih vs env k => List.rec (motive := fun _ => Bool) false (fun v vs _ => p v env (fun env' => ih vs env' k)) vs) ps
inductive PutsOk (n : Nat) : List Nat → List Put → Prop
  | nil : PutsOk n [] []
  | cons {t p l m} (h : PutOk p t) (hn : t < n) (tl : PutsOk n l m) : PutsOk n (t :: l) (p :: m)
theorem putsK_sound {n : Nat} : ∀ {l : List Nat} {m : List Put} (hp : PutsOk n l m) {vs : List AV} {env : Env} {k : Env → Bool} (hk : putsK m vs env k = true), vs.length = l.length ∧ ∃ env', k env' = true ∧ ∀ ρ tmps (args : List Value), TmpsR ρ n env tmps → VRels ρ vs args → TmpsR ρ n env' ((l.zip args).foldl (fun tmps (x : Nat × Value) => tmps.setIfInBounds x.1 x.2) tmps)
  | _, _, .nil, vs, env, k, hk => by
    cases vs with
    | cons _ _ => cases hk
    | nil => exact ⟨rfl, env, hk, fun ρ tmps args ht hv => by cases hv; exact ht⟩
  | _, _, .cons (t := t) (p := p) h hn tl, vs, env, k, hk => by
    cases vs with
    | nil => cases hk
    | cons v vs =>
      have hk : p v env (fun env' => putsK _ vs env' k) = true := hk
      obtain ⟨env1, h1, h2⟩ := h v env (fun env' => putsK _ vs env' k)
      rw [h1] at hk
      obtain ⟨h3, env2, h4, h5⟩ := putsK_sound tl hk
      refine ⟨by simp [h3], env2, h4, fun ρ tmps args ht hv => ?_⟩
      cases hv with | cons hv0 hv1 => ?_
      rename_i V VS
      rw [List.zip_cons_cons, List.foldl_cons]
      refine h5 ρ _ VS ⟨by simpa using ht.1, fun j hj => ?_⟩ hv1
      rw [h2] at hj ⊢
      by_cases htj : t = j
      · subst htj
        rw [if_pos rfl]
        exact ⟨V, by simp [Array.getElem?_setIfInBounds, ht.1, hn], hv0⟩
      · rw [if_neg htj] at hj ⊢
        obtain ⟨U, e1, e2⟩ := ht.2 j hj
        exact ⟨U, by rw [Array.getElem?_setIfInBounds_ne htj]; exact e1, e2⟩
noncomputable def xRound (b np rid : Nat) (ps : List Put) (XA XB : XCode) : Xop := fun vals h k => loopK h b (fun env n rid' => gd (Nat.beq n np) (gd (Nat.beq rid' rid) (putsK ps vals env (fun env0 => h.m.setK b (.loop env n 0) (fun m =>
  XA env0 ⟨m, h.next⟩ (fun e env1 h1 => isNormal e (loopK h1 b (fun _ _ z => gd (Nat.beq z 0) (XB env1 h1 (fun e _ h2 => isNormal e (loopK h2 b (fun _ _ z => gd (Nat.beq z 0) (h2.m.setK b (.loop env n rid) (fun m2 => k (.one (.bool true)) ⟨m2, h2.next⟩))))))))))))))
theorem round_good {b np rid : Nat} (hrid : rid ≠ 0) {ps : List Nat} {pp : List Put} (hps : PutsOk np ps pp) {ca cb : Code} {XA XB : XCode} (hA : Good P np ca XA) (hB : Good P np cb XB) (hr : roundsOf rid = some (ps.toArray, ca, cb)) : FnGood P (1000000000 + b) (xRound b np rid pp XA XB) := by
  intro vals h k hk
  obtain ⟨env, n, rid', hg, k1⟩ := loopK_sound hk
  obtain ⟨e1, k2⟩ := gd_eq k1
  obtain ⟨e2, k3⟩ := gd_eq k2
  clear hk k1 k2
  have e1 := Nat.eq_of_beq_eq_true e1
  have e2 := Nat.eq_of_beq_eq_true e2
  subst e1; subst e2
  obtain ⟨hlen, env0, k4, henv0⟩ := putsK_sound hps k3
  clear k3
  obtain ⟨m, hm, k5⟩ := T.setK_sound _ _ _ _ k4
  clear k4
  obtain ⟨e, env1, h1, k6, hSA⟩ := hA _ _ _ k5
  clear k5
  obtain ⟨ee, k7⟩ := isNormal_sound k6
  clear k6
  subst ee
  obtain ⟨_, _, z1, hg1, k8⟩ := loopK_sound k7
  clear k7
  obtain ⟨e3, k9⟩ := gd_eq k8
  clear k8
  have e3 := Nat.eq_of_beq_eq_true e3
  subst e3
  obtain ⟨e, env2, h2, k10, hSB⟩ := hB _ _ _ k9
  clear k9
  obtain ⟨ee, k11⟩ := isNormal_sound k10
  clear k10
  subst ee
  obtain ⟨_, _, z2, hg2, k12⟩ := loopK_sound k11
  clear k11
  obtain ⟨e4, k13⟩ := gd_eq k12
  clear k12
  have e4 := Nat.eq_of_beq_eq_true e4
  subst e4
  obtain ⟨m2, hm2, hk⟩ := T.setK_sound _ _ _ _ k13
  clear k13
  refine ⟨_, _, hk, fun q => absurd q (Nat.not_lt.2 (Nat.le_add_right _ _)), fun b' hb' => ?_⟩
  have hb' : b = b' := by
    have hb' : (1000000000 : Nat) + b = 1000000000 + b' := hb'
    omega
  subst hb'
  refine ⟨fun H W0 ρ w hrel hd => (by cases hrel.dead b _ hd hg), fun H W0 ρ w args L base S hρ hv hrel => ?_⟩
  obtain ⟨ob, g', hHL, ho⟩ := hrel.live b L base S hρ
  rw [hg] at g'
  cases g'
  obtain ⟨r, hw, ho⟩ := ho
  obtain ⟨r1, r2, r3, r4⟩ := ho hrid
  rw [hr] at r3
  simp only [Option.some.injEq, Prod.mk.injEq] at r3
  obtain ⟨p1, p2, p3⟩ := r3
  have hvl := hv.length
  have hargs : args.size = r.params.size := by
    rw [← p1]
    simp at hvl ⊢
    omega
  refine ⟨r, hw, hargs, fun F hF => ?_⟩
  have hF' : Wide (F.inRound L) := by
    cases hF with
    | wide => exact .round L
    | round l => exact .round L
  refine roundIn_of_wpIn (hF.fn _) ?_
  rw [← p2, ← p3]
  -- the assignments
  have hrel1 : Rel H w ρ ⟨m, h.next⟩ w := hrel.rebase.setOb (h' := ⟨m, h.next⟩) hρ rfl hm ⟨r, hw, fun q => absurd rfl q⟩
  have htm := henv0 ρ r.tmps args.toList r4 hv
  have hfold : (r.params.zip args).foldl (fun tmps (x : Nat × Value) => tmps.setIfInBounds x.1 x.2) r.tmps = (ps.zip args.toList).foldl (fun tmps (x : Nat × Value) => tmps.setIfInBounds x.1 x.2) r.tmps := by
    rw [← p1, ← Array.foldl_toList]
    simp
  have hE0 : EnvR n [] ρ env0 { tmps := (r.params.zip args).foldl (fun tmps (x : Nat × Value) => tmps.setIfInBounds x.1 x.2) r.tmps, defers := [] } := by
    rw [hfold]
    exact ⟨htm.1, rfl, htm.2⟩
  refine hSA (F.inRound L) H w [] ρ _ w _ hF' hE0 hrel1 fun a1 w1 ρ1 hx1 hR1 hE1 => ?_
  have hw1 : w1.heap[L]? = some (.loop r) := hR1.keep L _ hw trivial
  have hρ1 : ρ1 b = .loc L base S := hR1.loc hx1.le hρ hg1 (fun q => by cases q)
  refine ⟨_, run_beginRound hw1 r1, ?_⟩
  have hR1' := hR1.busy hρ1 hg1 hw1 { r with state := .busy }
  have hlt1 : L < w1.heap.size := (Array.getElem?_eq_some_iff.1 hw1).1
  refine hSB (F.inRound L) H _ [] ρ1 a1 _ _ hF' hE1 hR1' fun a2 w3 ρ2 hx2 hR2 hE2 => ?_
  have hw3 : w3.heap[L]? = some (.loop { r with state := .busy }) := hR2.keep L _ (World.putObj_heap_same hlt1) trivial
  have hlt3 : L < w3.heap.size := (Array.getElem?_eq_some_iff.1 hw3).1
  have hρ2 : ρ2 b = .loc L base S := hR2.loc hx2.le hρ1 hg2 (fun q => by cases q)
  have hback : ({ { r with state := .busy } with state := if (none : Option Code).isNone then .ready else .done, pending := none } : Loop) = r := by
    obtain ⟨s, p, f, t, ps, a, c, d⟩ := r
    simp only at r1 r2
    subst r1; subst r2
    rfl
  have hend := run_endRound (P := P) (none : Option Code) hw3
  rw [hback] at hend
  refine ⟨.bool true, w3.putObj L (.loop r), hend, .bool true, ρ2, rfl, ?_, ?_, .one (.bool true)⟩
  · -- nothing else turns
    refine ⟨Ren.le_trans hx1.le hx2.le, Nat.le_trans hx1.next hx2.next, fun c hc hu => ?_⟩
    have hcb : b ≠ c := fun q => by subst q; rw [hρ] at hu; cases hu
    obtain ⟨u1, q1⟩ := hx1.keep c hc hu
    obtain ⟨u2, q2⟩ := hx2.keep c (Nat.lt_of_lt_of_le hc hx1.next) u1
    refine ⟨u2, ?_⟩
    show m2.get c = _
    rw [hm2, if_neg hcb, q2, q1]
    show m.get c = _
    rw [hm, if_neg hcb]
  · have hbel : Below H w w3 := (hR1.below.trans (below_putObj hHL _)).trans hR2.below
    refine ⟨hrel.base, (hrel.below.trans hbel).trans (below_putObj hHL _), ?_, ?_, hR2.fresh, hR2.inj, ?_⟩
    · intro b' B' base' S' e'
      by_cases hbb : b = b'
      · subst hbb
        rw [hρ2] at e'
        injection e' with q1 q2 q3
        subst q1; subst q2; subst q3
        have hgb := hm2 b
        rw [if_pos rfl] at hgb
        exact ⟨_, hgb, hHL, r, World.putObj_heap_same hlt3, fun _ => ⟨r1, r2, by rw [hr, p1, p2, p3], r4.mono (Ren.le_trans hx1.le hx2.le)⟩⟩
      · obtain ⟨ob', g', hB', o⟩ := hR2.live b' B' base' S' e'
        refine ⟨ob', by show m2.get b' = _; rw [hm2, if_neg hbb]; exact g', hB', o.same (World.putObj_heap_other fun q => ?_)⟩
        subst q
        exact hbb (hR2.inj _ _ _ _ _ _ _ hρ2 e')
    · intro b' ob' e' g'
      have hbb : b ≠ b' := fun q => by subst q; rw [hρ2] at e'; cases e'
      have g' : m2.get b' = some ob' := g'
      rw [hm2, if_neg hbb] at g'
      exact hR2.dead b' ob' e' g'
    · intro c o ho q
      have h1 := hrel.keep c o ho q
      by_cases hc : c = L
      · subst hc
        rw [hw] at h1
        cases h1
        exact World.putObj_heap_same hlt3
      · have h2 := hR1.keep c o h1 q
        have h3 : (w1.putObj L (.loop { r with state := .busy })).heap[c]? = some o := (World.putObj_heap_other hc).trans h2
        exact (World.putObj_heap_other hc).trans (hR2.keep c o h3 q)
end Go.Proofs.YtddbhljljmijcaaGreat.V
