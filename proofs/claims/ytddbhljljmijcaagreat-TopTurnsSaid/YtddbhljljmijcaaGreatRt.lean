/- Regions in any order. -/
import Derived.Test.YtddbhljljmijcaaGreatRs
namespace Go.Proofs.YtddbhljljmijcaaGreat.V
open Go.RowKit
set_option linter.unusedVariables false
set_option linter.unusedSimpArgs false
variable {P : Program}

def Env.get (e : Env) (t : Nat) : Option AV := some (e.slot t)
/-- A temporary is what an abstract value says of it. -/
def Tm (ρ : Ren) (a : Act) (t : Nat) (u : AV) : Prop := u.isAny = false → ∃ V, a.tmps[t]? = some V ∧ VRel ρ u V
theorem Tm.mono {ρ ρ' : Ren} {a : Act} {t : Nat} {u : AV} (h : Tm ρ a t u) (hl : Ren.le ρ ρ') : Tm ρ' a t u := fun q => let ⟨V, h1, h2⟩ := h q; ⟨V, h1, h2.mono hl⟩
theorem Tm.same {ρ : Ren} {a a' : Act} {t : Nat} {u : AV} (h : Tm ρ a t u) (e : a'.tmps[t]? = a.tmps[t]?) : Tm ρ a' t u := fun q => let ⟨V, h1, h2⟩ := h q; ⟨V, e.trans h1, h2⟩
theorem Tm.eval {ρ : Ren} {a : Act} {t : Nat} {u : AV} (h : Tm ρ a t u) : VRel ρ u (a.tmps.getD t undef) := by
  cases e : u.isAny with
  | true =>
    have : u = .any := by cases u <;> first | rfl | cases e
    rw [this]
    exact .any
  | false =>
    obtain ⟨V, e1, e2⟩ := h e
    simp only [Array.getD_eq_getD_getElem?, e1, Option.getD_some]
    exact e2
/-- The temporaries that are read hold what an abstract frame says. -/
def Reads (ts : List Nat) (env : Env) (ρ : Ren) (a : Act) : Prop := ∀ t ∈ ts, ∀ u, env.get t = some u → Tm ρ a t u
theorem Reads.mono {ts : List Nat} {env : Env} {ρ ρ' : Ren} {a : Act} (h : Reads ts env ρ a) (hl : Ren.le ρ ρ') : Reads ts env ρ' a := fun t ht u hu => (h t ht u hu).mono hl
/-- Carried out, or not wanted. -/
def Does (F : Fence) (P : Program) (ops : Array Oper) (o : Oper) (a : Act) (w : World) (K : Act → World → Prop) (Q : Exit → Act → World → Prop) : Prop :=
  if Region.wanted o (yielded ops a.tmps) then o.wpIn F 0 P a w K Q else (∀ f, o.about P w a.eval = some f → F.fn f) ∧ K (a.put o.dst undef) w
/-- What carrying out an operation that writes nothing comes to, at this heap; nb is the block that it makes. -/
def RunS (P : Program) (ops : Array Oper) (o : Oper) (ts : List Nat) (env : Env) (h : Heap) (v : AV) (nb : Option (Nat × Ob)) : Prop :=
  ∀ (F : Fence) (H : Nat) (W0 : World) (ρ : Ren) (w : World) (a : Act) (K : Act → World → Prop) (Q : Exit → Act → World → Prop), Wide F → Reads ts env ρ a → Rel H W0 ρ h w → (∀ b ob, nb = some (b, ob) → ρ b = .un ∧ b < h.next ∧ h.m.get b = some ob) →
    (∀ V w' ρ', Ren.le ρ ρ' → (∀ b, b < h.next → ρ b = .un → (∀ ob, nb ≠ some (b, ob)) → ρ' b = .un) → Rel H W0 ρ' h w' → VRel ρ' v V → K (a.put o.dst V) w') → Does F P ops o a w K Q
/-- .. of one that may turn anything. -/
def RunC (P : Program) (ops : Array Oper) (o : Oper) (ts : List Nat) (env : Env) (h : Heap) (v : AV) (h' : Heap) : Prop :=
  ∀ (F : Fence) (H : Nat) (W0 : World) (ρ : Ren) (w : World) (a : Act) (K : Act → World → Prop) (Q : Exit → Act → World → Prop), Wide F → Reads ts env ρ a → Rel H W0 ρ h w →
    (∀ V w' ρ', Ext ρ h ρ' h' → Rel H W0 ρ' h' w' → VRel ρ' v V → K (a.put o.dst V) w') → Does F P ops o a w K Q

/-- An operation whose value is known. -/
structure Ent where
  i : Nat
  anc : Nat
  dst : Option Nat
  ts : List Nat
  env : Env
  v : AV
  nb : Option (Nat × Ob)
def On (L : Array Bool) (i : Nat) : Prop := L.getD i false = true
/-- What a text says of each operation. -/
structure Fact (ops : Array Oper) (n : Nat) (i anc : Nat) (dst : Option Nat) (ts : List Nat) : Prop where
  op : ∃ o, ops[i]? = some o ∧ o.dst = dst
  lt : ∀ d, dst = some d → d < n
structure Inv (P : Program) (ops : Array Oper) (n : Nat) (D : List Deferred) (H : Nat) (W0 : World) (env0 : Env) (pre : List Ent) (env : Env) (h : Heap) (L : Array Bool) (ρ : Ren) (a : Act) (w : World) : Prop where
  size : a.tmps.size = n
  defers : a.defers = D
  rel : Rel H W0 ρ h w
  new : ∀ t u, env.get t = some u → (∀ e ∈ pre, e.dst = some t → On L e.i) → Tm ρ a t u
  old : ∀ e ∈ pre, ¬ On L e.i → ∀ t u, e.dst = some t → env0.get t = some u → Tm ρ a t u
  nb : ∀ e ∈ pre, ¬ On L e.i → ∀ b ob, e.nb = some (b, ob) → ρ b = .un ∧ b < h.next ∧ h.m.get b = some ob
  down : ∀ e ∈ pre, On L e.i → ∀ j, e.anc.testBit j = true → On L j
  sub : ∀ j, On L j → ∃ e ∈ pre, e.i = j
/-- What stays as it is while they are carried out. -/
structure Pre (ops : Array Oper) (n : Nat) (env0 : Env) (pre : List Ent) (env : Env) : Prop where
  fact : ∀ e ∈ pre, Fact ops n e.i e.anc e.dst e.ts
  one : ∀ e ∈ pre, ∀ e' ∈ pre, e.i = e'.i → e = e'
  dsts : ∀ e ∈ pre, ∀ e' ∈ pre, ∀ t, e.dst = some t → e'.dst = some t → e = e'
  nbs : ∀ e ∈ pre, ∀ e' ∈ pre, ∀ b ob ob', e.nb = some (b, ob) → e'.nb = some (b, ob') → e = e'
  val : ∀ e ∈ pre, ∀ t, e.dst = some t → env.get t = some e.v
  base : ∀ t, (∀ e ∈ pre, e.dst ≠ some t) → env.get t = env0.get t
  reads : ∀ e ∈ pre, ∀ t ∈ e.ts, ∀ u, e.env.get t = some u → (env.get t = some u ∧ ∀ e' ∈ pre, e'.dst = some t → e.anc.testBit e'.i = true) ∨ (env0.get t = some u ∧ ∃ e' ∈ pre, e'.dst = some t ∧ (e' = e ∨ e'.anc.testBit e.i = true))
variable {ops : Array Oper} {n : Nat} {D : List Deferred} {H : Nat} {W0 : World} {env0 env : Env} {pre : List Ent} {h : Heap} {L : Array Bool} {ρ : Ren} {a : Act} {w : World}
theorem Inv.reads (p : Pre ops n env0 pre env) (r : Inv P ops n D H W0 env0 pre env h L ρ a w) {e : Ent} (he : e ∈ pre) (hn : ¬ On L e.i) (ha : ∀ j, e.anc.testBit j = true → On L j) : Reads e.ts e.env ρ a := by
  intro t ht u hu
  rcases p.reads e he t ht u hu with ⟨h1, h2⟩ | ⟨h1, e', he', h2, h3⟩
  · exact r.new t u h1 fun e' he' hd => ha _ (h2 e' he' hd)
  · refine r.old e' he' ?_ t u h2 h1
    rcases h3 with rfl | h3
    · exact hn
    · exact fun q => hn (r.down e' he' q _ h3)
theorem On.set {i j : Nat} (hi : i < L.size) : On (L.setIfInBounds i true) j ↔ (j = i ∨ On L j) := by
  unfold On
  simp only [Array.getD_eq_getD_getElem?, Array.getElem?_setIfInBounds]
  by_cases e : i = j
  · subst e; simp [hi]
  · rw [if_neg e]
    constructor
    · exact .inr
    · rintro (q | q)
      · exact absurd q.symm e
      · exact q
/-- One more is carried out. -/
theorem Inv.put (p : Pre ops n env0 pre env) (r : Inv P ops n D H W0 env0 pre env h L ρ a w) {e : Ent} (he : e ∈ pre) (hi : e.i < L.size) (hn : ¬ On L e.i) (ha : ∀ j, e.anc.testBit j = true → On L j)
    {V : Value} {w' : World} {ρ' : Ren} (hl : Ren.le ρ ρ') {h' : Heap} (hn' : h.next ≤ h'.next) (hk : ∀ b, b < h.next → ρ b = .un → (∀ ob, e.nb ≠ some (b, ob)) → ρ' b = .un ∧ h'.m.get b = h.m.get b) (hR : Rel H W0 ρ' h' w') (hV : VRel ρ' e.v V) :
    Inv P ops n D H W0 env0 pre env h' (L.setIfInBounds e.i true) ρ' (a.put e.dst V) w' := by
  have hlt := (p.fact e he).lt
  have hput : ∀ t, e.dst ≠ some t → (a.put e.dst V).tmps[t]? = a.tmps[t]? := by
    intro t ht
    cases hd : e.dst with
    | none => rfl
    | some d =>
      have : d ≠ t := fun q => ht (by rw [hd, q])
      simp only [Act.put, Array.getElem?_setIfInBounds_ne this]
  have off : ∀ e' ∈ pre, ¬ On (L.setIfInBounds e.i true) e'.i → ¬ On L e'.i ∧ e' ≠ e := fun e' he' q => ⟨fun x => q ((On.set hi).2 (.inr x)), fun x => q ((On.set hi).2 (.inl (by rw [x])))⟩
  refine ⟨?_, ?_, hR, ?_, ?_, ?_, ?_, ?_⟩
  · cases hd : e.dst <;> simpa [Act.put] using r.size
  · cases hd : e.dst <;> simpa [Act.put] using r.defers
  · intro t u hu hw
    by_cases hd : e.dst = some t
    · have h1 := p.val e he t hd
      rw [hu] at h1
      cases h1
      refine fun _ => ⟨V, ?_, hV⟩
      rw [hd]
      simp only [Act.put, Array.getElem?_setIfInBounds, if_true, r.size, hlt t hd]
    · have := r.new t u hu (fun e' he' hd' => by
        rcases (On.set hi).1 (hw e' he' hd') with q | q
        · exact absurd hd' (by rw [p.one e' he' e he q]; exact hd)
        · exact q)
      exact (this.same (hput t hd)).mono hl
  · intro e' he' hn' t u hd' hu
    obtain ⟨h1, h2⟩ := off e' he' hn'
    have h3 := r.old e' he' h1 t u hd' hu
    exact (h3.same (hput t (fun q => h2 (p.dsts e' he' e he t hd' q)))).mono hl
  · intro e' he' hoff b ob hb
    obtain ⟨h1, h2⟩ := off e' he' hoff
    obtain ⟨h3, h4, h5⟩ := r.nb e' he' h1 b ob hb
    obtain ⟨k1, k2⟩ := hk b h4 h3 (fun ob' q => h2 (p.nbs e' he' e he b ob ob' hb q))
    exact ⟨k1, Nat.lt_of_lt_of_le h4 hn', k2.trans h5⟩
  · intro e' he' hon j hj
    rw [On.set hi] at hon ⊢
    rcases hon with q | q
    · rw [p.one e' he' e he q] at hj
      exact .inr (ha j hj)
    · exact .inr (r.down e' he' q j hj)
  · intro j hj
    rcases (On.set hi).1 hj with q | q
    · exact ⟨e, he, q.symm⟩
    · exact r.sub j q

/-! ### One more is known -/
theorem PutE.get {dst : Option Nat} {v : AV} {env env' : Env} (h : PutE dst v env env') (t : Nat) : env'.get t = if dst = some t then some v else env.get t := by
  unfold Env.get
  rw [h t]
  split <;> rfl
def Made (nb : Option (Nat × Ob)) (h h' : Heap) : Prop :=
  match nb with
  | none => h' = h
  | some (b, ob) => b = h.next ∧ h'.next = h.next + 1 ∧ ∀ j, h'.m.get j = if h.next = j then some ob else h.m.get j
/-- Of two, one behind the other. -/
structure Seq2 (i : Nat) (dst : Option Nat) (ts : List Nat) (i' anc' : Nat) (dst' : Option Nat) (ts' : List Nat) : Prop where
  ne : i ≠ i'
  apart : ∀ t, dst = some t → dst' ≠ some t
  reads : ∀ t ∈ ts', dst = some t → anc'.testBit i = true
  writes : ∀ t ∈ ts, dst' = some t → anc'.testBit i = true
theorem Pre.add (p : Pre ops n env0 pre env) {e : Ent} (hf : Fact ops n e.i e.anc e.dst e.ts) (hs : ∀ e' ∈ pre, Seq2 e'.i e'.dst e'.ts e.i e.anc e.dst e.ts) (he : e.env = env) {env' : Env} (hp : PutE e.dst e.v env env') (hb : ∀ e' ∈ pre, ∀ b ob ob', e'.nb = some (b, ob) → e.nb ≠ some (b, ob')) : Pre ops n env0 (pre ++ [e]) env' := by
  have mem : ∀ {e' : Ent}, e' ∈ pre ++ [e] → e' ∈ pre ∨ e' = e := fun h => by simpa using h
  have none_of : ∀ t, e.dst = some t → ∀ e' ∈ pre, e'.dst ≠ some t := fun t ht e' he' q => (hs e' he').apart t q ht
  refine ⟨?_, ?_, ?_, ?_, ?_, ?_, ?_⟩
  · intro e' he'
    rcases mem he' with q | rfl
    · exact p.fact e' q
    · exact hf
  · intro e1 h1 e2 h2 hi
    rcases mem h1 with q1 | rfl <;> rcases mem h2 with q2 | rfl
    · exact p.one e1 q1 e2 q2 hi
    · exact absurd hi (hs e1 q1).ne
    · exact absurd hi.symm (hs e2 q2).ne
    · rfl
  · intro e1 h1 e2 h2 t d1 d2
    rcases mem h1 with q1 | rfl <;> rcases mem h2 with q2 | rfl
    · exact p.dsts e1 q1 e2 q2 t d1 d2
    · exact absurd d2 ((hs e1 q1).apart t d1)
    · exact absurd d1 ((hs e2 q2).apart t d2)
    · rfl
  · intro e1 h1 e2 h2 b ob ob' d1 d2
    rcases mem h1 with q1 | rfl <;> rcases mem h2 with q2 | rfl
    · exact p.nbs e1 q1 e2 q2 b ob ob' d1 d2
    · exact absurd d2 (hb e1 q1 b ob ob' d1)
    · exact absurd d1 (hb e2 q2 b ob' ob d2)
    · rfl
  · intro e' he' t hd
    rw [hp.get t]
    rcases mem he' with q | rfl
    · rw [if_neg (fun x => none_of t x e' q hd)]
      exact p.val e' q t hd
    · rw [if_pos hd]
  · intro t ht
    rw [hp.get t, if_neg (ht e (by simp))]
    exact p.base t fun e' he' => ht e' (by simp [he'])
  · intro e' he' t htt u hu
    rcases mem he' with q | rfl
    · by_cases hd : e.dst = some t
      · refine .inr ?_
        rcases p.reads e' q t htt u hu with ⟨h1, h2⟩ | ⟨h1, e2, q2, h2, _⟩
        · rw [p.base t (none_of t hd)] at h1
          exact ⟨h1, e, by simp, hd, .inr ((hs e' q).writes t htt hd)⟩
        · exact absurd h2 (none_of t hd e2 q2)
      · rcases p.reads e' q t htt u hu with ⟨h1, h2⟩ | ⟨h1, e2, q2, h2, h3⟩
        · refine .inl ⟨by rw [hp.get t, if_neg hd]; exact h1, fun e2 h2' hd2 => ?_⟩
          rcases mem h2' with q2 | rfl
          · exact h2 e2 q2 hd2
          · exact absurd hd2 hd
        · exact .inr ⟨h1, e2, by simp [q2], h2, h3⟩
    · rw [he] at hu
      by_cases hd : e'.dst = some t
      · exact .inr ⟨by rw [← p.base t (none_of t hd)]; exact hu, e', by simp, hd, .inl rfl⟩
      · refine .inl ⟨by rw [hp.get t, if_neg hd]; exact hu, fun e2 h2' hd2 => ?_⟩
        rcases mem h2' with q2 | rfl
        · exact (hs e2 q2).reads t htt hd2
        · exact absurd hd2 hd
theorem Made.next {nb : Option (Nat × Ob)} {h h' : Heap} (m : Made nb h h') : h.next ≤ h'.next := by
  match nb, m with
  | none, m => rw [show h' = h from m]; exact Nat.le_refl _
  | some (b, ob), ⟨_, m, _⟩ => omega
theorem Made.keep {nb : Option (Nat × Ob)} {h h' : Heap} (m : Made nb h h') {b : Nat} (hb : b < h.next) : h'.m.get b = h.m.get b := by
  match nb, m with
  | none, m => rw [show h' = h from m]
  | some (_, ob), ⟨_, _, m⟩ => rw [m b, if_neg (by omega)]
theorem Inv.add (p : Pre ops n env0 pre env) (r : Inv P ops n D H W0 env0 pre env h L ρ a w) {e : Ent} (hs : ∀ e' ∈ pre, Seq2 e'.i e'.dst e'.ts e.i e.anc e.dst e.ts) {env' : Env} (hp : PutE e.dst e.v env env') {h' : Heap} (hm : Made e.nb h h') :
    Inv P ops n D H W0 env0 (pre ++ [e]) env' h' L ρ a w ∧ ¬ On L e.i := by
  have mem : ∀ {e' : Ent}, e' ∈ pre ++ [e] → e' ∈ pre ∨ e' = e := fun h => by simpa using h
  have none_of : ∀ t, e.dst = some t → ∀ e' ∈ pre, e'.dst ≠ some t := fun t ht e' he' q => (hs e' he').apart t q ht
  have hoff : ¬ On L e.i := fun q => let ⟨e', h1, h2⟩ := r.sub _ q; (hs e' h1).ne h2
  have hrel : Rel H W0 ρ h' w := r.rel.more hm.next fun b hb => by
    rcases Nat.lt_or_ge b h.next with q | q
    · exact hm.keep q
    · exact absurd (r.rel.fresh b q) hb
  refine ⟨⟨r.size, r.defers, hrel, ?_, ?_, ?_, ?_, ?_⟩, hoff⟩
  · intro t u hu hw
    have hd : e.dst ≠ some t := fun q => hoff (hw e (by simp) q)
    rw [hp.get t, if_neg hd] at hu
    exact r.new t u hu fun e' he' hd' => hw e' (by simp [he']) hd'
  · intro e' he' hn' t u hd hu
    rcases mem he' with q | rfl
    · exact r.old e' q hn' t u hd hu
    · rw [← p.base t (none_of t hd)] at hu
      exact r.new t u hu fun e2 h2 hd2 => absurd hd2 (none_of t hd e2 h2)
  · intro e' he' hn' b ob hb
    rcases mem he' with q | rfl
    · obtain ⟨h1, h2, h3⟩ := r.nb e' q hn' b ob hb
      exact ⟨h1, Nat.lt_of_lt_of_le h2 hm.next, (hm.keep h2).trans h3⟩
    · rw [hb] at hm
      obtain ⟨m1, m2, m3⟩ := hm
      subst m1
      exact ⟨r.rel.fresh _ (Nat.le_refl _), by omega, by rw [m3, if_pos rfl]⟩
  · intro e' he' hon j hj
    rcases mem he' with q | rfl
    · exact r.down e' q hon j hj
    · exact absurd hon hoff
  · intro j hj
    obtain ⟨e', h1, h2⟩ := r.sub j hj
    exact ⟨e', by simp [h1], h2⟩
end Go.Proofs.YtddbhljljmijcaaGreat.V
