/- Rows compared; maps asked and written. -/
import Derived.Test.YtddbhljljmijcaaGreatRn
namespace Go.Proofs.YtddbhljljmijcaaGreat.V
open Go.RowKit
set_option linter.unusedVariables false
set_option linter.unusedSimpArgs false
variable {P : Program}

noncomputable def xeqagg (ks : List KK) (neg : Bool) (a b : AV) (k : At → Bool) : Bool :=
  match a, b with
  | .agg l, .agg m => eqLK ks l m (fun q => fB (q != neg) (fun r => k (.bool r)))
  | _, _ => false
theorem s_eqagg (o : Oper) (neg : Bool) (t t' : TypeId) (x y : Operand) (ho : o.op = .binOp (if neg then .neq else .eql) t x y t') (ks : List KK) (hf : FlatT P t ks) (hm : P.eqGuardType P.depth t = false) (a b : AV) (h : Heap) (k : At → Bool) (hk : xeqagg ks neg a b k = true) : ∃ r, k r = true ∧ OpS P o [a, b] h (.one r) h := by
  unfold xeqagg at hk
  split at hk
  · rename_i l m
    obtain ⟨q, h1, h2, h3⟩ := eqLK_sound _ _ _ _ hk
    rw [fB_eq] at h1
    refine ⟨_, h1, OpS.of_run fun H W0 ρ w ev hv hrel => ?_⟩
    rw [ho] at hv
    obtain ⟨V, U, hL, q1, q2⟩ := VRels.inv2 hv
    simp [Op.operands] at hL
    obtain ⟨rfl, rfl⟩ := hL
    generalize hx : ev x = X at q1
    generalize hy : ev y = Y at q2
    cases q1 with | agg q1 => ?_
    cases q2 with | agg q2 => ?_
    rename_i xs ys
    obtain ⟨r, hr, hre⟩ := hf.eq h2 q1 q2 w
    have : r = q := by
      rw [Bool.eq_iff_iff]
      exact hre.trans h3.symm
    subst this
    refine ⟨.bool (r != neg), w, ρ, .inl ?_, Ext.refl _ _, hrel, .one (.bool _)⟩
    rw [equal_run] at hr
    unfold execOp
    rw [ho]
    cases neg
    · simp only [Bool.false_eq_true, if_false, hx, hy, Sem.run_bind, run_eqGuard_agg w _ t x y xs ys hm, Result.andThen_ok, run_eql_struct]
      rw [hr]
      simp
    · simp only [if_true, hx, hy, Sem.run_bind, run_eqGuard_agg w _ t x y xs ys hm, Result.andThen_ok, run_neq_struct]
      rw [hr]
      simp
  · cases hk

/-! ### Keys -/
inductive KeyS where
  | atom (k : KK)
  | row (ks : List KK)
def KeyT (P : Program) (t : TypeId) : KeyS → Prop
  | .atom k => k.ok P t
  | .row ks => P.underlying t = some (.struct (P.fieldsOf t)) ∧ P.stoodInHeld t = false ∧ FieldsOk P (P.fieldsOf t).toList 0 ks
def SameK : KeyS → AV → AV → Prop
  | .atom k, .one a, .one b => Same k a b
  | .row ks, .agg l, .agg m => Sames ks l m
  | _, _, _ => False
noncomputable def eqKK (s : KeyS) (a b : AV) (k : Bool → Bool) : Bool :=
  match s, a, b with
  | .atom kk, .one x, .one y => eqAK kk x y k
  | .row ks, .agg l, .agg m => eqLK ks l m k
  | _, _, _ => false
theorem eqKK_sound {s : KeyS} {a b : AV} {k : Bool → Bool} (h : eqKK s a b k = true) : ∃ q, k q = true ∧ SameK s a b ∧ (q = true ↔ a = b) := by
  unfold eqKK at h
  split at h
  · obtain ⟨q, h1, h2, h3⟩ := eqAK_sound h
    exact ⟨q, h1, h2, by simpa using h3⟩
  · obtain ⟨q, h1, h2, h3⟩ := eqLK_sound _ _ _ _ h
    exact ⟨q, h1, h2, by simpa using h3⟩
  · cases h
theorem SameK.val {s : KeyS} {a b : AV} (h : SameK s a b) {ρ ρ' : Ren} {A B : Value} (hA : VRel ρ a A) (hB : VRel ρ' b B) : a = b ↔ A = B := by
  cases s <;> cases a <;> cases b <;> try exact h.elim
  · have h : Same _ _ _ := h
    cases hA with | one hA => ?_
    cases hB with | one hB => ?_
    simpa using h.val hA hB
  · have h : Sames _ _ _ := h
    cases hA with | agg hA => ?_
    cases hB with | agg hB => ?_
    have := h.val hA hB
    rename_i L M
    simp only [AV.agg.injEq, this, Value.agg.injEq]
    exact ⟨fun q => Array.toList_inj.1 q, fun q => by rw [q]⟩
theorem Sames.bits : ∀ {ks : List KK} {l m : List At} {ρ : Ren} {L : List Value} (n : Nat), Sames ks l m → ARels ρ l L → (L.zip L).all (fun (x, y) => Instr.sameBits n x y) = true
  | _, _, _, _, _, n, .nil, .nil => rfl
  | _, _, _, _, _, n, .cons h t, .cons a l => by
    simp only [List.zip_cons_cons, List.all_cons, h.bits a n, Bool.true_and]
    exact t.bits n l
theorem SameK.stays {s : KeyS} {a b : AV} (h : SameK s a b) {ρ : Ren} {A : Value} (hA : VRel ρ a A) (w : World) : (Instr.keyThatStays A A).run P w = .ok A w := by
  have : Instr.sameBits 10000 A A = true := by
    cases s <;> cases a <;> cases b <;> try exact h.elim
    · have h : Same _ _ _ := h
      cases hA with | one hA => ?_
      exact h.bits hA _
    · have h : Sames _ _ _ := h
      cases hA with | agg hA => ?_
      rename_i L
      show Instr.sameBits (9999 + 1) (.agg L) (.agg L) = true
      simp only [Instr.sameBits, beq_self_eq_true, Bool.true_and]
      exact h.bits 9999 hA
  simp [Instr.keyThatStays, this]
theorem KK.check {kk : KK} {t : TypeId} (hk : kk.ok P t) {a b : At} (h : Same kk a b) {ρ : Ren} {A : Value} (hA : ARel ρ a A) (em : Bool) (n : Nat) (w : World) : (Instr.checkKey em (n + 1) t A).run P w = .ok () w := by
  cases kk <;> cases a <;> cases b <;> try exact h.elim
  · obtain ⟨k, hk⟩ := hk
    cases hA
    simp [Instr.checkKey, run_underlying hk]
  · have hk : P.underlying t = some .string := hk
    cases hA
    simp [Instr.checkKey, run_underlying hk]
  · have hk : P.underlying t = some .bool := hk
    cases hA
    simp [Instr.checkKey, run_underlying hk]
theorem checkFields {em : Bool} {d : Nat} {xs : Array Value} : ∀ {fs : List Field} {n : Nat} {ks : List KK} {l m : List At} {ρ : Ren} {L : List Value} (w : World), FieldsOk P fs n ks → Sames ks l m → ARels ρ l L → (∀ i, L[i]? = xs[n + i]? ∨ L[i]? = none) →
    (forIn fs PUnit.unit (fun (f : Field) (_ : PUnit) => (if f.name ≠ "_" then part f.type xs f.offset >>= fun a => Instr.checkKey em (d + 1) f.type a >>= fun _ => pure (ForInStep.yield PUnit.unit) else pure (ForInStep.yield PUnit.unit) : Sem (ForInStep PUnit)))).run P w = .ok PUnit.unit w
  | [], n, [], _, _, ρ, _, w, _, .nil, .nil, _ => by simp
  | f :: fs, n, k :: ks, _, _, ρ, _, w, hf, .cons h t, .cons (v := A) (L := L) a l, hx => by
    obtain ⟨h1, h2, h3, h4⟩ := hf
    have hA : xs[f.offset]? = some A := by
      rw [h2]
      rcases hx 0 with q | q
      · simpa using q.symm
      · simp at q
    have ih := checkFields (em := em) (d := d) (xs := xs) w h4 t l (fun i => by
      have := hx (i + 1)
      rw [show n + 1 + i = n + (i + 1) by omega]
      simpa using this)
    rw [List.forIn_cons, Sem.run_bind, if_pos h1]
    simp only [Sem.run_bind, KK.run_part h3 hA w, Result.andThen_ok, KK.check h3 h a, Sem.run_pure]
    exact ih
  | f :: fs, n, [], _, _, _, _, _, hf, _, _, _ => hf.elim
  | [], n, _ :: _, _, _, _, _, _, hf, _, _, _ => hf.elim
theorem SameK.check {s : KeyS} {t : TypeId} (hk : KeyT P t s) {a b : AV} (h : SameK s a b) {ρ : Ren} {A : Value} (hA : VRel ρ a A) (em : Bool) (w : World) : (Instr.checkKey em 10000 t A).run P w = .ok () w := by
  cases s <;> cases a <;> cases b <;> try exact h.elim
  · have h : Same _ _ _ := h
    cases hA with | one hA => ?_
    exact KK.check hk h hA em 9999 w
  · have h : Sames _ _ _ := h
    cases hA with | agg hA => ?_
    rename_i L
    obtain ⟨ht, hp, hf⟩ := hk
    show (Instr.checkKey em (9998 + 1 + 1) t (.agg L)).run P w = .ok () w
    have := checkFields (P := P) (em := em) (d := 9998) (xs := L) w hf h hA (fun i => .inl (by simp))
    unfold Instr.checkKey
    simp only [Sem.run_bind, run_underlying ht, Result.andThen_ok]
    rw [← Array.forIn_toList]
    have e : (9998 + 1 : Nat) = 9999 := rfl
    rw [e] at this
    rw [this]
    rfl

/-! ### Entries -/
inductive MRels (ρ : Ren) : List (AV × AV) → List MapEntry → Prop
  | nil : MRels ρ [] []
  | cons {k x l e L} (hk : VRel ρ k e.key) (hx : VRel ρ x e.val) (t : MRels ρ l L) : MRels ρ ((k, x) :: l) (e :: L)
theorem MRels.of {ρ : Ren} : ∀ {l : List (AV × AV)} {L : List MapEntry}, l.length = L.length → (∀ (i : Nat) k x, l[i]? = some (k, x) → ∃ en, L[i]? = some en ∧ VRel ρ k en.key ∧ VRel ρ x en.val) → MRels ρ l L
  | [], [], _, _ => .nil
  | (k, x) :: l, e :: L, hl, h => by
    obtain ⟨en, e1, e2, e3⟩ := h 0 k x rfl
    simp at e1
    subst e1
    exact .cons e2 e3 (MRels.of (by simpa using hl) (fun i k x q => by
      obtain ⟨en, e1, e2⟩ := h (i + 1) k x (by simpa using q)
      exact ⟨en, by simpa using e1, e2⟩))
  | [], _ :: _, h, _ => by simp at h
  | _ :: _, [], h, _ => by simp at h
/-- The entry of a key. -/
noncomputable def mfindK (s : KeyS) (key : AV) (kf : Nat → AV → Bool) (kn : Bool) (es : List (AV × AV)) : Nat → Bool :=
  List.rec (motive := fun _ => Nat → Bool) (fun _ => kn) (fun e _ ih n => Prod.rec (motive := fun _ => Bool) (fun a x => eqKK s key a (fun q => sel q (kf n x) (fN (Nat.succ n) ih))) e) es
inductive MFind (s : KeyS) (key : AV) : List (AV × AV) → Option (Nat × AV) → Prop
  | nil : MFind s key [] none
  | here {x l} (h : SameK s key key) : MFind s key ((key, x) :: l) (some (0, x))
  | skip {a x l} (h : SameK s key a) (hn : key ≠ a) (t : MFind s key l none) : MFind s key ((a, x) :: l) none
  | next {a x l i y} (h : SameK s key a) (hn : key ≠ a) (t : MFind s key l (some (i, y))) : MFind s key ((a, x) :: l) (some (i + 1, y))
theorem mfindK_sound {s : KeyS} {key : AV} {kf : Nat → AV → Bool} {kn : Bool} : ∀ (es : List (AV × AV)) (n : Nat), mfindK s key kf kn es n = true → (MFind s key es none ∧ kn = true) ∨ ∃ i x, MFind s key es (some (i, x)) ∧ kf (n + i) x = true
  | [], n, h => .inl ⟨.nil, h⟩
  | (a, x) :: l, n, h => by
    obtain ⟨q, h1, h2, h3⟩ := eqKK_sound (k := fun q => sel q (kf n x) (fN (Nat.succ n) (mfindK s key kf kn l))) h
    cases q
    · have hne : key ≠ a := fun q => by have := h3.2 q; cases this
      have h1 : fN (Nat.succ n) (mfindK s key kf kn l) = true := h1
      rw [fN_eq] at h1
      rcases mfindK_sound l _ h1 with ⟨e1, e2⟩ | ⟨i, y, e1, e2⟩
      · exact .inl ⟨.skip h2 hne e1, e2⟩
      · exact .inr ⟨i + 1, y, .next h2 hne e1, by rw [show n + (i + 1) = Nat.succ n + i by omega]; exact e2⟩
    · have := h3.1 rfl
      subst this
      exact .inr ⟨0, x, .here h2, h1⟩
theorem MFind.at {s : KeyS} {key : AV} : ∀ {l : List (AV × AV)} {i : Nat} {x : AV}, MFind s key l (some (i, x)) → l[i]? = some (key, x)
  | _, _, _, .here h => rfl
  | _, _, _, .next h hn t => by simpa using t.at
theorem SameK.now {k : KK} {d : TypeDesc} {t : TypeId} (hd : P.underlying t = some d) (hk : k.ok P t) {a b : AV} (h : SameK (.atom k) a b) {ρ ρ' : Ren} {A B : Value} (hA : VRel ρ a A) (hB : VRel ρ' b B) : (A = B → Instr.sameNow d A B = some true) ∧ (¬ A = B → Instr.sameNow d A B = some false) := by
  cases a <;> cases b <;> try exact h.elim
  have h : Same _ _ _ := h
  cases hA with | one hA => ?_
  cases hB with | one hB => ?_
  obtain ⟨q, h1, h2⟩ := h.now hd hk hA hB
  rw [h1]
  exact ⟨fun e => by rw [h2.2 e], fun e => by cases q; rfl; exact absurd (h2.1 rfl) e⟩
theorem SameK.eq {ks : List KK} {t : TypeId} (hk : KeyT P t (.row ks)) {a b : AV} (h : SameK (.row ks) a b) {ρ ρ' : Ren} {A B : Value} (hA : VRel ρ a A) (hB : VRel ρ' b B) (w : World) : (A = B → (Op.equal t A B).run P w = .ok true w) ∧ (¬ A = B → (Op.equal t A B).run P w = .ok false w) := by
  have hv := h.val hA hB
  cases a <;> cases b <;> try exact h.elim
  have h : Sames _ _ _ := h
  obtain ⟨ht, hp, hf⟩ := hk
  cases hA with | agg hA => ?_
  cases hB with | agg hB => ?_
  obtain ⟨q, h1, h2⟩ := (FlatT.struct ht hp hf).eq h hA hB w
  rw [h1]
  simp only [← hv, AV.agg.injEq]
  exact ⟨fun e => by rw [h2.2 e], fun e => by cases q; rfl; exact absurd (h2.1 rfl) e⟩
theorem MFind.now {k : KK} {d : TypeDesc} {t : TypeId} (hd : P.underlying t = some d) (hk : k.ok P t) {key : AV} {ρ : Ren} {K : Value} (hK : VRel ρ key K) : ∀ {es : List (AV × AV)} {r : Option (Nat × AV)} {E : List MapEntry} (n : Nat), MFind (.atom k) key es r → MRels ρ es E →
    (r = none ∧ Instr.findNow d K E n = some none) ∨ ∃ i x e, r = some (i, x) ∧ Instr.findNow d K E n = some (some (n + i, e.val)) ∧ E[i]? = some e ∧ e.key = K ∧ VRel ρ x e.val
  | _, _, _, n, .nil, .nil => .inl ⟨rfl, rfl⟩
  | _, _, _, n, .here h, .cons (e := e) hk' hx t => by
    have hv := (h.val hK hk').1 rfl
    refine .inr ⟨0, _, e, rfl, ?_, rfl, hv.symm, hx⟩
    simp only [Instr.findNow, (h.now hd hk hK hk').1 hv]
    rfl
  | _, _, _, n, .skip h hn t, .cons hk' hx t' => by
    have hv : ¬ K = _ := fun q => hn ((h.val hK hk').2 q)
    rcases MFind.now hd hk hK (n + 1) t t' with ⟨_, e2⟩ | ⟨i, x, e, e1, _⟩
    · exact .inl ⟨rfl, by simp only [Instr.findNow, (h.now hd hk hK hk').2 hv, e2]⟩
    · cases e1
  | _, _, _, n, .next h hn t, .cons hk' hx t' => by
    have hv : ¬ K = _ := fun q => hn ((h.val hK hk').2 q)
    rcases MFind.now hd hk hK (n + 1) t t' with ⟨e1, _⟩ | ⟨i, x, e, e1, e2, e3, e4, e5⟩
    · cases e1
    · injection e1 with e1
      injection e1 with q1 q2
      subst q1; subst q2
      refine .inr ⟨_, _, e, rfl, ?_, by simpa using e3, e4, e5⟩
      simp only [Instr.findNow, (h.now hd hk hK hk').2 hv, e2]
      congr 3
      omega
theorem MFind.ask {ks : List KK} {t : TypeId} (hk : KeyT P t (.row ks)) {key : AV} {ρ : Ren} {K : Value} (hK : VRel ρ key K) (w : World) : ∀ {es : List (AV × AV)} {r : Option (Nat × AV)} {E : List MapEntry} (n : Nat), MFind (.row ks) key es r → MRels ρ es E →
    (r = none ∧ (Instr.findAsking t K E n).run P w = .ok none w) ∨ ∃ i x e, r = some (i, x) ∧ (Instr.findAsking t K E n).run P w = .ok (some (n + i, e.val)) w ∧ E[i]? = some e ∧ e.key = K ∧ VRel ρ x e.val
  | _, _, _, n, .nil, .nil => .inl ⟨rfl, rfl⟩
  | _, _, _, n, .here h, .cons (e := e) hk' hx t => by
    have hv := (h.val hK hk').1 rfl
    refine .inr ⟨0, _, e, rfl, ?_, rfl, hv.symm, hx⟩
    simp only [Instr.findAsking, Sem.run_bind, (h.eq hk hK hk' w).1 hv]
    rfl
  | _, _, _, n, .skip h hn t, .cons hk' hx t' => by
    have hv : ¬ K = _ := fun q => hn ((h.val hK hk').2 q)
    rcases MFind.ask hk hK w (n + 1) t t' with ⟨_, e2⟩ | ⟨i, x, e, e1, _⟩
    · exact .inl ⟨rfl, by simpa [Instr.findAsking, (h.eq hk hK hk' w).2 hv] using e2⟩
    · cases e1
  | _, _, _, n, .next h hn t, .cons hk' hx t' => by
    have hv : ¬ K = _ := fun q => hn ((h.val hK hk').2 q)
    rcases MFind.ask hk hK w (n + 1) t t' with ⟨e1, _⟩ | ⟨i, x, e, e1, e2, e3, e4, e5⟩
    · cases e1
    · injection e1 with e1
      injection e1 with q1 q2
      subst q1; subst q2
      refine .inr ⟨_, _, e, rfl, ?_, by simpa using e3, e4, e5⟩
      simp [Instr.findAsking, (h.eq hk hK hk' w).2 hv, e2]
      omega
theorem MFind.key {s : KeyS} {t : TypeId} (hk : KeyT P t s) {key : AV} {ρ : Ren} {K : Value} (hK : VRel ρ key K) (w : World) {es : List (AV × AV)} {r : Option (Nat × AV)} {E : List MapEntry} (h : MFind s key es r) (hE : MRels ρ es E) :
    (r = none ∧ (Instr.findKey t K E).run P w = .ok none w) ∨ ∃ i x e, r = some (i, x) ∧ (Instr.findKey t K E).run P w = .ok (some (i, e.val)) w ∧ E[i]? = some e ∧ e.key = K ∧ VRel ρ x e.val := by
  cases s with
  | atom k =>
    have hd : ∃ d, P.underlying t = some d := by
      cases k
      · obtain ⟨k, hk⟩ := hk; exact ⟨_, hk⟩
      · exact ⟨_, hk⟩
      · exact ⟨_, hk⟩
    obtain ⟨d, hd⟩ := hd
    rcases h.now hd hk hK 0 hE with ⟨e1, e2⟩ | ⟨i, x, e, e1, e2, e3⟩
    · exact .inl ⟨e1, by simp [Instr.findKey, run_underlying hd, e2]⟩
    · exact .inr ⟨i, x, e, e1, by rw [Nat.zero_add] at e2; simp [Instr.findKey, run_underlying hd, e2], e3⟩
  | row ks =>
    have he : (Instr.findKey t K E).run P w = (Instr.findAsking t K E).run P w := run_findKey_eq w (by rw [hk.1]) K E
    rcases h.ask hk hK w 0 hE with ⟨e1, e2⟩ | ⟨i, x, e, e1, e2, e3⟩
    · exact .inl ⟨e1, by rw [he]; exact e2⟩
    · exact .inr ⟨i, x, e, e1, by rw [he]; simpa using e2, e3⟩

/-! ### Asked, written -/
noncomputable def outK (ok : Bool) (v : AV) (b : Bool) (k : AV → Bool) : Bool := sel ok (k (.tup [v, .one (.bool b)])) (k v)
noncomputable def xlookup (s : KeyS) (z : AV) (ok : Bool) (m : At) (key : AV) (h : Heap) (k : AV → Bool) : Bool :=
  match m with
  | .nilm => eqKK s key key (fun _ => outK ok z false k)
  | .mp b => mapK h b (fun es => eqKK s key key (fun _ => mfindK s key (fun _ v => outK ok v true k) (outK ok z false k) es 0))
  | _ => false
theorem outK_sound {ok : Bool} {v : AV} {b : Bool} {k : AV → Bool} (h : outK ok v b k = true) : ∃ r, k r = true ∧ ∀ ρ V, VRel ρ v V → VRel ρ r (if ok = true then .tuple #[V, .bool b] else V) := by
  rw [outK, sel_eq] at h
  cases ok
  · exact ⟨v, h, fun ρ V hV => hV⟩
  · exact ⟨_, h, fun ρ V hV => .tup (.cons hV (.cons (.one (.bool b)) .nil))⟩
theorem s_lookup (o : Oper) (t kt e : TypeId) (x ix : Operand) (ok : Bool) (ho : o.op = .lookup t x ix ok) (ht : P.underlying t = some (.map kt e)) (s : KeyS) (hs : KeyT P kt s) (ie : TypeInfo) (hie : P.info? e = some ie) (Z : Value) (hzr : ie.zero = some Z) (z : AV) (hz : ∀ ρ, VRel ρ z Z)
    (m : At) (key : AV) (h : Heap) (k : AV → Bool) (hk : xlookup s z ok m key h k = true) : ∃ v, k v = true ∧ OpS P o [.one m, key] h v h := by
  have fin : ∀ {v : AV} (hf : ∀ (H : Nat) (W0 : World) (ρ : Ren) (w : World) (M K : Value), Rel H W0 ρ h w → ARel ρ m M → VRel ρ key K → ∃ V, (Instr.lookup t M K ok).run P w = .ok V w ∧ VRel ρ v V), OpS P o [.one m, key] h v h := by
    intro v hf
    refine OpS.of_run fun H W0 ρ w ev hv hrel => ?_
    rw [ho] at hv
    obtain ⟨V, U, hL, q1, q2⟩ := VRels.inv2 hv
    simp [Op.operands] at hL
    obtain ⟨rfl, rfl⟩ := hL
    obtain ⟨R, hr, hR⟩ := hf H W0 ρ w _ _ hrel (vinv q1) q2
    refine ⟨R, w, ρ, .inl ?_, Ext.refl _ _, hrel, hR⟩
    unfold execOp
    rw [ho]
    simp only [Sem.run_bind, hr, Result.andThen_ok, Sem.run_pure]
  have zero : ∀ (w : World), (zeroValue e).run P w = .ok Z w := fun w => by simp [zeroValue, typeInfo, hie, hzr]
  unfold xlookup at hk
  split at hk
  · obtain ⟨q, hk, hsame, _⟩ := eqKK_sound hk
    obtain ⟨r, hk, hr⟩ := outK_sound hk
    refine ⟨r, hk, fin fun H W0 ρ w M K rel hM hK => ?_⟩
    cases hM
    refine ⟨_, ?_, hr ρ Z (hz ρ)⟩
    have hf : (Instr.findKey kt K []).run P w = .ok none w := by
      rcases (MFind.nil (s := s) (key := key)).key hs hK w .nil with ⟨_, e2⟩ | ⟨i, x, e, e1, _⟩
      · exact e2
      · cases e1
    have hc := hsame.check hs hK true w
    unfold Instr.lookup
    simp only [Sem.run_bind, run_underlying ht, Result.andThen_ok, Sem.run_pure]
    rw [show (#[] : Array MapEntry).isEmpty = true from rfl, hc]
    simp only [Result.andThen_ok, hf]
    simp only [Sem.run_bind, zero, Result.andThen_ok, Sem.run_pure]
  · rename_i b
    obtain ⟨es, hg, hk⟩ := mapK_sound hk
    obtain ⟨q, hk, hsame, _⟩ := eqKK_sound hk
    have run : ∀ (H : Nat) (W0 : World) (ρ : Ren) (w : World) (M K : Value), Rel H W0 ρ h w → ARel ρ (.mp b) M → VRel ρ key K → ∃ E, MRels ρ es E ∧ ∀ r, (Instr.findKey kt K E).run P w = .ok r w → (Instr.lookup t M K ok).run P w = .ok (match r with | some (_, v) => if ok = true then .tuple #[v, .bool true] else v | none => if ok = true then .tuple #[Z, .bool false] else Z) w := by
      intro H W0 ρ w M K rel hM hK
      obtain ⟨B, S, E, clock, rfl, hb, hH, hw, hl, hE⟩ := rel.mapAt hg hM
      refine ⟨E.toList, MRels.of (by simpa using hl) (fun i k x q => by simpa using hE i k x q), fun r hr => ?_⟩
      have hc := hsame.check hs hK E.isEmpty w
      unfold Instr.lookup
      simp only [Sem.run_bind, run_underlying ht, Result.andThen_ok, Sem.run_pure, run_getObj hw, hc, hr]
      cases r with
      | none => simp only [Sem.run_bind, zero, Result.andThen_ok, Sem.run_pure]
      | some p => simp only [Sem.run_bind, Sem.run_pure, Result.andThen_ok]
    rcases mfindK_sound _ _ hk with ⟨hm, hk⟩ | ⟨i, v, hm, hk⟩
    · obtain ⟨r, hk, hr⟩ := outK_sound hk
      refine ⟨r, hk, fin fun H W0 ρ w M K rel hM hK => ?_⟩
      obtain ⟨E, hE, hrun⟩ := run H W0 ρ w M K rel hM hK
      rcases hm.key hs hK w hE with ⟨_, e2⟩ | ⟨i, x, e, e1, _⟩
      · exact ⟨_, hrun _ e2, hr ρ Z (hz ρ)⟩
      · cases e1
    · obtain ⟨r, hk, hr⟩ := outK_sound hk
      refine ⟨r, hk, fin fun H W0 ρ w M K rel hM hK => ?_⟩
      obtain ⟨E, hE, hrun⟩ := run H W0 ρ w M K rel hM hK
      rcases hm.key hs hK w hE with ⟨e1, _⟩ | ⟨i, x, e, e1, e2, e3, e4, e5⟩
      · cases e1
      · injection e1 with e1
        injection e1 with q1 q2
        subst q1; subst q2
        exact ⟨_, hrun _ e2, hr ρ _ e5⟩
  · cases hk
noncomputable def xupd (s : KeyS) (m : At) (key v : AV) (h : Heap) (k : Heap → Bool) : Bool :=
  match m with
  | .mp b => mapK h b (fun es => eqKK s key key (fun _ => mfindK s key (fun i _ => lputK es i [(key, v)] (fun es' => h.m.setK b (.map es') (fun m => k ⟨m, h.next⟩)))
      (lappK es [(key, v)] (fun es' => h.m.setK b (.map es') (fun m => k ⟨m, h.next⟩))) es 0))
  | _ => false
theorem upd_sound (t kt e : TypeId) (ht : P.underlying t = some (.map kt e)) (s : KeyS) (hs : KeyT P kt s) (m : At) (key v : AV) (h : Heap) (k : Heap → Bool) (hk : xupd s m key v h k = true) :
    ∃ h', k h' = true ∧ ∀ (H : Nat) (W0 : World) (ρ : Ren) (w : World) (M K V : Value), Rel H W0 ρ h w → ARel ρ m M → VRel ρ key K → VRel ρ v V → ∃ w', (Instr.mapUpdate t M K V).run P w = .ok () w' ∧ Ext ρ h ρ h' ∧ Rel H W0 ρ h' w' := by
  unfold xupd at hk
  split at hk
  · rename_i b
    obtain ⟨es, hg, hk⟩ := mapK_sound hk
    obtain ⟨q, hk, hsame, _⟩ := eqKK_sound hk
    have run : ∀ (H : Nat) (W0 : World) (ρ : Ren) (w : World) (M K : Value), Rel H W0 ρ h w → ARel ρ (.mp b) M → VRel ρ key K → ∃ B S E clock, M = .map (some B) ∧ ρ b = .loc B 0 S ∧ w.heap[B]? = some (.map E clock) ∧ es.length = E.size ∧ (∀ (i : Nat) k x, es[i]? = some (k, x) → ∃ en, E[i]? = some en ∧ VRel ρ k en.key ∧ VRel ρ x en.val) ∧ MRels ρ es E.toList ∧ (Instr.checkKey false 10000 kt K).run P w = .ok () w := by
      intro H W0 ρ w M K rel hM hK
      obtain ⟨B, S, E, clock, rfl, hb, hH, hw, hl, hE⟩ := rel.mapAt hg hM
      exact ⟨B, S, E, clock, rfl, hb, hw, hl, hE, MRels.of (by simpa using hl) (fun i k x q => by simpa using hE i k x q), hsame.check hs hK false w⟩
    rcases mfindK_sound _ _ hk with ⟨hm, hk⟩ | ⟨i, v0, hm, hk⟩
    · rw [lappK_eq] at hk
      obtain ⟨m', hm', hk⟩ := T.setK_sound _ _ _ _ hk
      refine ⟨_, hk, fun H W0 ρ w M K V rel hM hK hV => ?_⟩
      obtain ⟨B, S, E, clock, rfl, hb, hw, hl, hE, hR, hc⟩ := run H W0 ρ w M K rel hM hK
      rcases hm.key hs hK w hR with ⟨_, e2⟩ | ⟨i, x, e, e1, _⟩
      · have hsz : (E.push { key := K, val := V, born := clock }).size = E.size + 1 := by simp
        obtain ⟨r', x'⟩ := rel.writeMap (h' := ⟨m', h.next⟩) (es' := es ++ [(key, v)]) hb hg rfl hm' hw (E.push { key := K, val := V, born := clock }) (clock + 1) (by simp [hl]) (fun i k x q => by
          by_cases hi : i < es.length
          · rw [List.getElem?_append_left hi] at q
            obtain ⟨en, e1, e2⟩ := hE i k x q
            exact ⟨en, by rw [Array.getElem?_push, if_neg (by omega)]; exact e1, e2⟩
          · rw [List.getElem?_append_right (by omega)] at q
            have : i - es.length = 0 := by
              have := (List.getElem?_eq_some_iff.1 q).1
              simp at this
              omega
            rw [this] at q
            simp at q
            obtain ⟨rfl, rfl⟩ := q
            exact ⟨_, by rw [Array.getElem?_push, if_pos (by omega)], hK, hV⟩)
        refine ⟨_, ?_, x', r'⟩
        unfold Instr.mapUpdate
        simp only [Sem.run_bind, run_underlying ht, Result.andThen_ok, run_getObj hw, hc, e2, run_setObj hw]
      · cases e1
    · obtain ⟨es', hl1, hl2, hp, hk⟩ := lputK_sound _ _ _ _ hk
      obtain ⟨m', hm', hk⟩ := T.setK_sound _ _ _ _ hk
      refine ⟨_, hk, fun H W0 ρ w M K V rel hM hK hV => ?_⟩
      obtain ⟨B, S, E, clock, rfl, hb, hw, hl, hE, hR, hc⟩ := run H W0 ρ w M K rel hM hK
      rcases hm.key hs hK w hR with ⟨e1, _⟩ | ⟨i', x, e, e1, e2, e3, e4, e5⟩
      · cases e1
      · injection e1 with e1
        injection e1 with q1 q2
        subst q1
        simp only [Nat.zero_add] at hp hl2
        have e3 : E[i]? = some e := by simpa using e3
        obtain ⟨r', x'⟩ := rel.writeMap (h' := ⟨m', h.next⟩) (es' := es') hb hg rfl hm' hw (E.modify i fun e => { e with key := K, val := V }) clock (by simp [hl1, hl]) (fun j k x q => by
          rw [hp j] at q
          by_cases hj : i = j
          · subst hj
            rw [if_pos (by simp)] at q
            simp at q
            obtain ⟨rfl, rfl⟩ := q
            exact ⟨_, by rw [Array.getElem?_modify, if_pos rfl, e3]; rfl, hK, hV⟩
          · rw [if_neg (by simp; omega)] at q
            obtain ⟨en, e1, e2⟩ := hE j k x q
            exact ⟨en, by rw [Array.getElem?_modify, if_neg hj]; exact e1, e2⟩)
        refine ⟨_, ?_, x', r'⟩
        unfold Instr.mapUpdate
        simp only [Sem.run_bind, run_underlying ht, Result.andThen_ok, run_getObj hw, hc, e2, e3, Option.map_some, Option.getD_some, e4, hsame.stays hK w, run_setObj hw]
  · cases hk
theorem s_upd (o : Oper) (t kt e : TypeId) (xm xk xv : Operand) (ho : o.op = .mapUpdate t xm xk xv ∨ o.op = .insert t xm xk xv) (ht : P.underlying t = some (.map kt e)) (s : KeyS) (hs : KeyT P kt s) (m : At) (key v : AV) (h : Heap) (k : Heap → Bool) (hk : xupd s m key v h k = true) :
    ∃ h', k h' = true ∧ OpS P o [.one m, key, v] h (.tup []) h' := by
  obtain ⟨h', hk, hf⟩ := upd_sound t kt e ht s hs m key v h k hk
  refine ⟨h', hk, OpS.of_run fun H W0 ρ w ev hv hrel => ?_⟩
  have hops : o.op.operands.toList = [xm, xk, xv] := by rcases ho with ho | ho <;> rw [ho] <;> simp [Op.operands]
  rw [hops] at hv
  obtain ⟨A, B, C, hL, q1, q2, q3⟩ := VRels.inv3 hv
  simp at hL
  obtain ⟨hL1, hL2, hL3⟩ := hL
  subst hL1; subst hL2; subst hL3
  obtain ⟨w', hr, hx, hR⟩ := hf H W0 ρ w _ _ _ hrel (vinv q1) q2 q3
  refine ⟨_, w', ρ, .inr ⟨?_, rfl⟩, hx, hR, VRel.undef ρ⟩
  unfold execOp
  rcases ho with ho | ho <;> rw [ho] <;> simp only [Sem.run_bind, hr, Result.andThen_ok, Sem.run_pure]
end Go.Proofs.YtddbhljljmijcaaGreat.V
