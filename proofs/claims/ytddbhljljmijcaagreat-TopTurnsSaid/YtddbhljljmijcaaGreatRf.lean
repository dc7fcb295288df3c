/- Variables: made, loaded, stored; comparisons with nil. -/
import Derived.Test.YtddbhljljmijcaaGreatRe
import Derived.Laws.Cells
namespace Go.Proofs.YtddbhljljmijcaaGreat.V
open Go.RowKit
set_option linter.unusedVariables false
variable {P : Program}

theorem s_bin (o : Oper) (op : BinOp) (t t' : TypeId) (x y : Operand) (ho : o.op = .binOp op t x y t') (a b v : At) (h : Heap)
    (hs : ∀ (H : Nat) (W0 : World) (ρ : Ren) (w : World) (A B : Value), Rel H W0 ρ h w → ARel ρ a A → ARel ρ b B → ∃ V, ((do eqGuard op t x y A B; binOp op t A B : Sem Value)).run P w = .ok V w ∧ ARel ρ v V) : OpS P o [.one a, .one b] h (.one v) h := by
  refine OpS.of_run fun H W0 ρ w ev hv hrel => ?_
  rw [ho] at hv
  obtain ⟨V, U, hL, h1, h2⟩ := VRels.inv2 hv
  simp [Op.operands] at hL
  obtain ⟨rfl, rfl⟩ := hL
  obtain ⟨R, hr, hR⟩ := hs H W0 ρ w _ _ hrel (vinv h1) (vinv h2)
  refine ⟨R, w, ρ, .inl ?_, Ext.refl _ _, hrel, .one hR⟩
  unfold execOp
  rw [ho]
  simp only [Sem.run_bind] at hr ⊢
  rw [hr]
  rfl

/-! ### Is it nil? -/
inductive BK where
  | num | bool | ptr | slice | map | func
def BK.ok (P : Program) (t : TypeId) : BK → Prop
  | .num => True
  | .bool => P.underlying t = some .bool
  | .ptr => ∃ e i, P.underlying t = some (.pointer e) ∧ P.info? e = some i ∧ i.size ≠ 0
  | .slice => ∃ e, P.underlying t = some (.slice e)
  | .map => ∃ k e, P.underlying t = some (.map k e)
  | .func => ∃ a b c, P.underlying t = some (.func a b c)
def eqNil : BK → At → At → Option Bool
  | .bool, .bool a, .bool b => some (a == b)
  | .ptr, .nilp, .nilp => some true
  | .ptr, .nilp, .ptr _ _ => some false
  | .ptr, .ptr _ _, .nilp => some false
  | .slice, .nils, .nils => some true
  | .slice, .nils, .slc .. => some false
  | .slice, .nils, .emps => some false
  | .slice, .slc .., .nils => some false
  | .slice, .emps, .nils => some false
  | .map, .nilm, .nilm => some true
  | .map, .nilm, .mp _ => some false
  | .map, .mp _, .nilm => some false
  | .func, .nilf, .nilf => some true
  | .func, .nilf, .fn .. => some false
  | .func, .fn .., .nilf => some false
  | _, _, _ => none
theorem equal_run (t : TypeId) (x y : Value) : Op.equal t x y = Op.equalIn (9999 + 1) t x y := rfl
theorem eqNil_in {t : TypeId} {bk : BK} (hk : bk.ok P t) {a b : At} {q : Bool} (hq : eqNil bk a b = some q) {ρ : Ren} {A B : Value} (hA : ARel ρ a A) (hB : ARel ρ b B) (w : World) (d : Nat) : (Op.equalIn (d + 1) t A B).run P w = .ok q w := by
  cases bk
  case num => cases a <;> cases b <;> cases hq
  case bool =>
    have hk : P.underlying t = some .bool := hk
    cases a <;> cases b <;> cases hq
    cases hA; cases hB
    simp [Op.equalIn, run_underlying hk]
  case ptr =>
    obtain ⟨e, i, hk, _, _⟩ := hk
    cases a <;> cases b <;> cases hq <;> cases hA <;> cases hB <;> (simp only [Op.equalIn, Sem.run_bind, run_underlying hk, Result.andThen_ok]; rfl)
  case slice =>
    obtain ⟨e, hk⟩ := hk
    cases a <;> cases b <;> cases hq <;> cases hA <;> cases hB <;> (simp only [Op.equalIn, Sem.run_bind, run_underlying hk, Result.andThen_ok]; rfl)
  case map =>
    obtain ⟨k, e, hk⟩ := hk
    cases a <;> cases b <;> cases hq <;> cases hA <;> cases hB <;> (simp only [Op.equalIn, Sem.run_bind, run_underlying hk, Result.andThen_ok]; rfl)
  case func =>
    obtain ⟨k, e, c, hk⟩ := hk
    cases a <;> cases b <;> cases hq <;> cases hA <;> cases hB <;> (simp only [Op.equalIn, Sem.run_bind, run_underlying hk, Result.andThen_ok]; rfl)
/-- Two values that are compared by their type. -/
def Eqs (t : TypeId) (A B : Value) : Prop := (∀ x y, (eqGuard .eql t x y A B) = pure ()) ∧ (∀ x y, (eqGuard .neq t x y A B) = pure ()) ∧
      binOp .eql t A B = (do pure (.bool (← Op.equal t A B))) ∧ binOp .neq t A B = (do pure (.bool (!(← Op.equal t A B))))
theorem eqNil_bin {t : TypeId} {bk : BK} {a b : At} {q : Bool} (hq : eqNil bk a b = some q) {ρ : Ren} {A B : Value} (hA : ARel ρ a A) (hB : ARel ρ b B) : Eqs t A B := by
  cases bk <;> cases a <;> cases b <;> cases hq <;> cases hA <;> cases hB <;> exact ⟨fun _ _ => rfl, fun _ _ => rfl, rfl, rfl⟩
theorem Eqs.run {t : TypeId} {A B : Value} (h : Eqs t A B) {q : Bool} {w : World} (hr : (Op.equal t A B).run P w = .ok q w) (neg : Bool) (x y : Operand) :
    ((do eqGuard (if neg then .neq else .eql) t x y A B; binOp (if neg then .neq else .eql) t A B : Sem Value)).run P w = .ok (.bool (q != neg)) w := by
  obtain ⟨h1, h2, h3, h4⟩ := h
  cases neg
  · simp [h1, h3, hr]
  · simp [h2, h4, hr]
theorem eqNil_run {t : TypeId} {bk : BK} (hk : bk.ok P t) {a b : At} {q : Bool} (hq : eqNil bk a b = some q) {ρ : Ren} {A B : Value} (hA : ARel ρ a A) (hB : ARel ρ b B) (w : World) : (Op.equal t A B).run P w = .ok q w := by
  rw [equal_run]
  exact eqNil_in hk hq hA hB w _

/-! ### Two pointers -/
theorem eqPtr_in {t e : TypeId} {inf : TypeInfo} (hu : P.underlying t = some (.pointer e)) (hi : P.info? e = some inf) (hz : inf.size ≠ 0) (B base i j : Nat) (w : World) (d : Nat) :
    (Op.equalIn (d + 1) t (.pointer (some ⟨B, base + i, none⟩)) (.pointer (some ⟨B, base + j, none⟩))).run P w = .ok (Nat.beq i j) w := by
  have e1 : ((⟨B, base + i, none⟩ : Addr) == ⟨B, base + j, none⟩) = Nat.beq i j := by
    rw [Bool.eq_iff_iff]
    simp
  simp [Op.equalIn, run_underlying hu, sizeOf, typeInfo, hi, hz, sameAddr]
  exact e1
theorem eqPtr_run {t : TypeId} (hk : BK.ptr.ok P t) {b i j : Nat} {H : Nat} {W0 : World} {ρ : Ren} {h : Heap} {w : World} (r : Rel H W0 ρ h w) {c : List At} {fz : Nat} {byte : Bool} {bd : Nat} (g : h.m.get b = some (.cells c fz byte bd)) {A B : Value} (hA : ARel ρ (.ptr b i) A) (hB : ARel ρ (.ptr b j) B) :
    (Op.equal t A B).run P w = .ok (Nat.beq i j) w := by
  obtain ⟨e, inf, hu, hi, hz⟩ := hk
  obtain ⟨Bk, base, S, CS, el, fr, hb, _⟩ := r.row g hA.not_un
  cases hA with
  | ptrd q => rw [hb] at q; cases q
  | ptr q =>
    cases hB with
    | ptrd q => rw [hb] at q; cases q
    | ptr q' =>
      rw [q] at q'
      injection q' with q1 q2
      subst q1; subst q2
      rw [equal_run]
      exact eqPtr_in hu hi hz _ _ _ _ _ _

/-! ### New blocks -/
theorem obNew {ρ ρ' : Ren} {w : World} {l : List At} {L : Array Value} {e : TypeId} {byte : Bool} (hr : ARels ρ l L.toList) (hle : Ren.le ρ ρ') (hb : byte = true → e = 5) : ObRel ρ' (w.alloc (.cells L e)) w.heap.size 0 L.size (.cells l 0 byte 0) := by
  refine ⟨L, e, (0, 0), heap_alloc_new w _, rfl, fun i a ha => ?_, fun i _ _ => ?_, fun q => ⟨hb q, by simp, by simp⟩, fun q => absurd rfl q⟩
  · obtain ⟨v, hv, hr⟩ := hr.get i a ha
    exact ⟨v, by simpa using hv, hr.mono hle⟩
  · simp
noncomputable def newK (l : List At) (byte : Bool) (h : Heap) (k : Nat → Heap → Bool) : Bool :=
  h.m.setK h.next (.cells l 0 byte 0) (fun m => fN (Nat.succ h.next) (fun n => k h.next ⟨m, n⟩))
/-- What a new row comes to. -/
theorem newK_sound {l : List At} {byte : Bool} {h : Heap} {k : Nat → Heap → Bool} (hk : newK l byte h k = true) : ∃ h', k h.next h' = true ∧ ∀ (H : Nat) (W0 : World) (ρ : Ren) (w : World) (L : Array Value) (e : TypeId), Rel H W0 ρ h w → ARels ρ l L.toList → (byte = true → e = 5) →
    ∃ ρ', ρ' = ρ.set h.next (.loc w.heap.size 0 L.size) ∧ Ext ρ h ρ' h' ∧ Rel H W0 ρ' h' (w.alloc (.cells L e)) ∧ ρ' h.next = .loc w.heap.size 0 L.size := by
  obtain ⟨m, hm, hk⟩ := T.setK_sound _ _ _ _ hk
  rw [fN_eq] at hk
  refine ⟨_, hk, fun H W0 ρ w L e r hr hb => ?_⟩
  have hu := r.fresh h.next (Nat.le_refl _)
  have hle : Ren.le ρ (ρ.set h.next (.loc w.heap.size 0 L.size)) := Ren.set_le (by rw [hu]; trivial)
  obtain ⟨r', x⟩ := r.new (h' := ⟨m, Nat.succ h.next⟩) (.cells l 0 byte 0) rfl hm (.cells L e) L.size (obNew hr hle hb)
  exact ⟨_, rfl, x, r', by unfold Ren.set; rw [if_pos rfl]⟩
theorem s_box (o : Oper) (e : TypeId) (x : Operand) (ho : o.op = .box e x) (v : AV) (l : List At) (hl : v.cells = some l) (h : Heap) (k : Nat → Heap → Bool) (hk : newK l false h k = true) : ∃ h', k h.next h' = true ∧ OpS P o [v] h (.one (.ptr h.next 0)) h' := by
  obtain ⟨h', hk', hs⟩ := newK_sound hk
  refine ⟨h', hk', OpS.of_run fun H W0 ρ w ev hv hrel => ?_⟩
  rw [ho] at hv
  obtain ⟨V, hL, h1⟩ := VRels.inv1 hv
  simp [Op.operands] at hL
  subst hL
  obtain ⟨ρ', _, hx, hr', hat⟩ := hs H W0 ρ w (ev x).cells e hrel (h1.cells hl) (fun q => by cases q)
  refine ⟨.pointer (some ⟨w.heap.size, 0, none⟩), _, ρ', .inl ?_, hx, hr', .one ?_⟩
  · unfold execOp
    rw [ho]
    simp [Instr.box, newVar, newRow]
  · have := ARel.ptr (o := 0) hat
    simpa using this
theorem s_alloc (o : Oper) (e : TypeId) (ho : o.op = .alloc e) (inf : TypeInfo) (hi : P.info? e = some inf) (Z : Value) (hz : inf.zero = some Z) (l : List At) (hl : ∀ ρ, ARels ρ l Z.cells.toList) (h : Heap) (k : Nat → Heap → Bool) (hk : newK l false h k = true) : ∃ h', k h.next h' = true ∧ OpS P o [] h (.one (.ptr h.next 0)) h' := by
  obtain ⟨h', hk', hs⟩ := newK_sound hk
  refine ⟨h', hk', OpS.of_run fun H W0 ρ w ev hv hrel => ?_⟩
  obtain ⟨ρ', _, hx, hr', hat⟩ := hs H W0 ρ w Z.cells e hrel (hl ρ) (fun q => by cases q)
  refine ⟨.pointer (some ⟨w.heap.size, 0, none⟩), _, ρ', .inl ?_, hx, hr', .one ?_⟩
  · unfold execOp
    rw [ho]
    simp [Instr.alloc, newVar, newRow, zeroValue, typeInfo, hi, hz]
  · have := ARel.ptr (o := 0) hat
    simpa using this

/-! ### Loads and stores -/
def isAggD : TypeDesc → Bool
  | .struct _ => true
  | .array _ _ => true
  | _ => false
theorem run_isAgg {t : TypeId} {d : TypeDesc} (hd : P.underlying t = some d) (w : World) : (isAgg t).run P w = .ok (isAggD d) w := by
  simp only [isAgg, Sem.run_bind, run_underlying hd, Result.andThen_ok]
  cases d <;> rfl
noncomputable def cellsK (h : Heap) (b : Nat) (k : List At → Nat → Bool → Bool) : Bool := h.m.getK b (fun ob => Ob.rec (motive := fun _ => Bool) (fun c fz byte _ => k c fz byte) (fun _ => false) false (fun _ _ _ => false) ob)
theorem cellsK_sound {h : Heap} {b : Nat} {k : List At → Nat → Bool → Bool} (hk : cellsK h b k = true) : ∃ c fz byte bd, h.m.get b = some (.cells c fz byte bd) ∧ k c fz byte = true := by
  obtain ⟨ob, h1, h2⟩ := T.getK_sound _ _ _ hk
  cases ob with
  | cells c fz byte bd => exact ⟨c, fz, byte, bd, h1, h2⟩
  | map es => cases h2
  | gone => cases h2
  | loop _ _ _ => cases h2
noncomputable def cells4K (h : Heap) (b : Nat) (k : List At → Nat → Bool → Nat → Bool) : Bool := h.m.getK b (fun ob => Ob.rec (motive := fun _ => Bool) k (fun _ => false) false (fun _ _ _ => false) ob)
theorem cells4K_sound {h : Heap} {b : Nat} {k : List At → Nat → Bool → Nat → Bool} (hk : cells4K h b k = true) : ∃ c fz byte bd, h.m.get b = some (.cells c fz byte bd) ∧ k c fz byte bd = true := by
  obtain ⟨ob, h1, h2⟩ := T.getK_sound _ _ _ hk
  cases ob with
  | cells c fz byte bd => exact ⟨c, fz, byte, bd, h1, h2⟩
  | map es => cases h2
  | gone => cases h2
  | loop _ _ _ => cases h2
theorem s_load1 (o : Oper) (t : TypeId) (x : Operand) (ho : o.op = .load t x) (d : TypeDesc) (hd : P.underlying t = some d) (ha : isAggD d = false) (b i : Nat) (h : Heap) (k : At → Bool) (hk : cellsK h b (fun c _ _ => lgetK c i k) = true) : ∃ a, k a = true ∧ OpS P o [.one (.ptr b i)] h (.one a) h := by
  obtain ⟨c, fz, byte, bd, hg, hk⟩ := cellsK_sound hk
  obtain ⟨a, hc, hk⟩ := lgetK_sound _ _ _ hk
  refine ⟨a, hk, OpS.of_run fun H W0 ρ w ev hv hrel => ?_⟩
  rw [ho] at hv
  obtain ⟨V, hL, h1⟩ := VRels.inv1 hv
  simp [Op.operands] at hL
  subst hL
  have h1 := vinv h1
  generalize hx : ev x = X at h1
  obtain ⟨B, base, S, CS, el, fr, hb, _, hw, _, hcs, _⟩ := hrel.row hg h1.not_un
  cases h1 with
  | ptrd q => rw [hb] at q; cases q
  | ptr q =>
    rw [hb] at q
    injection q with q1 q2
    subst q1; subst q2
    obtain ⟨v, hv, hr⟩ := hcs i a hc
    refine ⟨v, w, ρ, .inl ?_, Ext.refl _ _, hrel, .one hr⟩
    unfold execOp
    rw [ho]
    simp [hx, Instr.loadAt, Instr.sureAddr, loadVar, run_isAgg hd, ha, cell_of B (base + i) hw, hv]
theorem s_loadN (o : Oper) (t : TypeId) (x : Operand) (ho : o.op = .load t x) (d : TypeDesc) (hd : P.underlying t = some d) (ha : isAggD d = true) (inf : TypeInfo) (hi : P.info? t = some inf) (n : Nat) (hn : inf.size = n) (b i : Nat) (h : Heap) (k : List At → Bool) (hk : cellsK h b (fun c _ _ => lsubK c i n k) = true) :
    ∃ l, k l = true ∧ OpS P o [.one (.ptr b i)] h (.agg l) h := by
  obtain ⟨c, fz, byte, bd, hg, hk⟩ := cellsK_sound hk
  obtain ⟨l, hl, hc, hk⟩ := lsubK_sound _ _ _ _ hk
  refine ⟨l, hk, OpS.of_run fun H W0 ρ w ev hv hrel => ?_⟩
  rw [ho] at hv
  obtain ⟨V, hL, h1⟩ := VRels.inv1 hv
  simp [Op.operands] at hL
  subst hL
  have h1 := vinv h1
  generalize hx : ev x = X at h1
  obtain ⟨B, base, S, CS, el, fr, hb, _, hw, _, hcs, _⟩ := hrel.row hg h1.not_un
  cases h1 with
  | ptrd q => rw [hb] at q; cases q
  | ptr q =>
    rw [hb] at q
    injection q with q1 q2
    subst q1; subst q2
    have hcell : ∀ j, j < n → ∃ v a, CS[base + i + j]? = some v ∧ l[j]? = some a ∧ ARel ρ a v := fun j hj => by
      obtain ⟨a, ha⟩ : ∃ a, l[j]? = some a := ⟨l[j]'(by omega), List.getElem?_eq_getElem _⟩
      obtain ⟨v, hv, hr⟩ := hcs (i + j) a ((hc j hj).trans ha)
      exact ⟨v, a, by rw [← hv]; congr 1; omega, ha, hr⟩
    have hrun : (loadCells ⟨B, base + i, none⟩ n).run P w = .ok ((List.range n).map (fun j => (CS[base + i + j]?).getD Go.undef)).toArray w := by
      have := run_loadCells (P := P) (w := w) ⟨B, base + i, none⟩ n (fun j => (CS[base + i + j]?).getD Go.undef) (fun j hj => by
        obtain ⟨v, a, hv, _⟩ := hcell j hj
        rw [addr_add, cell_of B _ hw, hv]; rfl)
      rw [this]
    refine ⟨.agg ((List.range n).map (fun j => (CS[base + i + j]?).getD Go.undef)).toArray, w, ρ, .inl ?_, Ext.refl _ _, hrel, .agg ?_⟩
    · unfold execOp
      rw [ho]
      simp [hx, Instr.loadAt, Instr.sureAddr, loadVar, run_isAgg hd, ha, sizeOf, typeInfo, hi, hn, hrun]
    · refine ARels.of_get (by simp [hl]) (fun j a v h1 h2 => ?_)
      have hj : j < n := by have := (List.getElem?_eq_some_iff.1 h1).1; omega
      obtain ⟨v', a', e1, e2, e3⟩ := hcell j hj
      rw [h1] at e2
      cases e2
      simp only [List.getElem?_map, List.getElem?_range hj, e1, Option.map_some] at h2
      cases h2
      exact e3
noncomputable def storeK (h : Heap) (b i : Nat) (l : List At) (k : Heap → Bool) : Bool :=
  cells4K h b (fun c fz byte bd => gd (Nat.ble fz i) (lputK c i l (fun c' => h.m.setK b (.cells c' fz byte bd) (fun m => k ⟨m, h.next⟩))))
/-- A store of so many cells. -/
theorem storeK_sound {h : Heap} {b i : Nat} {l : List At} {k : Heap → Bool} (hk : storeK h b i l k = true) : ∃ h', k h' = true ∧ h'.next = h.next ∧ ∀ (H : Nat) (W0 : World) (ρ : Ren) (w : World) (X : Value) (L : List Value), Rel H W0 ρ h w → ARel ρ (.ptr b i) X → ARels ρ l L →
    ∃ A w', X = .pointer (some A) ∧ (∀ A', (∃ base B, A' = (⟨B, base, none⟩ : Addr) ∧ A = ⟨B, base, none⟩) → (storeCells A' L).run P w = .ok () w') ∧ (∃ B o, A = (⟨B, o, none⟩ : Addr)) ∧ Ext ρ h ρ h' ∧ Rel H W0 ρ h' w' := by
  obtain ⟨c, fz, byte, bd, hg, hk⟩ := cells4K_sound hk
  obtain ⟨hfz, hk⟩ := gd_eq hk
  obtain ⟨c', hl1, hl2, hc', hk⟩ := lputK_sound _ _ _ _ hk
  obtain ⟨m, hm, hk⟩ := T.setK_sound _ _ _ _ hk
  have hfz : fz ≤ i := by simpa using hfz
  refine ⟨_, hk, rfl, fun H W0 ρ w X L hrel h1 hL => ?_⟩
  obtain ⟨B, base, S, CS, el, fr, hb, _, hw, hS, hcs, hf, hy⟩ := hrel.row hg h1.not_un
  cases h1 with
  | ptrd q => rw [hb] at q; cases q
  | ptr q =>
    rw [hb] at q
    injection q with q1 q2
    subst q1; subst q2
    have hll := hL.length
    have hcell : ∀ j, j < L.length → ∃ v, CS[base + (i + j)]? = some v := fun j hj => by
      obtain ⟨a, ha⟩ : ∃ a, c[i + j]? = some a := ⟨c[i + j]'(by omega), List.getElem?_eq_getElem _⟩
      obtain ⟨v, hv, _⟩ := hcs (i + j) a ha
      exact ⟨v, hv⟩
    have hbound : L.length = 0 ∨ base + i + L.length ≤ CS.size := by
      rcases Nat.eq_zero_or_pos L.length with h0 | h0
      · exact .inl h0
      · obtain ⟨v, hv⟩ := hcell (L.length - 1) (by omega)
        have := (Array.getElem?_eq_some_iff.1 hv).1
        right; omega
    obtain ⟨CS', a1, a2, a3, a4, a5, a6, a7, a8⟩ := heap_setCells B el fr L (base + i) w CS hw
    refine ⟨_, w.setCells B (base + i) L, rfl, ?_, ⟨_, _, rfl⟩, ?_⟩
    · rintro A' ⟨base', B', rfl, e⟩
      cases e
      have := run_storeCells_cells (P := P) B (base + i) L 0 w (fun j hj => by
        obtain ⟨v, hv⟩ := hcell j hj
        rw [cell_of B _ hw, show base + i + 0 + j = base + (i + j) by omega, hv]; rfl) (fun j hj => by
        rw [show base + i + 0 + j = base + (i + j) by omega]
        exact hf (i + j) (by omega) (by omega)) hL.one
      exact this
    · have := hrel.write (h' := ⟨m, h.next⟩) (c' := c') (fz' := fz) hb hg rfl hm a1 (a2.trans hS) (fun j a ha => ?_) (fun j hj hs => by rw [World.frozen?_setCells]; exact hf j hj hs) hy.1 (fun q => hy.2 q) a4 a5 a6 a7 a8
      · exact ⟨this.2, this.1⟩
      · rw [hc' j] at ha
        split at ha
        · rename_i hr
          obtain ⟨v, hv, hrel'⟩ := hL.get _ _ ha
          have hpos : base + i + L.length ≤ CS.size := by
            rcases hbound with h0 | h0
            · omega
            · exact h0
          refine ⟨v, ?_, hrel'⟩
          rw [a3 _ hpos, if_pos (by omega), show base + j - (base + i) = j - i by omega]
          exact hv
        · rename_i hr
          obtain ⟨v, hv, hrel'⟩ := hcs j a ha
          refine ⟨v, ?_, hrel'⟩
          rcases hbound with h0 | h0
          · have : L = [] := List.eq_nil_of_length_eq_zero h0
            subst this
            have := a3 (base + j)
            rw [a3 _ ?_, if_neg (by simp)]
            · exact hv
            · have := hcs j a ha
              have hlen : c.length ≤ c.length := Nat.le_refl _
              have e1 := (Array.getElem?_eq_some_iff.1 hv).1
              simp
              rcases Nat.lt_or_ge i c.length with q | q
              · obtain ⟨v2, hv2, _⟩ := hcs i (c[i]'q) (List.getElem?_eq_getElem _)
                have := (Array.getElem?_eq_some_iff.1 hv2).1
                omega
              · have h3 : i = c.length := by omega
                rcases Nat.eq_zero_or_pos c.length with z | z
                · rw [List.getElem?_eq_none (by omega)] at ha; cases ha
                · obtain ⟨v2, hv2, _⟩ := hcs (c.length - 1) (c[c.length - 1]'(by omega)) (List.getElem?_eq_getElem _)
                  have := (Array.getElem?_eq_some_iff.1 hv2).1
                  omega
          · rw [a3 _ h0, if_neg (by omega)]
            exact hv
theorem s_store (o : Oper) (t : TypeId) (x y : Operand) (ho : o.op = .store t x y) (inf : TypeInfo) (hi : P.info? t = some inf) (b i : Nat) (v : AV) (l : List At) (hl : v.cells = some l) (hn : inf.size = l.length) (h : Heap) (k : Heap → Bool) (hk : storeK h b i l k = true) :
    ∃ h', k h' = true ∧ OpS P o [.one (.ptr b i), v] h (.tup []) h' := by
  obtain ⟨h', hk', _, hs⟩ := storeK_sound (P := P) hk
  refine ⟨h', hk', OpS.of_run fun H W0 ρ w ev hv hrel => ?_⟩
  rw [ho] at hv
  obtain ⟨V, U, hL, h1, h2⟩ := VRels.inv2 hv
  simp [Op.operands] at hL
  obtain ⟨rfl, rfl⟩ := hL
  have hc := h2.cells hl
  obtain ⟨A, w', hX, hr, ⟨B, off, rfl⟩, hx, hR⟩ := hs H W0 ρ w _ _ hrel (vinv h1) hc
  refine ⟨Go.undef, w', ρ, .inr ⟨?_, rfl⟩, hx, hR, VRel.undef _⟩
  have hlen := hc.length
  unfold execOp
  rw [ho]
  simp only [hX, Instr.storeAt, Instr.sureAddr, storeVar, sizeOf, typeInfo, Sem.run_bind, run_program, Result.andThen_ok, hi, Sem.run_pure]
  rw [if_neg (by rw [hn, hlen]; simp)]
  rw [hr _ ⟨_, _, rfl, rfl⟩]
  rfl
end Go.Proofs.YtddbhljljmijcaaGreat.V
