/- Rows of plain cells: equal or not. -/
import Derived.Test.YtddbhljljmijcaaGreatRm
import Derived.WideKeyRuns
namespace Go.Proofs.YtddbhljljmijcaaGreat.V
open Go.RowKit
set_option linter.unusedVariables false
set_option linter.unusedSimpArgs false
variable {P : Program}

inductive KK where
  | int | str | bool
def KK.ok (P : Program) (t : TypeId) : KK → Prop
  | .int => ∃ k, P.underlying t = some (.int k)
  | .str => P.underlying t = some .string
  | .bool => P.underlying t = some .bool
/-- Two cells of one kind. -/
def Same : KK → At → At → Prop
  | .int, .int k _, .int k' _ => k = k'
  | .str, .str _, .str _ => True
  | .bool, .bool _, .bool _ => True
  | _, _, _ => False
noncomputable def eqAK (kk : KK) (a b : At) (k : Bool → Bool) : Bool :=
  match kk, a, b with
  | .int, .int ka x, .int kb y => gd (Nat.beq (kidx ka) (kidx kb)) (fB (eqI x y) k)
  | .str, .str s, .str s' => fB (leqB s s') k
  | .bool, .bool p, .bool q => sel p (k q) (sel q (k false) (k true))
  | _, _, _ => false
theorem eqAK_sound {kk : KK} {a b : At} {k : Bool → Bool} (h : eqAK kk a b k = true) : ∃ q, k q = true ∧ Same kk a b ∧ (q = true ↔ a = b) := by
  unfold eqAK at h
  split at h
  · rename_i ka x kb y
    obtain ⟨h1, h2⟩ := gd_eq h
    rw [fB_eq, eqI_eq] at h2
    cases kidx_inj h1
    exact ⟨_, h2, rfl, by simp⟩
  · rw [fB_eq, leqB_eq] at h
    exact ⟨_, h, trivial, by simp⟩
  · rename_i p q
    rw [sel_eq, sel_eq] at h
    cases p <;> cases q
    · exact ⟨_, h, trivial, by simp⟩
    · exact ⟨_, h, trivial, by simp⟩
    · exact ⟨_, h, trivial, by simp⟩
    · exact ⟨_, h, trivial, by simp⟩
  · cases h
/-- Values of plain cells. -/
theorem Same.val {kk : KK} {a b : At} (h : Same kk a b) {ρ ρ' : Ren} {A B : Value} (hA : ARel ρ a A) (hB : ARel ρ' b B) : a = b ↔ A = B := by
  cases kk <;> cases a <;> cases b <;> try exact h.elim
  · have h : _ = _ := h
    subst h
    cases hA; cases hB
    simp
  · cases hA with | str hA => ?_
    cases hB with | str hB => ?_
    rename_i bs cs
    subst hA; subst hB
    constructor
    · intro q
      injection q with q
      have := u8_inj _ _ q
      congr 1
      apply ByteArray.ext
      exact Array.ext' this
    · intro q
      injection q with q
      subst q
      rfl
  · cases hA; cases hB
    simp
theorem Same.in_ {kk : KK} {t : TypeId} (hk : kk.ok P t) {a b : At} (h : Same kk a b) {ρ ρ' : Ren} {A B : Value} (hA : ARel ρ a A) (hB : ARel ρ' b B) (w : World) (d : Nat) : ∃ q : Bool, (Op.equalIn (d + 1) t A B).run P w = .ok q w ∧ (q = true ↔ A = B) := by
  cases kk <;> cases a <;> cases b <;> try exact h.elim
  · have h : _ = _ := h
    subst h
    obtain ⟨k', hk⟩ := hk
    cases hA; cases hB
    exact ⟨_, run_equalIn_int w d t _ k' _ _ hk, by simp⟩
  · have hk : P.underlying t = some .string := hk
    cases hA; cases hB
    refine ⟨_, run_equalIn_string w d t _ _ hk, ?_⟩
    rw [toList_beq]
    simp
  · have hk : P.underlying t = some .bool := hk
    cases hA; cases hB
    exact ⟨_, run_equalIn_bool' w d t _ _ hk, by simp⟩
theorem Same.now {kk : KK} {d : TypeDesc} {t : TypeId} (hd : P.underlying t = some d) (hk : kk.ok P t) {a b : At} (h : Same kk a b) {ρ ρ' : Ren} {A B : Value} (hA : ARel ρ a A) (hB : ARel ρ' b B) : ∃ q : Bool, Instr.sameNow d A B = some q ∧ (q = true ↔ A = B) := by
  cases kk <;> cases a <;> cases b <;> try exact h.elim
  · have h : _ = _ := h
    subst h
    obtain ⟨k', hk⟩ := hk
    rw [hk] at hd; cases hd
    cases hA; cases hB
    exact ⟨_, by simp [Instr.sameNow]; rfl, by simp⟩
  · have hk : P.underlying t = some .string := hk
    rw [hk] at hd; cases hd
    cases hA; cases hB
    exact ⟨_, rfl, by simp [MapKept.bytes_beq]⟩
  · have hk : P.underlying t = some .bool := hk
    rw [hk] at hd; cases hd
    cases hA; cases hB
    exact ⟨_, rfl, by simp⟩
theorem Same.bits {kk : KK} {a b : At} (h : Same kk a b) {ρ : Ren} {A : Value} (hA : ARel ρ a A) (n : Nat) : Instr.sameBits n A A = true := by
  cases kk <;> cases a <;> cases b <;> try exact h.elim
  · cases hA; simp [Instr.sameBits]
  · cases hA; simp [Instr.sameBits, MapKept.bytes_beq]
  · cases hA; simp [Instr.sameBits]
/-- Rows of plain cells, one kind after the other. -/
inductive Sames : List KK → List At → List At → Prop
  | nil : Sames [] [] []
  | cons {k a b ks l m} (h : Same k a b) (t : Sames ks l m) : Sames (k :: ks) (a :: l) (b :: m)
noncomputable def eqLK (ks : List KK) : List At → List At → (Bool → Bool) → Bool :=
  List.rec (motive := fun _ => List At → List At → (Bool → Bool) → Bool) (fun l m k => List.rec (motive := fun _ => Bool) (List.rec (motive := fun _ => Bool) (k true) (fun _ _ _ => false) m) (fun _ _ _ => false) l)
    (fun kk _ ih l m k => List.rec (motive := fun _ => Bool) false (fun a l _ => List.rec (motive := fun _ => Bool) false (fun b m _ => eqAK kk a b (fun q => ih l m (fun r => sel q (k r) (k false)))) m) l) ks
theorem eqLK_sound : ∀ (ks : List KK) (l m : List At) (k : Bool → Bool), eqLK ks l m k = true → ∃ q, k q = true ∧ Sames ks l m ∧ (q = true ↔ l = m)
  | [], [], [], k, h => ⟨true, h, .nil, by simp⟩
  | [], [], _ :: _, k, h => by cases h
  | [], _ :: _, _, k, h => by cases h
  | kk :: ks, [], m, k, h => by cases h
  | kk :: ks, a :: l, [], k, h => by cases h
  | kk :: ks, a :: l, b :: m, k, h => by
    obtain ⟨q, h1, h2, h3⟩ := eqAK_sound (k := fun q => eqLK ks l m (fun r => sel q (k r) (k false))) h
    obtain ⟨r, h4, h5, h6⟩ := eqLK_sound ks l m _ h1
    rw [sel_eq] at h4
    refine ⟨if q = true then r else false, by cases q <;> simpa using h4, .cons h2 h5, ?_⟩
    cases q
    · have : a ≠ b := fun q => by have := h3.2 q; cases this
      simp [this]
    · have : a = b := h3.1 rfl
      subst this
      simpa using h6
theorem Sames.val : ∀ {ks : List KK} {l m : List At} {ρ ρ' : Ren} {L M : List Value}, Sames ks l m → ARels ρ l L → ARels ρ' m M → (l = m ↔ L = M)
  | _, _, _, _, _, _, _, .nil, .nil, .nil => by simp
  | _, _, _, _, _, _, _, .cons h t, .cons a l, .cons b m => by
    have h1 := h.val a b
    have h2 := t.val l m
    simp only [List.cons.injEq, h1, h2]
/-- A type whose values are rows of plain cells. -/
def FieldsOk (P : Program) : List Field → Nat → List KK → Prop
  | [], _, [] => True
  | f :: fs, n, k :: ks => f.name ≠ "_" ∧ f.offset = n ∧ k.ok P f.type ∧ FieldsOk P fs (n + 1) ks
  | _, _, _ => False
inductive FlatT (P : Program) (t : TypeId) (ks : List KK) : Prop
  | struct (ht : P.underlying t = some (.struct (P.fieldsOf t))) (hp : P.stoodInHeld t = false) (hf : FieldsOk P (P.fieldsOf t).toList 0 ks)
  | array (n : Nat) (e : TypeId) (i : TypeInfo) (kk : KK) (ht : P.underlying t = some (.array n e)) (hi : P.info? e = some i) (hc : P.cellsOf e = 1) (hk : kk.ok P e) (hn : ks = List.replicate n kk)
theorem KK.run_part {kk : KK} {t : TypeId} (hk : kk.ok P t) {cs : Array Value} {off : Nat} {v : Value} (hv : cs[off]? = some v) (w : World) : (part t cs off).run P w = .ok v w := by
  have : ∀ d, P.underlying t = some d → isAggD d = false → (part t cs off).run P w = .ok v w := fun d hd ha => by
    simp [part, run_isAgg hd, ha, hv]
  cases kk
  · obtain ⟨k, hk⟩ := hk; exact this _ hk rfl
  · exact this _ hk rfl
  · exact this _ hk rfl
theorem eqFields_run {d : Nat} : ∀ {fs : List Field} {n : Nat} {ks : List KK} {l m : List At} {ρ ρ' : Ren} {L M : List Value} {xs ys : Array Value} (w : World), FieldsOk P fs n ks → Sames ks l m → ARels ρ l L → ARels ρ' m M →
    (∀ i, L[i]? = xs[n + i]? ∨ L[i]? = none) → (∀ i, M[i]? = ys[n + i]? ∨ M[i]? = none) → ∃ q : Bool, (Op.eqFields (d + 1) xs ys fs).run P w = .ok q w ∧ (q = true ↔ L = M)
  | [], n, [], _, _, ρ, ρ', _, _, xs, ys, w, _, .nil, .nil, .nil, _, _ => ⟨true, by simp [Op.eqFields], by simp⟩
  | f :: fs, n, k :: ks, _, _, ρ, ρ', _, _, xs, ys, w, hf, .cons h t, .cons (v := A) (L := L) a l, .cons (v := B) (L := M) b m, hx, hy => by
    obtain ⟨h1, h2, h3, h4⟩ := hf
    have hA : xs[f.offset]? = some A := by
      rw [h2]
      rcases hx 0 with q | q
      · simpa using q.symm
      · simp at q
    have hB : ys[f.offset]? = some B := by
      rw [h2]
      rcases hy 0 with q | q
      · simpa using q.symm
      · simp at q
    obtain ⟨q, hq, hqe⟩ := h.in_ h3 a b w d
    obtain ⟨r, hr, hre⟩ := eqFields_run (d := d) (xs := xs) (ys := ys) w h4 t l m (fun i => by
      have := hx (i + 1)
      rw [show n + 1 + i = n + (i + 1) by omega]
      simpa using this) (fun i => by
      have := hy (i + 1)
      rw [show n + 1 + i = n + (i + 1) by omega]
      simpa using this)
    refine ⟨if q = true then r else false, ?_, ?_⟩
    · simp only [Op.eqFields, h1, ne_eq, not_false_eq_true, if_true, Sem.run_bind, KK.run_part h3 hA w, KK.run_part h3 hB w, Result.andThen_ok, hq]
      cases q
      · simp
      · simpa using hr
    · cases q
      · have : A ≠ B := fun e => by have := hqe.2 e; cases this
        simp [this]
      · have : A = B := hqe.1 rfl
        subst this
        simpa using hre
  | f :: fs, n, [], _, _, _, _, _, _, _, _, _, hf, _, _, _, _, _ => hf.elim
  | [], n, _ :: _, _, _, _, _, _, _, _, _, _, hf, _, _, _, _, _ => hf.elim
theorem eqItems_run {d : Nat} {e : TypeId} {kk : KK} (hk : kk.ok P e) {xs ys : Array Value} : ∀ {c n : Nat} {l m : List At} {ρ ρ' : Ren} {L M : List Value} (w : World), Sames (List.replicate c kk) l m → ARels ρ l L → ARels ρ' m M →
    (∀ i, L[i]? = xs[n + i]? ∨ L[i]? = none) → (∀ i, M[i]? = ys[n + i]? ∨ M[i]? = none) → ∃ q : Bool, (Op.eqItems (d + 1) e 1 xs ys (List.range' n c)).run P w = .ok q w ∧ (q = true ↔ L = M)
  | 0, n, _, _, ρ, ρ', _, _, w, .nil, .nil, .nil, _, _ => ⟨true, by simp [Op.eqItems], by simp⟩
  | c + 1, n, _, _, ρ, ρ', _, _, w, .cons h t, .cons (v := A) (L := L) a l, .cons (v := B) (L := M) b m, hx, hy => by
    have hA : xs[n * 1]? = some A := by
      rcases hx 0 with q | q
      · simpa using q.symm
      · simp at q
    have hB : ys[n * 1]? = some B := by
      rcases hy 0 with q | q
      · simpa using q.symm
      · simp at q
    obtain ⟨q, hq, hqe⟩ := h.in_ hk a b w d
    obtain ⟨r, hr, hre⟩ := eqItems_run (d := d) hk (n := n + 1) w t l m (fun i => by
      have := hx (i + 1)
      rw [show n + 1 + i = n + (i + 1) by omega]
      simpa using this) (fun i => by
      have := hy (i + 1)
      rw [show n + 1 + i = n + (i + 1) by omega]
      simpa using this)
    refine ⟨if q = true then r else false, ?_, ?_⟩
    · simp only [List.range'_succ, Op.eqItems, Sem.run_bind, KK.run_part hk hA w, KK.run_part hk hB w, Result.andThen_ok, hq]
      cases q
      · simp
      · simpa using hr
    · cases q
      · have : A ≠ B := fun e => by have := hqe.2 e; cases this
        simp [this]
      · have : A = B := hqe.1 rfl
        subst this
        simpa using hre
theorem FlatT.eq {t : TypeId} {ks : List KK} (hf : FlatT P t ks) {l m : List At} (hs : Sames ks l m) {ρ ρ' : Ren} {xs ys : Array Value} (hA : ARels ρ l xs.toList) (hB : ARels ρ' m ys.toList) (w : World) : ∃ q : Bool, (Op.equal t (.agg xs) (.agg ys)).run P w = .ok q w ∧ (q = true ↔ l = m) := by
  have fin : ∀ {q : Bool}, (q = true ↔ xs.toList = ys.toList) → (q = true ↔ l = m) := fun h => h.trans (hs.val hA hB).symm
  cases hf with
  | struct ht hp hf =>
    obtain ⟨q, h1, h2⟩ := eqFields_run (P := P) (d := 9998) (xs := xs) (ys := ys) w hf hs hA hB (fun i => .inl (by simp)) (fun i => .inl (by simp))
    refine ⟨q, ?_, fin h2⟩
    rw [equal_run, run_equalIn_struct w _ t xs ys ht hp]
    exact h1
  | array n e i kk ht hi hc hk hn =>
    subst hn
    obtain ⟨q, h1, h2⟩ := eqItems_run (P := P) (d := 9998) (xs := xs) (ys := ys) hk (n := 0) w hs hA hB (fun i => .inl (by simp)) (fun i => .inl (by simp))
    refine ⟨q, ?_, fin h2⟩
    rw [equal_run, run_equalIn_array w _ xs ys ht hi, hc, List.range_eq_range']
    exact h1
end Go.Proofs.YtddbhljljmijcaaGreat.V
