/- The operations' kinds, first part. -/
import Derived.Test.YtddbhljljmijcaaGreatRx
namespace Go.Proofs.YtddbhljljmijcaaGreat.V
open Go.RowKit
set_option linter.unusedVariables false
set_option linter.unusedSimpArgs false
variable {P : Program}

/-! ### Values taken apart -/
noncomputable def v0 (l : List AV) (k : Bool) : Bool := List.rec (motive := fun _ => Bool) k (fun _ _ _ => false) l
theorem v0_sound {l : List AV} {k : Bool} (h : v0 l k = true) : l = [] ∧ k = true := by
  cases l with
  | nil => exact ⟨rfl, h⟩
  | cons _ _ => cases h
noncomputable def vc (l : List AV) (k : AV → List AV → Bool) : Bool := List.rec (motive := fun _ => Bool) false (fun a0 a1 _ => k a0 a1) l
theorem vc_sound {l : List AV} {k : AV → List AV → Bool} (h : vc l k = true) : ∃ v m, l = v :: m ∧ k v m = true := by
  cases l with
  | nil => cases h
  | cons v m => exact ⟨v, m, rfl, h⟩
noncomputable def v1 (l : List AV) (k : AV → Bool) : Bool := vc l (fun v m => v0 m (k v))
theorem v1_sound {l : List AV} {k : AV → Bool} (h : v1 l k = true) : ∃ v, l = [v] ∧ k v = true := by
  obtain ⟨v, m, h1, h2⟩ := vc_sound h
  obtain ⟨h3, h4⟩ := v0_sound h2
  exact ⟨v, by rw [h1, h3], h4⟩
noncomputable def v2 (l : List AV) (k : AV → AV → Bool) : Bool := vc l (fun v m => v1 m (k v))
theorem v2_sound {l : List AV} {k : AV → AV → Bool} (h : v2 l k = true) : ∃ v u, l = [v, u] ∧ k v u = true := by
  obtain ⟨v, m, h1, h2⟩ := vc_sound h
  obtain ⟨u, h3, h4⟩ := v1_sound h2
  exact ⟨v, u, by rw [h1, h3], h4⟩
noncomputable def v3 (l : List AV) (k : AV → AV → AV → Bool) : Bool := vc l (fun v m => v2 m (k v))
theorem v3_sound {l : List AV} {k : AV → AV → AV → Bool} (h : v3 l k = true) : ∃ v u x, l = [v, u, x] ∧ k v u x = true := by
  obtain ⟨v, m, h1, h2⟩ := vc_sound h
  obtain ⟨u, x, h3, h4⟩ := v2_sound h2
  exact ⟨v, u, x, by rw [h1, h3], h4⟩
noncomputable def atK (v : AV) (k : At → Bool) : Bool := AV.rec (motive_1 := fun _ => Bool) (motive_2 := fun _ => Bool) k (fun _ => false) (fun _ _ => false) false (fun _ => false) false (fun _ _ _ _ => false) v
theorem atK_sound {v : AV} {k : At → Bool} (h : atK v k = true) : ∃ a, v = .one a ∧ k a = true := by
  cases v with
  | any => cases h
  | sym _ => cases h
  | one a => exact ⟨a, rfl, h⟩
  | agg _ => cases h
  | tup _ => cases h
noncomputable def tupK (v : AV) (k : List AV → Bool) : Bool := AV.rec (motive_1 := fun _ => Bool) (motive_2 := fun _ => Bool) (fun _ => false) (fun _ => false) (fun a0 _ => k a0) false (fun _ => false) false (fun _ _ _ _ => false) v
theorem tupK_sound {v : AV} {k : List AV → Bool} (h : tupK v k = true) : ∃ l, v = .tup l ∧ k l = true := by
  cases v with
  | any => cases h
  | sym _ => cases h
  | one _ => cases h
  | agg _ => cases h
  | tup l => exact ⟨l, rfl, h⟩
noncomputable def aggK (v : AV) (k : List At → Bool) : Bool := AV.rec (motive_1 := fun _ => Bool) (motive_2 := fun _ => Bool) (fun _ => false) k (fun _ _ => false) false (fun _ => false) false (fun _ _ _ _ => false) v
theorem aggK_sound {v : AV} {k : List At → Bool} (h : aggK v k = true) : ∃ l, v = .agg l ∧ k l = true := by
  cases v with
  | any => cases h
  | sym _ => cases h
  | one _ => cases h
  | agg l => exact ⟨l, rfl, h⟩
  | tup _ => cases h
noncomputable def boolK (v : AV) (k : Bool → Bool) : Bool := atK v (fun a => At.rec (motive_1 := fun _ => Bool) (motive_2 := fun _ => Bool) k (fun _ _ => false) (fun _ => false) false (fun _ _ => false) false false (fun _ _ _ _ _ _ => false) false (fun _ => false) false (fun _ _ _ _ _ => false) false (fun _ _ _ _ => false) a)
theorem boolK_sound {v : AV} {k : Bool → Bool} (h : boolK v k = true) : ∃ b, v = .one (.bool b) ∧ k b = true := by
  obtain ⟨a, rfl, h⟩ := atK_sound h
  cases a <;> first | exact ⟨_, rfl, h⟩ | cases h
noncomputable def intK (v : AV) (k : IntKind → Int → Bool) : Bool := atK v (fun a => At.rec (motive_1 := fun _ => Bool) (motive_2 := fun _ => Bool) (fun _ => false) k (fun _ => false) false (fun _ _ => false) false false (fun _ _ _ _ _ _ => false) false (fun _ => false) false (fun _ _ _ _ _ => false) false (fun _ _ _ _ => false) a)
theorem intK_sound {v : AV} {k : IntKind → Int → Bool} (h : intK v k = true) : ∃ kk i, v = .one (.int kk i) ∧ k kk i = true := by
  obtain ⟨a, rfl, h⟩ := atK_sound h
  cases a <;> first | exact ⟨_, _, rfl, h⟩ | cases h
noncomputable def strK (v : AV) (k : List Nat → Bool) : Bool := atK v (fun a => At.rec (motive_1 := fun _ => Bool) (motive_2 := fun _ => Bool) (fun _ => false) (fun _ _ => false) k false (fun _ _ => false) false false (fun _ _ _ _ _ _ => false) false (fun _ => false) false (fun _ _ _ _ _ => false) false (fun _ _ _ _ => false) a)
theorem strK_sound {v : AV} {k : List Nat → Bool} (h : strK v k = true) : ∃ s, v = .one (.str s) ∧ k s = true := by
  obtain ⟨a, rfl, h⟩ := atK_sound h
  cases a <;> first | exact ⟨_, rfl, h⟩ | cases h

/-! ### Moves and the like -/
noncomputable def xMove : DX := .pure fun vals k => v1 vals k
theorem ok_move {o : Oper} {x : Operand} (ho : o.op = .move x ∨ o.op = .assign x) : DXOk P o xMove := fun vals k hk => by
  obtain ⟨v, rfl, h⟩ := v1_sound hk
  exact ⟨v, h, fun hp => s_move o x ho v hp⟩
noncomputable def xPick : DX := .pure fun vals k => v3 vals (fun c x y => boolK c (fun q => sel q (k x) (k y)))
theorem ok_pick {o : Oper} {c a b : Operand} (ho : o.op = .pick c a b) : DXOk P o xPick := fun vals k hk => by
  obtain ⟨c', x, y, rfl, h1⟩ := v3_sound hk
  obtain ⟨q, rfl, h2⟩ := boolK_sound h1
  rw [sel_eq] at h2
  refine ⟨if q then x else y, by cases q <;> simpa using h2, fun hp => s_pick o c a b ho q x y hp⟩
noncomputable def xExtract (i : Nat) : DX := .pure fun vals k => v1 vals (fun v => tupK v (fun l => lgetK l i k))
theorem ok_extract {o : Oper} {x : Operand} {i : Nat} (ho : o.op = .extract x i) : DXOk P o (xExtract i) := fun vals k hk => by
  obtain ⟨v, rfl, h1⟩ := v1_sound hk
  obtain ⟨l, rfl, h2⟩ := tupK_sound h1
  obtain ⟨u, h3, h4⟩ := lgetK_sound _ _ _ h2
  exact ⟨u, h4, fun hp => s_extract o x i ho l u h3 hp⟩
noncomputable def xNot : DX := .pure fun vals k => v1 vals (fun v => boolK v (fun q => sel q (k (.one (.bool false))) (k (.one (.bool true)))))
theorem ok_not {o : Oper} {t : TypeId} {x : Operand} (ho : o.op = .unOp .not t x) : DXOk P o xNot := fun vals k hk => by
  obtain ⟨v, rfl, h1⟩ := v1_sound hk
  obtain ⟨q, rfl, h2⟩ := boolK_sound h1
  rw [sel_eq] at h2
  refine ⟨.one (.bool !q), by cases q <;> simpa using h2, fun hp => s_not o t x ho q hp⟩
end Go.Proofs.YtddbhljljmijcaaGreat.V
