/- Abstract values and heaps, and what it means that a world of the model stands behind them. -/
import Derived.Below
import Derived.WalkKit
import Derived.Orders
import Derived.Test.YtddbhljljmijcaaGreatProg
import Derived.OrdersIn
import Derived.LoopNIn
import Derived.RangeFuncCalls
import Derived.RangeFuncLeaves
namespace Go.Proofs.YtddbhljljmijcaaGreat.V
open Go.RowKit

/-! A tree that keeps a thing at each number. -/
inductive T (α : Type) where
  | leaf
  | node (l : T α) (v : Option α) (r : T α)
section
variable {α : Type}
def T.get : T α → Nat → Option α
  | .leaf, _ => none
  | .node _ v _, 0 => v
  | .node l _ r, m + 1 => if m % 2 = 0 then r.get (m / 2) else l.get (m / 2)
noncomputable def T.getK (t : T α) : Nat → (α → Bool) → Bool :=
  T.rec (motive := fun _ => Nat → (α → Bool) → Bool) (fun _ _ => false)
    (fun _ v _ gl gr n k => Nat.rec (motive := fun _ => Bool) (Option.rec (motive := fun _ => Bool) false k v) (fun m _ => Bool.rec (motive := fun _ => Bool) (gl (Nat.div m 2) k) (gr (Nat.div m 2) k) (Nat.beq (Nat.mod m 2) 0)) n) t
theorem T.getK_sound : ∀ (t : T α) (n : Nat) (k : α → Bool), t.getK n k = true → ∃ x, t.get n = some x ∧ k x = true
  | .leaf, _, _, h => by cases h
  | .node l v r, 0, k, h => by
    cases v with
    | none => cases h
    | some x => exact ⟨x, rfl, h⟩
  | .node l v r, m + 1, k, h => by
    simp only [T.get]
    have h : (Bool.rec (motive := fun _ => Bool) (l.getK (m / 2) k) (r.getK (m / 2) k) (Nat.beq (m % 2) 0)) = true := h
    by_cases hm : m % 2 = 0
    · have hb : Nat.beq (m % 2) 0 = true := by rw [hm]; rfl
      rw [hb] at h
      rw [if_pos hm]
      exact T.getK_sound r _ k h
    · have hb : Nat.beq (m % 2) 0 = false := by
        cases hh : Nat.beq (m % 2) 0 with
        | false => rfl
        | true => exact absurd (Nat.eq_of_beq_eq_true hh) hm
      rw [hb] at h
      rw [if_neg hm]
      exact T.getK_sound l _ k h
noncomputable def T.oneK (fuel : Nat) : Nat → α → (T α → Bool) → Bool :=
  Nat.rec (motive := fun _ => Nat → α → (T α → Bool) → Bool) (fun _ _ _ => false)
    (fun _ ih n x k => Nat.rec (motive := fun _ => Bool) (k (.node .leaf (some x) .leaf)) (fun m _ => Bool.rec (motive := fun _ => Bool) (ih (Nat.div m 2) x (fun l => k (.node l none .leaf))) (ih (Nat.div m 2) x (fun r => k (.node .leaf none r))) (Nat.beq (Nat.mod m 2) 0)) n) fuel
noncomputable def T.setK (t : T α) : Nat → α → (T α → Bool) → Bool :=
  T.rec (motive := fun _ => Nat → α → (T α → Bool) → Bool) (fun n x k => T.oneK 64 n x k)
    (fun l v r sl sr n x k => Nat.rec (motive := fun _ => Bool) (k (.node l (some x) r)) (fun m _ => Bool.rec (motive := fun _ => Bool) (sl (Nat.div m 2) x (fun l' => k (.node l' v r))) (sr (Nat.div m 2) x (fun r' => k (.node l v r'))) (Nat.beq (Nat.mod m 2) 0)) n) t
theorem half_ne {m j : Nat} (h : m ≠ j) (e : m % 2 = j % 2) : m / 2 ≠ j / 2 := by omega
theorem T.oneK_sound : ∀ (f n : Nat) (x : α) (k : T α → Bool), T.oneK f n x k = true → ∃ t : T α, (∀ j, t.get j = if n = j then some x else none) ∧ k t = true
  | 0, _, _, _, h => by cases h
  | f + 1, 0, x, k, h => by
    refine ⟨_, fun j => ?_, h⟩
    cases j with
    | zero => rfl
    | succ j => simp [T.get]
  | f + 1, m + 1, x, k, h => by
    have h : (Bool.rec (motive := fun _ => Bool) (T.oneK f (m / 2) x (fun l => k (.node l none .leaf))) (T.oneK f (m / 2) x (fun r => k (.node .leaf none r))) (Nat.beq (m % 2) 0)) = true := h
    by_cases hm : m % 2 = 0
    · have hb : Nat.beq (m % 2) 0 = true := by rw [hm]; rfl
      rw [hb] at h
      obtain ⟨t, ht, hk⟩ := T.oneK_sound f _ x _ h
      refine ⟨_, fun j => ?_, hk⟩
      cases j with
      | zero => simp [T.get]
      | succ j =>
        simp only [T.get]
        by_cases hj : j % 2 = 0
        · rw [if_pos hj, ht]
          by_cases e : m = j
          · subst e; simp
          · rw [if_neg (half_ne e (by omega)), if_neg (by omega)]
        · rw [if_neg hj, if_neg (by omega)]
    · have hb : Nat.beq (m % 2) 0 = false := by
        cases hh : Nat.beq (m % 2) 0 with
        | false => rfl
        | true => exact absurd (Nat.eq_of_beq_eq_true hh) hm
      rw [hb] at h
      obtain ⟨t, ht, hk⟩ := T.oneK_sound f _ x _ h
      refine ⟨_, fun j => ?_, hk⟩
      cases j with
      | zero => simp [T.get]
      | succ j =>
        simp only [T.get]
        by_cases hj : j % 2 = 0
        · rw [if_pos hj, if_neg (by omega)]
        · rw [if_neg hj, ht]
          by_cases e : m = j
          · subst e; simp
          · rw [if_neg (half_ne e (by omega)), if_neg (by omega)]
theorem T.setK_sound : ∀ (t : T α) (n : Nat) (x : α) (k : T α → Bool), t.setK n x k = true → ∃ t' : T α, (∀ j, t'.get j = if n = j then some x else t.get j) ∧ k t' = true
  | .leaf, n, x, k, h => by
    obtain ⟨t, ht, hk⟩ := T.oneK_sound 64 n x k h
    exact ⟨t, fun j => by rw [ht]; rfl, hk⟩
  | .node l v r, 0, x, k, h => by
    refine ⟨_, fun j => ?_, h⟩
    cases j with
    | zero => rfl
    | succ j => simp [T.get]
  | .node l v r, m + 1, x, k, h => by
    have h : (Bool.rec (motive := fun _ => Bool) (l.setK (m / 2) x (fun l' => k (.node l' v r))) (r.setK (m / 2) x (fun r' => k (.node l v r'))) (Nat.beq (m % 2) 0)) = true := h
    by_cases hm : m % 2 = 0
    · have hb : Nat.beq (m % 2) 0 = true := by rw [hm]; rfl
      rw [hb] at h
      obtain ⟨t, ht, hk⟩ := T.setK_sound r _ x _ h
      refine ⟨_, fun j => ?_, hk⟩
      cases j with
      | zero => simp [T.get]
      | succ j =>
        simp only [T.get]
        by_cases hj : j % 2 = 0
        · rw [if_pos hj, if_pos hj, ht]
          by_cases e : m = j
          · subst e; simp
          · rw [if_neg (half_ne e (by omega)), if_neg (by omega)]
        · rw [if_neg hj, if_neg hj, if_neg (by omega)]
    · have hb : Nat.beq (m % 2) 0 = false := by
        cases hh : Nat.beq (m % 2) 0 with
        | false => rfl
        | true => exact absurd (Nat.eq_of_beq_eq_true hh) hm
      rw [hb] at h
      obtain ⟨t, ht, hk⟩ := T.setK_sound l _ x _ h
      refine ⟨_, fun j => ?_, hk⟩
      cases j with
      | zero => simp [T.get]
      | succ j =>
        simp only [T.get]
        by_cases hj : j % 2 = 0
        · rw [if_pos hj, if_pos hj, if_neg (by omega)]
        · rw [if_neg hj, if_neg hj, ht]
          by_cases e : m = j
          · subst e; simp
          · rw [if_neg (half_ne e (by omega)), if_neg (by omega)]
end

end Go.Proofs.YtddbhljljmijcaaGreat.V
