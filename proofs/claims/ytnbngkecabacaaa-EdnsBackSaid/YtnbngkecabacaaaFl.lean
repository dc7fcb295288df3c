/- The contracts of package flag's functions, each at every whole number; no condition. -/
import Derived.Test.YtnbngkecabacaaaProg
import Derived.WalkKit
import Derived.Below
import Derived.KernelRfl
import Derived.Outline
import Derived.Laws.Tables
import Derived.Laws.Rows
import Derived.Deep.RegionHeld3
import Derived.Test.YtnbngkecabacaaaFb
namespace Go.Proofs.Ytnbngkecabacaaa
open Go.RowKit
open Go.Proofs.Ytnbngkecabacaaa.Fb
set_option linter.unusedVariables false

namespace Fl
theorem step (a b c : World) (h : Below a.heap.size a b) (k : Below b.heap.size b c) : Below a.heap.size a c := h.trans (k.mono h.size)
theorem below_setRow {B : Nat} {a w : World} (h : Below B a w) {g : Nat} (hg : B ≤ g) (cs : Array Value) : Below B a (w.setRow g cs) :=
  ⟨h.os, h.tape, h.output, by simpa [World.setRow] using h.size, fun k hk => (setRow_other w g k _ (by omega)).trans (h.block k hk)⟩

def mayB (f b : Int) : Bool := decide (0 ≤ b ∧ b ≤ 65535 ∧ 0 ≤ f ∧ f < 9)

theorem may_any (f b : Int) (w : World) : Calls Try.prog 29 #[.int .i64 f, .int .i64 b] w fun e w' => e = .returned (.bool (mayB f b)) ∧ w = w' := by
  by_cases c1 : 0 ≤ b
  · have d1 : decide (0 ≤ b) = true := by simpa using c1
    by_cases c2 : b ≤ 65535
    · have d2 : decide (b ≤ 65535) = true := by simpa using c2
      by_cases c3 : 0 ≤ f
      · have d3 : decide (0 ≤ f) = true := by simpa using c3
        have d4 : mayB f b = decide (f < 9) := by unfold mayB; simp [c1, c2, c3]
        rw [d4]; clear d4 c1 c2 c3
        go_enter Try.func29, Try.ntmps29
        go_wp2
        go_ret
        exact ⟨rfl, rfl⟩
      · have d3 : decide (0 ≤ f) = false := by simpa using c3
        have d4 : mayB f b = false := by unfold mayB; simp; omega
        rw [d4]; clear d4 c1 c2 c3
        go_enter Try.func29, Try.ntmps29
        go_wp2
        go_ret
        exact ⟨rfl, rfl⟩
    · have d2 : decide (b ≤ 65535) = false := by simpa using c2
      have d4 : mayB f b = false := by unfold mayB; simp; omega
      rw [d4]; clear d4 c1 c2
      go_enter Try.func29, Try.ntmps29
      go_wp2
      go_ret
      exact ⟨rfl, rfl⟩
  · have d1 : decide (0 ≤ b) = false := by simpa using c1
    have d4 : mayB f b = false := by unfold mayB; simp; omega
    rw [d4]; clear d4 c1
    go_enter Try.func29, Try.ntmps29
    go_wp2
    go_ret
    exact ⟨rfl, rfl⟩

def tab : Array Value := #[.int .i64 15, .int .i64 1, .int .i64 11, .int .i64 4, .int .i64 10, .int .i64 1, .int .i64 9, .int .i64 1, .int .i64 8, .int .i64 1, .int .i64 7, .int .i64 1, .int .i64 5, .int .i64 1, .int .i64 4, .int .i64 1, .int .i64 0, .int .i64 4]
def zer : Array Value := #[.int .i64 0, .int .i64 0, .int .i64 0, .int .i64 0, .int .i64 0, .int .i64 0, .int .i64 0, .int .i64 0, .int .i64 0, .int .i64 0, .int .i64 0, .int .i64 0, .int .i64 0, .int .i64 0, .int .i64 0, .int .i64 0, .int .i64 0, .int .i64 0]
theorem places_any (w : World) : Calls Try.prog 30 #[] w fun e w' => e = .returned (.agg tab) ∧ Below w.heap.size w w' := by
  have hb : ∀ w : World, (Instr.build 66 #[(0, .agg #[.int .i64 15, .int .i64 1]), (1, .agg #[.int .i64 11, .int .i64 4]), (2, .agg #[.int .i64 10, .int .i64 1]), (3, .agg #[.int .i64 9, .int .i64 1]), (4, .agg #[.int .i64 8, .int .i64 1]), (5, .agg #[.int .i64 7, .int .i64 1]), (6, .agg #[.int .i64 5, .int .i64 1]), (7, .agg #[.int .i64 4, .int .i64 1]), (8, .agg #[.int .i64 0, .int .i64 4])]).run Try.prog w = .ok (.agg tab) w := fun w => by kernel_rfl
  go_enter Try.func30, Try.ntmps30
  go_wp2_with (refine wpList_store_row rfl 66 _ _ rfl w.heap.size tab rfl rfl 66 zer (heap_alloc_new w _) (by kernel_rfl) (by kernel_rfl) (by kernel_rfl) ?_)
  exact bodyPost_ret (v := .agg tab) (results_cell_row rfl _ _ w.heap.size 66 tab (0, 0) _ rfl (setRow_heap _ _ zer _ _ _ (heap_alloc_new w _)) Try.underlying66 rfl (by kernel_rfl)) rfl ⟨rfl, below_setRow ((Below.refl _ _).alloc (Nat.le_refl _) _) (Nat.le_refl _) _⟩

theorem mask1 (l : Int) (w : World) : Calls Try.prog 31 #[.agg #[.int .i64 l, .int .i64 1]] w fun e w' => e = .returned (.int .i64 1) ∧ Below w.heap.size w w' := by
  go_enter Try.func31, Try.ntmps31
  go_wp2
  go_ret
  exact ⟨rfl, (Below.refl _ _).alloc (Nat.le_refl _) _⟩
theorem mask4 (l : Int) (w : World) : Calls Try.prog 31 #[.agg #[.int .i64 l, .int .i64 4]] w fun e w' => e = .returned (.int .i64 15) ∧ Below w.heap.size w w' := by
  go_enter Try.func31, Try.ntmps31
  go_wp2
  go_ret
  exact ⟨rfl, (Below.refl _ _).alloc (Nat.le_refl _) _⟩

/-- What a region's worlds have in common: the place's two cells, and all that lay in w1. -/
abbrev Two (w1 : World) (l m : Int) (w' : World) : Prop := w'.cell? ⟨w1.heap.size, 0, none⟩ = some (.int .i64 l) ∧ w'.cell? ⟨w1.heap.size, 1, none⟩ = some (.int .i64 m) ∧ Below w1.heap.size w1 w' ∧ w1.heap.size < w'.heap.size
theorem two_next {w1 w' w'' : World} {l m : Int} (h : Two w1 l m w') (b : Below w'.heap.size w' w'') : Two w1 l m w'' :=
  ⟨(b.cell (p := ⟨w1.heap.size, 0, none⟩) h.2.2.2).trans h.1, (b.cell (p := ⟨w1.heap.size, 1, none⟩) h.2.2.2).trans h.2.1, h.2.2.1.trans (b.mono h.2.2.1.size), Nat.lt_of_lt_of_le h.2.2.2 b.size⟩
theorem mask1T {l : Int} {w1 w' : World} (h : Two w1 l 1 w') : Calls Try.prog 31 #[.agg #[.int .i64 l, .int .i64 1]] w' fun e w'' => e = .returned (.int .i64 1) ∧ Two w1 l 1 w'' :=
  (mask1 l w').mono fun _ _ ⟨he, hb⟩ => ⟨he, two_next h hb⟩
theorem mask4T {l : Int} {w1 w' : World} (h : Two w1 l 4 w') : Calls Try.prog 31 #[.agg #[.int .i64 l, .int .i64 4]] w' fun e w'' => e = .returned (.int .i64 15) ∧ Two w1 l 4 w'' :=
  (mask4 l w').mono fun _ _ ⟨he, hb⟩ => ⟨he, two_next h hb⟩

theorem of_8 (b : Int) (h0 : 0 ≤ b) (h1 : b ≤ 65535) (w : World) : Calls Try.prog 25 #[.int .i64 8, .int .i64 b] w fun e w' => e = .returned (.int .i64 (b / 1 % 16)) ∧ Below w.heap.size w w' := by
  have m := may_any 8 b
  have i0 : ∀ w : World, (Instr.index 66 (.agg tab) (.int .i64 8)).run Try.prog w = .ok (.agg #[.int .i64 0, .int .i64 4]) w := fun w => by kernel_rfl
  have e : mayB 8 b = true := by unfold mayB; simp; omega
  rw [e] at m; clear e
  have r := of8 b h0 h1
  generalize hx : b / 1 % 16 = x at r ⊢
  clear hx
  go_enter Try.func25, Try.ntmps25
  go_wp2_with fail
  refine (m _).mono ?_
  rintro e w' ⟨rfl, rfl⟩
  go_wp2_with fail
  refine (places_any _).mono ?_
  rintro e w1 ⟨rfl, hb1⟩
  go_wp2_with fail
  go_region_held3 (fun w' => w'.cell? ⟨w1.heap.size, 0, none⟩ = some (.int .i64 0) ∧ w'.cell? ⟨w1.heap.size, 1, none⟩ = some (.int .i64 4) ∧ Below w1.heap.size w1 w' ∧ w1.heap.size < w'.heap.size)
    (first | assumption | exact ⟨by simp, by simp, ((Below.refl _ _).alloc (Nat.le_refl _) _).drew, by simp⟩)
    (first
      | (go_at_call 31; refine (mask4T (w1 := w1) ?hs).mono ?_; (case hs => assumption); rintro e w' ⟨rfl, h1⟩))
  go_wp2
  go_ret
  rename_i hh
  exact ⟨by first | rfl | exact congrArg (fun n => Ending.returned (.int .i64 n)) (by simpa using r), step _ _ _ hb1 hh.2.2.1⟩


def rcOf (b : Int) : Int := if 0 ≤ b ∧ b ≤ 65535 then b % 16 else 0
theorem of8_any (b : Int) (w : World) : Calls Try.prog 25 #[.int .i64 8, .int .i64 b] w fun e w' => e = .returned (.int .i64 (rcOf b)) ∧ Below w.heap.size w w' := by
  by_cases h : 0 ≤ b ∧ b ≤ 65535
  · unfold rcOf; rw [if_pos h]
    have := of_8 b h.1 h.2 w
    simpa using this
  · have m := may_any 8 b
    have e : mayB 8 b = false := by unfold mayB; simp; omega
    have e2 : rcOf b = 0 := by unfold rcOf; rw [if_neg h]
    rw [e] at m; rw [e2]; clear e e2 h
    go_enter Try.func25, Try.ntmps25
    go_wp2_with fail
    refine (m _).mono ?_
    rintro e w' ⟨rfl, rfl⟩
    go_wp2_with fail
    go_ret
    exact ⟨rfl, Below.refl _ _⟩
end Fl
end Go.Proofs.Ytnbngkecabacaaa
