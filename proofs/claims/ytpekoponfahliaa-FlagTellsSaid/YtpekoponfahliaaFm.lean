/- The contracts of package flag's Of, With, lay and Answer, each at every whole number; no condition but that a code is an int. -/
import Derived.Test.YtpekoponfahliaaProg
import Derived.WalkKit
import Derived.Below
import Derived.KernelRfl
import Derived.Outline
import Derived.Laws.Tables
import Derived.Laws.Rows
import Derived.Deep.RegionHeld3
import Derived.Test.YtpekoponfahliaaFl
import Derived.LoopTactic
import Derived.LoopN
namespace Go.Proofs.Ytpekoponfahliaa
open Go.RowKit
open Go.Proofs.Ytpekoponfahliaa.Fb Go.Proofs.Ytpekoponfahliaa.Fl
set_option linter.unusedVariables false

namespace Fm
theorem of_any (f b : Int) (w : World) : Calls Try.prog 10 #[.int .i64 f, .int .i64 b] w fun e w' => e = .returned (.int .i64 (ofF f b)) ∧ Below w.heap.size w w' := by
  by_cases h : 0 ≤ b ∧ b ≤ 65535 ∧ 0 ≤ f ∧ f < 9
  · obtain ⟨h0, h1, h2, h3⟩ := h
    have hf : f = 0 ∨ f = 1 ∨ f = 2 ∨ f = 3 ∨ f = 4 ∨ f = 5 ∨ f = 6 ∨ f = 7 ∨ f = 8 := by omega
    have hm : mayB f b = true := by unfold mayB; simp; omega
    unfold ofF
    rw [if_pos hm]
    clear hm
    rcases hf with rfl | rfl | rfl | rfl | rfl | rfl | rfl | rfl | rfl
    · exact of_0 b h0 h1 w
    · exact of_1 b h0 h1 w
    · exact of_2 b h0 h1 w
    · exact of_3 b h0 h1 w
    · exact of_4 b h0 h1 w
    · exact of_5 b h0 h1 w
    · exact of_6 b h0 h1 w
    · exact of_7 b h0 h1 w
    · exact of_8 b h0 h1 w
  · have m := may_any f b
    have e : mayB f b = false := by unfold mayB; simp; omega
    have e2 : ofF f b = 0 := by unfold ofF; rw [e]; rfl
    rw [e] at m; rw [e2]; clear e e2 h
    go_enter Try.func10, Try.ntmps10
    go_wp2_with fail
    refine (m _).mono ?_
    rintro e w' ⟨rfl, rfl⟩
    go_wp2_with fail
    go_ret
    exact ⟨rfl, Below.refl _ _⟩

theorem with_no (f b v : Int) (h : okB f b v = false) (w : World) : Calls Try.prog 8 #[.int .i64 f, .int .i64 b, .int .i64 v] w fun e w' => e = .returned (.tuple #[.int .i64 0, .bool false]) ∧ Below w.heap.size w w' := by
  have m := may_any f b
  by_cases hm : mayB f b = true
  · have hv : v < 0 ∨ wid f ≤ v := by
      unfold okB at h; rw [hm] at h; simp at h; omega
    rw [hm] at m
    have hf : f = 0 ∨ f = 1 ∨ f = 2 ∨ f = 3 ∨ f = 4 ∨ f = 5 ∨ f = 6 ∨ f = 7 ∨ f = 8 := by unfold mayB at hm; simp at hm; omega
    clear hm h
    by_cases hv0 : v < 0
    · have c1 : decide (v < 0) = true := by simpa using hv0
      clear hv hv0
      rcases hf with rfl | rfl | rfl | rfl | rfl | rfl | rfl | rfl | rfl
      · have i0 : ∀ w : World, (Instr.index 36 (.agg tab) (.int .i64 0)).run Try.prog w = .ok (.agg #[.int .i64 15, .int .i64 1]) w := fun w => by kernel_rfl
        go_enter Try.func8, Try.ntmps8
        go_wp2_with fail
        refine (m _).mono ?_
        rintro e w' ⟨rfl, rfl⟩
        go_wp2_with fail
        refine (places_any _).mono ?_
        rintro e w1 ⟨rfl, hb1⟩
        go_wp2_with fail
        go_ret2
        exact ⟨rfl, hb1.trans (((Below.refl _ _).alloc (Nat.le_refl _) _).mono hb1.size)⟩
      · have i0 : ∀ w : World, (Instr.index 36 (.agg tab) (.int .i64 1)).run Try.prog w = .ok (.agg #[.int .i64 11, .int .i64 4]) w := fun w => by kernel_rfl
        go_enter Try.func8, Try.ntmps8
        go_wp2_with fail
        refine (m _).mono ?_
        rintro e w' ⟨rfl, rfl⟩
        go_wp2_with fail
        refine (places_any _).mono ?_
        rintro e w1 ⟨rfl, hb1⟩
        go_wp2_with fail
        go_ret2
        exact ⟨rfl, hb1.trans (((Below.refl _ _).alloc (Nat.le_refl _) _).mono hb1.size)⟩
      · have i0 : ∀ w : World, (Instr.index 36 (.agg tab) (.int .i64 2)).run Try.prog w = .ok (.agg #[.int .i64 10, .int .i64 1]) w := fun w => by kernel_rfl
        go_enter Try.func8, Try.ntmps8
        go_wp2_with fail
        refine (m _).mono ?_
        rintro e w' ⟨rfl, rfl⟩
        go_wp2_with fail
        refine (places_any _).mono ?_
        rintro e w1 ⟨rfl, hb1⟩
        go_wp2_with fail
        go_ret2
        exact ⟨rfl, hb1.trans (((Below.refl _ _).alloc (Nat.le_refl _) _).mono hb1.size)⟩
      · have i0 : ∀ w : World, (Instr.index 36 (.agg tab) (.int .i64 3)).run Try.prog w = .ok (.agg #[.int .i64 9, .int .i64 1]) w := fun w => by kernel_rfl
        go_enter Try.func8, Try.ntmps8
        go_wp2_with fail
        refine (m _).mono ?_
        rintro e w' ⟨rfl, rfl⟩
        go_wp2_with fail
        refine (places_any _).mono ?_
        rintro e w1 ⟨rfl, hb1⟩
        go_wp2_with fail
        go_ret2
        exact ⟨rfl, hb1.trans (((Below.refl _ _).alloc (Nat.le_refl _) _).mono hb1.size)⟩
      · have i0 : ∀ w : World, (Instr.index 36 (.agg tab) (.int .i64 4)).run Try.prog w = .ok (.agg #[.int .i64 8, .int .i64 1]) w := fun w => by kernel_rfl
        go_enter Try.func8, Try.ntmps8
        go_wp2_with fail
        refine (m _).mono ?_
        rintro e w' ⟨rfl, rfl⟩
        go_wp2_with fail
        refine (places_any _).mono ?_
        rintro e w1 ⟨rfl, hb1⟩
        go_wp2_with fail
        go_ret2
        exact ⟨rfl, hb1.trans (((Below.refl _ _).alloc (Nat.le_refl _) _).mono hb1.size)⟩
      · have i0 : ∀ w : World, (Instr.index 36 (.agg tab) (.int .i64 5)).run Try.prog w = .ok (.agg #[.int .i64 7, .int .i64 1]) w := fun w => by kernel_rfl
        go_enter Try.func8, Try.ntmps8
        go_wp2_with fail
        refine (m _).mono ?_
        rintro e w' ⟨rfl, rfl⟩
        go_wp2_with fail
        refine (places_any _).mono ?_
        rintro e w1 ⟨rfl, hb1⟩
        go_wp2_with fail
        go_ret2
        exact ⟨rfl, hb1.trans (((Below.refl _ _).alloc (Nat.le_refl _) _).mono hb1.size)⟩
      · have i0 : ∀ w : World, (Instr.index 36 (.agg tab) (.int .i64 6)).run Try.prog w = .ok (.agg #[.int .i64 5, .int .i64 1]) w := fun w => by kernel_rfl
        go_enter Try.func8, Try.ntmps8
        go_wp2_with fail
        refine (m _).mono ?_
        rintro e w' ⟨rfl, rfl⟩
        go_wp2_with fail
        refine (places_any _).mono ?_
        rintro e w1 ⟨rfl, hb1⟩
        go_wp2_with fail
        go_ret2
        exact ⟨rfl, hb1.trans (((Below.refl _ _).alloc (Nat.le_refl _) _).mono hb1.size)⟩
      · have i0 : ∀ w : World, (Instr.index 36 (.agg tab) (.int .i64 7)).run Try.prog w = .ok (.agg #[.int .i64 4, .int .i64 1]) w := fun w => by kernel_rfl
        go_enter Try.func8, Try.ntmps8
        go_wp2_with fail
        refine (m _).mono ?_
        rintro e w' ⟨rfl, rfl⟩
        go_wp2_with fail
        refine (places_any _).mono ?_
        rintro e w1 ⟨rfl, hb1⟩
        go_wp2_with fail
        go_ret2
        exact ⟨rfl, hb1.trans (((Below.refl _ _).alloc (Nat.le_refl _) _).mono hb1.size)⟩
      · have i0 : ∀ w : World, (Instr.index 36 (.agg tab) (.int .i64 8)).run Try.prog w = .ok (.agg #[.int .i64 0, .int .i64 4]) w := fun w => by kernel_rfl
        go_enter Try.func8, Try.ntmps8
        go_wp2_with fail
        refine (m _).mono ?_
        rintro e w' ⟨rfl, rfl⟩
        go_wp2_with fail
        refine (places_any _).mono ?_
        rintro e w1 ⟨rfl, hb1⟩
        go_wp2_with fail
        go_ret2
        exact ⟨rfl, hb1.trans (((Below.refl _ _).alloc (Nat.le_refl _) _).mono hb1.size)⟩
    · have c1 : decide (v < 0) = false := by simpa using hv0
      have hw : wid f ≤ v := by omega
      clear hv hv0
      rcases hf with rfl | rfl | rfl | rfl | rfl | rfl | rfl | rfl | rfl
      · have i0 : ∀ w : World, (Instr.index 36 (.agg tab) (.int .i64 0)).run Try.prog w = .ok (.agg #[.int .i64 15, .int .i64 1]) w := fun w => by kernel_rfl
        have c2 : decide (1 < v) = true := by have hw' : 2 ≤ v := hw; simp; omega
        clear hw
        go_enter Try.func8, Try.ntmps8
        go_wp2_with fail
        refine (m _).mono ?_
        rintro e w' ⟨rfl, rfl⟩
        go_wp2_with fail
        refine (places_any _).mono ?_
        rintro e w1 ⟨rfl, hb1⟩
        go_wp2_with fail
        refine (mask1 _ _).mono ?_
        rintro e w2 ⟨rfl, hb2⟩
        go_wp2_with fail
        go_ret2
        exact ⟨rfl, Fl.step _ _ _ hb1 (((Below.refl _ _).alloc (Nat.le_refl _) _).trans (hb2.mono (by simp)))⟩
      · have i0 : ∀ w : World, (Instr.index 36 (.agg tab) (.int .i64 1)).run Try.prog w = .ok (.agg #[.int .i64 11, .int .i64 4]) w := fun w => by kernel_rfl
        have c2 : decide (15 < v) = true := by have hw' : 16 ≤ v := hw; simp; omega
        clear hw
        go_enter Try.func8, Try.ntmps8
        go_wp2_with fail
        refine (m _).mono ?_
        rintro e w' ⟨rfl, rfl⟩
        go_wp2_with fail
        refine (places_any _).mono ?_
        rintro e w1 ⟨rfl, hb1⟩
        go_wp2_with fail
        refine (mask4 _ _).mono ?_
        rintro e w2 ⟨rfl, hb2⟩
        go_wp2_with fail
        go_ret2
        exact ⟨rfl, Fl.step _ _ _ hb1 (((Below.refl _ _).alloc (Nat.le_refl _) _).trans (hb2.mono (by simp)))⟩
      · have i0 : ∀ w : World, (Instr.index 36 (.agg tab) (.int .i64 2)).run Try.prog w = .ok (.agg #[.int .i64 10, .int .i64 1]) w := fun w => by kernel_rfl
        have c2 : decide (1 < v) = true := by have hw' : 2 ≤ v := hw; simp; omega
        clear hw
        go_enter Try.func8, Try.ntmps8
        go_wp2_with fail
        refine (m _).mono ?_
        rintro e w' ⟨rfl, rfl⟩
        go_wp2_with fail
        refine (places_any _).mono ?_
        rintro e w1 ⟨rfl, hb1⟩
        go_wp2_with fail
        refine (mask1 _ _).mono ?_
        rintro e w2 ⟨rfl, hb2⟩
        go_wp2_with fail
        go_ret2
        exact ⟨rfl, Fl.step _ _ _ hb1 (((Below.refl _ _).alloc (Nat.le_refl _) _).trans (hb2.mono (by simp)))⟩
      · have i0 : ∀ w : World, (Instr.index 36 (.agg tab) (.int .i64 3)).run Try.prog w = .ok (.agg #[.int .i64 9, .int .i64 1]) w := fun w => by kernel_rfl
        have c2 : decide (1 < v) = true := by have hw' : 2 ≤ v := hw; simp; omega
        clear hw
        go_enter Try.func8, Try.ntmps8
        go_wp2_with fail
        refine (m _).mono ?_
        rintro e w' ⟨rfl, rfl⟩
        go_wp2_with fail
        refine (places_any _).mono ?_
        rintro e w1 ⟨rfl, hb1⟩
        go_wp2_with fail
        refine (mask1 _ _).mono ?_
        rintro e w2 ⟨rfl, hb2⟩
        go_wp2_with fail
        go_ret2
        exact ⟨rfl, Fl.step _ _ _ hb1 (((Below.refl _ _).alloc (Nat.le_refl _) _).trans (hb2.mono (by simp)))⟩
      · have i0 : ∀ w : World, (Instr.index 36 (.agg tab) (.int .i64 4)).run Try.prog w = .ok (.agg #[.int .i64 8, .int .i64 1]) w := fun w => by kernel_rfl
        have c2 : decide (1 < v) = true := by have hw' : 2 ≤ v := hw; simp; omega
        clear hw
        go_enter Try.func8, Try.ntmps8
        go_wp2_with fail
        refine (m _).mono ?_
        rintro e w' ⟨rfl, rfl⟩
        go_wp2_with fail
        refine (places_any _).mono ?_
        rintro e w1 ⟨rfl, hb1⟩
        go_wp2_with fail
        refine (mask1 _ _).mono ?_
        rintro e w2 ⟨rfl, hb2⟩
        go_wp2_with fail
        go_ret2
        exact ⟨rfl, Fl.step _ _ _ hb1 (((Below.refl _ _).alloc (Nat.le_refl _) _).trans (hb2.mono (by simp)))⟩
      · have i0 : ∀ w : World, (Instr.index 36 (.agg tab) (.int .i64 5)).run Try.prog w = .ok (.agg #[.int .i64 7, .int .i64 1]) w := fun w => by kernel_rfl
        have c2 : decide (1 < v) = true := by have hw' : 2 ≤ v := hw; simp; omega
        clear hw
        go_enter Try.func8, Try.ntmps8
        go_wp2_with fail
        refine (m _).mono ?_
        rintro e w' ⟨rfl, rfl⟩
        go_wp2_with fail
        refine (places_any _).mono ?_
        rintro e w1 ⟨rfl, hb1⟩
        go_wp2_with fail
        refine (mask1 _ _).mono ?_
        rintro e w2 ⟨rfl, hb2⟩
        go_wp2_with fail
        go_ret2
        exact ⟨rfl, Fl.step _ _ _ hb1 (((Below.refl _ _).alloc (Nat.le_refl _) _).trans (hb2.mono (by simp)))⟩
      · have i0 : ∀ w : World, (Instr.index 36 (.agg tab) (.int .i64 6)).run Try.prog w = .ok (.agg #[.int .i64 5, .int .i64 1]) w := fun w => by kernel_rfl
        have c2 : decide (1 < v) = true := by have hw' : 2 ≤ v := hw; simp; omega
        clear hw
        go_enter Try.func8, Try.ntmps8
        go_wp2_with fail
        refine (m _).mono ?_
        rintro e w' ⟨rfl, rfl⟩
        go_wp2_with fail
        refine (places_any _).mono ?_
        rintro e w1 ⟨rfl, hb1⟩
        go_wp2_with fail
        refine (mask1 _ _).mono ?_
        rintro e w2 ⟨rfl, hb2⟩
        go_wp2_with fail
        go_ret2
        exact ⟨rfl, Fl.step _ _ _ hb1 (((Below.refl _ _).alloc (Nat.le_refl _) _).trans (hb2.mono (by simp)))⟩
      · have i0 : ∀ w : World, (Instr.index 36 (.agg tab) (.int .i64 7)).run Try.prog w = .ok (.agg #[.int .i64 4, .int .i64 1]) w := fun w => by kernel_rfl
        have c2 : decide (1 < v) = true := by have hw' : 2 ≤ v := hw; simp; omega
        clear hw
        go_enter Try.func8, Try.ntmps8
        go_wp2_with fail
        refine (m _).mono ?_
        rintro e w' ⟨rfl, rfl⟩
        go_wp2_with fail
        refine (places_any _).mono ?_
        rintro e w1 ⟨rfl, hb1⟩
        go_wp2_with fail
        refine (mask1 _ _).mono ?_
        rintro e w2 ⟨rfl, hb2⟩
        go_wp2_with fail
        go_ret2
        exact ⟨rfl, Fl.step _ _ _ hb1 (((Below.refl _ _).alloc (Nat.le_refl _) _).trans (hb2.mono (by simp)))⟩
      · have i0 : ∀ w : World, (Instr.index 36 (.agg tab) (.int .i64 8)).run Try.prog w = .ok (.agg #[.int .i64 0, .int .i64 4]) w := fun w => by kernel_rfl
        have c2 : decide (15 < v) = true := by have hw' : 16 ≤ v := hw; simp; omega
        clear hw
        go_enter Try.func8, Try.ntmps8
        go_wp2_with fail
        refine (m _).mono ?_
        rintro e w' ⟨rfl, rfl⟩
        go_wp2_with fail
        refine (places_any _).mono ?_
        rintro e w1 ⟨rfl, hb1⟩
        go_wp2_with fail
        refine (mask4 _ _).mono ?_
        rintro e w2 ⟨rfl, hb2⟩
        go_wp2_with fail
        go_ret2
        exact ⟨rfl, Fl.step _ _ _ hb1 (((Below.refl _ _).alloc (Nat.le_refl _) _).trans (hb2.mono (by simp)))⟩
  · have e : mayB f b = false := by simpa using hm
    rw [e] at m; clear e hm h
    go_enter Try.func8, Try.ntmps8
    go_wp2_with fail
    refine (m _).mono ?_
    rintro e w' ⟨rfl, rfl⟩
    go_wp2_with fail
    go_ret2
    exact ⟨rfl, Below.refl _ _⟩

theorem with_any (f b v : Int) (w : World) : Calls Try.prog 8 #[.int .i64 f, .int .i64 b, .int .i64 v] w fun e w' => e = .returned (.tuple #[.int .i64 (withF f b v), .bool (okB f b v)]) ∧ Below w.heap.size w w' := by
  by_cases h : okB f b v = true
  · unfold withF
    rw [if_pos h]
    unfold okB at h
    simp only [Bool.and_eq_true, decide_eq_true_eq] at h
    obtain ⟨hm, v0, v1⟩ := h
    have ho : okB f b v = true := by unfold okB; simp [hm, v0, v1]
    rw [ho]
    unfold ofF
    rw [if_pos hm]
    unfold mayB at hm
    simp only [decide_eq_true_eq] at hm
    obtain ⟨h0, h1, h2, h3⟩ := hm
    have hf : f = 0 ∨ f = 1 ∨ f = 2 ∨ f = 3 ∨ f = 4 ∨ f = 5 ∨ f = 6 ∨ f = 7 ∨ f = 8 := by omega
    clear ho
    rcases hf with rfl | rfl | rfl | rfl | rfl | rfl | rfl | rfl | rfl
    · exact with_0 b v h0 h1 v0 (by have : v < 2 := v1; omega) w
    · exact with_1 b v h0 h1 v0 (by have : v < 16 := v1; omega) w
    · exact with_2 b v h0 h1 v0 (by have : v < 2 := v1; omega) w
    · exact with_3 b v h0 h1 v0 (by have : v < 2 := v1; omega) w
    · exact with_4 b v h0 h1 v0 (by have : v < 2 := v1; omega) w
    · exact with_5 b v h0 h1 v0 (by have : v < 2 := v1; omega) w
    · exact with_6 b v h0 h1 v0 (by have : v < 2 := v1; omega) w
    · exact with_7 b v h0 h1 v0 (by have : v < 2 := v1; omega) w
    · exact with_8 b v h0 h1 v0 (by have : v < 16 := v1; omega) w
  · have e : okB f b v = false := by simpa using h
    have e2 : withF f b v = 0 := by unfold withF; rw [e]; rfl
    rw [e2, e]
    exact with_no f b v e w

theorem lay_any (f b v : Int) (w : World) : Calls Try.prog 20 #[.int .i64 f, .int .i64 b, .int .i64 v] w fun e w' => e = .returned (.int .i64 (withF f b v)) ∧ Below w.heap.size w w' := by
  have m := with_any f b v
  generalize okB f b v = o at m
  generalize withF f b v = x at m ⊢
  go_enter Try.func20, Try.ntmps20
  go_wp2_with fail
  refine (m _).mono ?_
  rintro e w1 ⟨rfl, hb1⟩
  go_wp2_with fail
  go_ret
  exact ⟨rfl, hb1⟩

def capC (c : Int) : Int := if c < 0 then 0 else c % 16
def ans0 (c : Int) : Int := withF 8 32896 (capC c)
def ans1 (a c : Int) : Int := withF 1 (ans0 c) (ofF 1 a)
def ans2 (a c : Int) : Int := withF 4 (ans1 a c) (ofF 4 a)
def ans3 (a c : Int) : Int := withF 7 (ans2 a c) (ofF 7 a)

theorem cells3 (w w' : World) (h : Below (w.alloc (.cells #[.int .i64 1, .int .i64 4, .int .i64 7] 23)).heap.size (w.alloc (.cells #[.int .i64 1, .int .i64 4, .int .i64 7] 23)) w') :
    w'.cell? ⟨w.heap.size, 0, none⟩ = some (.int .i64 1) ∧ w'.cell? ⟨w.heap.size, 1, none⟩ = some (.int .i64 4) ∧ w'.cell? ⟨w.heap.size, 2, none⟩ = some (.int .i64 7) := by
  have hs : w.heap.size < (w.alloc (.cells #[.int .i64 1, .int .i64 4, .int .i64 7] 23)).heap.size := by simp
  exact ⟨(h.cell (p := ⟨w.heap.size, 0, none⟩) hs).trans (by simp), (h.cell (p := ⟨w.heap.size, 1, none⟩) hs).trans (by simp), (h.cell (p := ⟨w.heap.size, 2, none⟩) hs).trans (by simp)⟩

set_option maxHeartbeats 800000 in
theorem ans_core (a c x A0 A1 A2 A3 o1 o4 o7 : Int) (w : World) (hx : if c < 0 then bits .and .i64 0 15 = x else bits .and .i64 c 15 = x)
    (m3 : ∀ w : World, Calls Try.prog 20 #[.int .i64 8, .int .i64 32896, .int .i64 x] w fun e w' => e = .returned (.int .i64 A0) ∧ Below w.heap.size w w')
    (l1 : ∀ w : World, Calls Try.prog 20 #[.int .i64 1, .int .i64 A0, .int .i64 o1] w fun e w' => e = .returned (.int .i64 A1) ∧ Below w.heap.size w w')
    (l4 : ∀ w : World, Calls Try.prog 20 #[.int .i64 4, .int .i64 A1, .int .i64 o4] w fun e w' => e = .returned (.int .i64 A2) ∧ Below w.heap.size w w')
    (l7 : ∀ w : World, Calls Try.prog 20 #[.int .i64 7, .int .i64 A2, .int .i64 o7] w fun e w' => e = .returned (.int .i64 A3) ∧ Below w.heap.size w w')
    (f1 : ∀ w : World, Calls Try.prog 10 #[.int .i64 1, .int .i64 a] w fun e w' => e = .returned (.int .i64 o1) ∧ Below w.heap.size w w')
    (f4 : ∀ w : World, Calls Try.prog 10 #[.int .i64 4, .int .i64 a] w fun e w' => e = .returned (.int .i64 o4) ∧ Below w.heap.size w w')
    (f7 : ∀ w : World, Calls Try.prog 10 #[.int .i64 7, .int .i64 a] w fun e w' => e = .returned (.int .i64 o7) ∧ Below w.heap.size w w') :
    Calls Try.prog 12 #[.int .i64 a, .int .i64 c] w fun e w' => e = .returned (.int .i64 A3) ∧ Below w.heap.size w w' := by
  have m1 : ∀ w : World, Calls Try.prog 20 #[.int .i64 5, .int .i64 0, .int .i64 1] w fun e w' => e = .returned (.int .i64 128) ∧ Below w.heap.size w w' := lay_any 5 0 1
  have m2 : ∀ w : World, Calls Try.prog 20 #[.int .i64 0, .int .i64 128, .int .i64 1] w fun e w' => e = .returned (.int .i64 32896) ∧ Below w.heap.size w w' := lay_any 0 128 1
  by_cases hc : c < 0
  · rw [if_pos hc] at hx
    go_enter Try.func12, Try.ntmps12
    go_wp2_with fail
    refine (m1 _).mono ?_
    rintro e w1 ⟨rfl, hb1⟩
    go_wp2_with fail
    refine (m2 _).mono ?_
    rintro e w2 ⟨rfl, hb2⟩
    go_wp2_with fail
    refine (m3 _).mono ?_
    rintro e w3 ⟨rfl, hb3⟩
    clear hx hc
    go_wp2_with fail
    refine wp_loop_rounds 4 ?_
    rw [rounds_succ]
    go_wp2_with fail
    refine (f1 _).mono ?_
    rintro e w4 ⟨rfl, hb4⟩
    go_wp2_with fail
    refine (l1 _).mono ?_
    rintro e w5 ⟨rfl, hb5⟩
    obtain ⟨q0, q1, q2⟩ := cells3 _ _ (hb4.trans (hb5.mono hb4.size))
    go_wp2_with fail
    rw [rounds_succ]
    go_wp2_with fail
    refine (f4 _).mono ?_
    rintro e w6 ⟨rfl, hb6⟩
    go_wp2_with fail
    refine (l4 _).mono ?_
    rintro e w7 ⟨rfl, hb7⟩
    have hb57 := (hb4.trans (hb5.mono hb4.size)).trans ((hb6.trans (hb7.mono hb6.size)).mono (Nat.le_trans hb4.size hb5.size))
    clear q0 q1 q2
    obtain ⟨q0, q1, q2⟩ := cells3 _ _ hb57
    go_wp2_with fail
    rw [rounds_succ]
    go_wp2_with fail
    refine (f7 _).mono ?_
    rintro e w8 ⟨rfl, hb8⟩
    go_wp2_with fail
    refine (l7 _).mono ?_
    rintro e w9 ⟨rfl, hb9⟩
    go_wp2_with fail
    rw [rounds_succ]
    go_wp2_with fail
    go_ret
    have hz := hb3.size
    exact ⟨rfl, Fl.step _ _ _ (Fl.step _ _ _ hb1 hb2) (Fl.step _ _ _ hb3 (((Below.refl _ _).alloc (Nat.le_refl _) _).trans ((Fl.step _ _ _ (Fl.step _ _ _ (Fl.step _ _ _ (Fl.step _ _ _ (Fl.step _ _ _ hb4 hb5) hb6) hb7) hb8) hb9).mono (by simp))))⟩
  · rw [if_neg hc] at hx
    go_enter Try.func12, Try.ntmps12
    go_wp2_with fail
    refine (m1 _).mono ?_
    rintro e w1 ⟨rfl, hb1⟩
    go_wp2_with fail
    refine (m2 _).mono ?_
    rintro e w2 ⟨rfl, hb2⟩
    go_wp2_with fail
    refine (m3 _).mono ?_
    rintro e w3 ⟨rfl, hb3⟩
    clear hx hc
    go_wp2_with fail
    refine wp_loop_rounds 4 ?_
    rw [rounds_succ]
    go_wp2_with fail
    refine (f1 _).mono ?_
    rintro e w4 ⟨rfl, hb4⟩
    go_wp2_with fail
    refine (l1 _).mono ?_
    rintro e w5 ⟨rfl, hb5⟩
    obtain ⟨q0, q1, q2⟩ := cells3 _ _ (hb4.trans (hb5.mono hb4.size))
    go_wp2_with fail
    rw [rounds_succ]
    go_wp2_with fail
    refine (f4 _).mono ?_
    rintro e w6 ⟨rfl, hb6⟩
    go_wp2_with fail
    refine (l4 _).mono ?_
    rintro e w7 ⟨rfl, hb7⟩
    have hb57 := (hb4.trans (hb5.mono hb4.size)).trans ((hb6.trans (hb7.mono hb6.size)).mono (Nat.le_trans hb4.size hb5.size))
    clear q0 q1 q2
    obtain ⟨q0, q1, q2⟩ := cells3 _ _ hb57
    go_wp2_with fail
    rw [rounds_succ]
    go_wp2_with fail
    refine (f7 _).mono ?_
    rintro e w8 ⟨rfl, hb8⟩
    go_wp2_with fail
    refine (l7 _).mono ?_
    rintro e w9 ⟨rfl, hb9⟩
    go_wp2_with fail
    rw [rounds_succ]
    go_wp2_with fail
    go_ret
    have hz := hb3.size
    exact ⟨rfl, Fl.step _ _ _ (Fl.step _ _ _ hb1 hb2) (Fl.step _ _ _ hb3 (((Below.refl _ _).alloc (Nat.le_refl _) _).trans ((Fl.step _ _ _ (Fl.step _ _ _ (Fl.step _ _ _ (Fl.step _ _ _ (Fl.step _ _ _ hb4 hb5) hb6) hb7) hb8) hb9).mono (by simp))))⟩

theorem capC_eq (c : Int) (c1 : c ≤ 9223372036854775807) : if c < 0 then bits .and .i64 0 15 = capC c else bits .and .i64 c 15 = capC c := by
  by_cases h : c < 0
  · rw [if_pos h]; unfold capC; rw [if_pos h]; decide
  · rw [if_neg h]; unfold capC; rw [if_neg h]
    have := bits_mask .i64 63 (by decide) wraps 4 (by decide) c (by omega) (by omega)
    simpa using this
theorem ans_any (a c : Int) (c1 : c ≤ 9223372036854775807) (w : World) : Calls Try.prog 12 #[.int .i64 a, .int .i64 c] w fun e w' => e = .returned (.int .i64 (ans3 a c)) ∧ Below w.heap.size w w' :=
  ans_core a c _ _ _ _ _ _ _ _ w (capC_eq c c1) (lay_any 8 32896 _) (lay_any 1 _ _) (lay_any 4 _ _) (lay_any 7 _ _) (of_any 1 a) (of_any 4 a) (of_any 7 a)
end Fm
end Go.Proofs.Ytpekoponfahliaa
