/- The contracts of package flag's functions, each at every whole number; no condition. -/
import Derived.Test.YtpekoponfahliaaProg
import Derived.WalkKit
import Derived.Below
import Derived.KernelRfl
import Derived.Outline
import Derived.Laws.Tables
import Derived.Laws.Rows
import Derived.Deep.RegionHeld3
import Derived.Test.YtpekoponfahliaaFb
namespace Go.Proofs.Ytpekoponfahliaa
open Go.RowKit
open Go.Proofs.Ytpekoponfahliaa.Fb
set_option linter.unusedVariables false

namespace Fl
theorem step (a b c : World) (h : Below a.heap.size a b) (k : Below b.heap.size b c) : Below a.heap.size a c := h.trans (k.mono h.size)
theorem below_setRow {B : Nat} {a w : World} (h : Below B a w) {g : Nat} (hg : B ≤ g) (cs : Array Value) : Below B a (w.setRow g cs) :=
  ⟨h.os, h.tape, h.output, by simpa [World.setRow] using h.size, fun k hk => (setRow_other w g k _ (by omega)).trans (h.block k hk)⟩

def mayB (f b : Int) : Bool := decide (0 ≤ b ∧ b ≤ 65535 ∧ 0 ≤ f ∧ f < 9)

theorem may_any (f b : Int) (w : World) : Calls Try.prog 15 #[.int .i64 f, .int .i64 b] w fun e w' => e = .returned (.bool (mayB f b)) ∧ w = w' := by
  by_cases c1 : 0 ≤ b
  · have d1 : decide (0 ≤ b) = true := by simpa using c1
    by_cases c2 : b ≤ 65535
    · have d2 : decide (b ≤ 65535) = true := by simpa using c2
      by_cases c3 : 0 ≤ f
      · have d3 : decide (0 ≤ f) = true := by simpa using c3
        have d4 : mayB f b = decide (f < 9) := by unfold mayB; simp [c1, c2, c3]
        rw [d4]; clear d4 c1 c2 c3
        go_enter Try.func15, Try.ntmps15
        go_wp2
        go_ret
        exact ⟨rfl, rfl⟩
      · have d3 : decide (0 ≤ f) = false := by simpa using c3
        have d4 : mayB f b = false := by unfold mayB; simp; omega
        rw [d4]; clear d4 c1 c2 c3
        go_enter Try.func15, Try.ntmps15
        go_wp2
        go_ret
        exact ⟨rfl, rfl⟩
    · have d2 : decide (b ≤ 65535) = false := by simpa using c2
      have d4 : mayB f b = false := by unfold mayB; simp; omega
      rw [d4]; clear d4 c1 c2
      go_enter Try.func15, Try.ntmps15
      go_wp2
      go_ret
      exact ⟨rfl, rfl⟩
  · have d1 : decide (0 ≤ b) = false := by simpa using c1
    have d4 : mayB f b = false := by unfold mayB; simp; omega
    rw [d4]; clear d4 c1
    go_enter Try.func15, Try.ntmps15
    go_wp2
    go_ret
    exact ⟨rfl, rfl⟩

def tab : Array Value := #[.int .i64 15, .int .i64 1, .int .i64 11, .int .i64 4, .int .i64 10, .int .i64 1, .int .i64 9, .int .i64 1, .int .i64 8, .int .i64 1, .int .i64 7, .int .i64 1, .int .i64 5, .int .i64 1, .int .i64 4, .int .i64 1, .int .i64 0, .int .i64 4]
def zer : Array Value := #[.int .i64 0, .int .i64 0, .int .i64 0, .int .i64 0, .int .i64 0, .int .i64 0, .int .i64 0, .int .i64 0, .int .i64 0, .int .i64 0, .int .i64 0, .int .i64 0, .int .i64 0, .int .i64 0, .int .i64 0, .int .i64 0, .int .i64 0, .int .i64 0]
theorem places_any (w : World) : Calls Try.prog 16 #[] w fun e w' => e = .returned (.agg tab) ∧ Below w.heap.size w w' := by
  have hb : ∀ w : World, (Instr.build 36 #[(0, .agg #[.int .i64 15, .int .i64 1]), (1, .agg #[.int .i64 11, .int .i64 4]), (2, .agg #[.int .i64 10, .int .i64 1]), (3, .agg #[.int .i64 9, .int .i64 1]), (4, .agg #[.int .i64 8, .int .i64 1]), (5, .agg #[.int .i64 7, .int .i64 1]), (6, .agg #[.int .i64 5, .int .i64 1]), (7, .agg #[.int .i64 4, .int .i64 1]), (8, .agg #[.int .i64 0, .int .i64 4])]).run Try.prog w = .ok (.agg tab) w := fun w => by kernel_rfl
  go_enter Try.func16, Try.ntmps16
  go_wp2_with (refine wpList_store_row rfl 36 _ _ rfl w.heap.size tab rfl rfl 36 zer (heap_alloc_new w _) (by kernel_rfl) (by kernel_rfl) (by kernel_rfl) ?_)
  exact bodyPost_ret (v := .agg tab) (results_cell_row rfl _ _ w.heap.size 36 tab (0, 0) _ rfl (setRow_heap _ _ zer _ _ _ (heap_alloc_new w _)) Try.underlying36 rfl (by kernel_rfl)) rfl ⟨rfl, below_setRow ((Below.refl _ _).alloc (Nat.le_refl _) _) (Nat.le_refl _) _⟩

theorem mask1 (l : Int) (w : World) : Calls Try.prog 17 #[.agg #[.int .i64 l, .int .i64 1]] w fun e w' => e = .returned (.int .i64 1) ∧ Below w.heap.size w w' := by
  go_enter Try.func17, Try.ntmps17
  go_wp2
  go_ret
  exact ⟨rfl, (Below.refl _ _).alloc (Nat.le_refl _) _⟩
theorem mask4 (l : Int) (w : World) : Calls Try.prog 17 #[.agg #[.int .i64 l, .int .i64 4]] w fun e w' => e = .returned (.int .i64 15) ∧ Below w.heap.size w w' := by
  go_enter Try.func17, Try.ntmps17
  go_wp2
  go_ret
  exact ⟨rfl, (Below.refl _ _).alloc (Nat.le_refl _) _⟩

/-- What a region's worlds have in common: the place's two cells, and all that lay in w1. -/
abbrev Two (w1 : World) (l m : Int) (w' : World) : Prop := w'.cell? ⟨w1.heap.size, 0, none⟩ = some (.int .i64 l) ∧ w'.cell? ⟨w1.heap.size, 1, none⟩ = some (.int .i64 m) ∧ Below w1.heap.size w1 w' ∧ w1.heap.size < w'.heap.size
theorem two_next {w1 w' w'' : World} {l m : Int} (h : Two w1 l m w') (b : Below w'.heap.size w' w'') : Two w1 l m w'' :=
  ⟨(b.cell (p := ⟨w1.heap.size, 0, none⟩) h.2.2.2).trans h.1, (b.cell (p := ⟨w1.heap.size, 1, none⟩) h.2.2.2).trans h.2.1, h.2.2.1.trans (b.mono h.2.2.1.size), Nat.lt_of_lt_of_le h.2.2.2 b.size⟩
theorem mask1T {l : Int} {w1 w' : World} (h : Two w1 l 1 w') : Calls Try.prog 17 #[.agg #[.int .i64 l, .int .i64 1]] w' fun e w'' => e = .returned (.int .i64 1) ∧ Two w1 l 1 w'' :=
  (mask1 l w').mono fun _ _ ⟨he, hb⟩ => ⟨he, two_next h hb⟩
theorem mask4T {l : Int} {w1 w' : World} (h : Two w1 l 4 w') : Calls Try.prog 17 #[.agg #[.int .i64 l, .int .i64 4]] w' fun e w'' => e = .returned (.int .i64 15) ∧ Two w1 l 4 w'' :=
  (mask4 l w').mono fun _ _ ⟨he, hb⟩ => ⟨he, two_next h hb⟩

/-- The lowest bit of a field, as a number. -/
def low (f : Int) : Int := if f = 0 then 32768 else if f = 1 then 2048 else if f = 2 then 1024 else if f = 3 then 512 else if f = 4 then 256 else if f = 5 then 128 else if f = 6 then 32 else if f = 7 then 16 else 1
/-- How many values a field has. -/
def wid (f : Int) : Int := if f = 1 then 16 else if f = 8 then 16 else 2
def ofF (f b : Int) : Int := if mayB f b = true then b / low f % wid f else 0
def okB (f b v : Int) : Bool := mayB f b && decide (0 ≤ v ∧ v < wid f)
def withF (f b v : Int) : Int := if okB f b v = true then b + (v - ofF f b) * low f else 0

theorem of_0 (b : Int) (h0 : 0 ≤ b) (h1 : b ≤ 65535) (w : World) : Calls Try.prog 10 #[.int .i64 0, .int .i64 b] w fun e w' => e = .returned (.int .i64 (b / 32768 % 2)) ∧ Below w.heap.size w w' := by
  have m := may_any 0 b
  have i0 : ∀ w : World, (Instr.index 36 (.agg tab) (.int .i64 0)).run Try.prog w = .ok (.agg #[.int .i64 15, .int .i64 1]) w := fun w => by kernel_rfl
  have e : mayB 0 b = true := by unfold mayB; simp; omega
  rw [e] at m; clear e
  have r := of0 b h0 h1
  generalize hx : b / 32768 % 2 = x at r ⊢
  clear hx
  go_enter Try.func10, Try.ntmps10
  go_wp2_with fail
  refine (m _).mono ?_
  rintro e w' ⟨rfl, rfl⟩
  go_wp2_with fail
  refine (places_any _).mono ?_
  rintro e w1 ⟨rfl, hb1⟩
  go_wp2_with fail
  go_region_held3 (fun w' => w'.cell? ⟨w1.heap.size, 0, none⟩ = some (.int .i64 15) ∧ w'.cell? ⟨w1.heap.size, 1, none⟩ = some (.int .i64 1) ∧ Below w1.heap.size w1 w' ∧ w1.heap.size < w'.heap.size)
    (first | assumption | exact ⟨by simp, by simp, ((Below.refl _ _).alloc (Nat.le_refl _) _).drew, by simp⟩)
    (first
      | (go_at_call 17; refine (mask1T (w1 := w1) ?hs).mono ?_; (case hs => assumption); rintro e w' ⟨rfl, h1⟩))
  go_wp2
  go_ret
  rename_i hh
  exact ⟨by first | rfl | exact congrArg (fun n => Ending.returned (.int .i64 n)) r, step _ _ _ hb1 hh.2.2.1⟩

theorem with_0 (b v : Int) (h0 : 0 ≤ b) (h1 : b ≤ 65535) (v0 : 0 ≤ v) (v1 : v ≤ 1) (w : World) : Calls Try.prog 8 #[.int .i64 0, .int .i64 b, .int .i64 v] w fun e w' => e = .returned (.tuple #[.int .i64 (b + (v - b / 32768 % 2) * 32768), .bool true]) ∧ Below w.heap.size w w' := by
  have m := may_any 0 b
  have i0 : ∀ w : World, (Instr.index 36 (.agg tab) (.int .i64 0)).run Try.prog w = .ok (.agg #[.int .i64 15, .int .i64 1]) w := fun w => by kernel_rfl
  have e : mayB 0 b = true := by unfold mayB; simp; omega
  rw [e] at m; clear e
  have c1 : decide (v < 0) = false := by simp; omega
  have c2 : decide (1 < v) = false := by simp; omega
  have r := with0 b v h0 h1 v0 v1
  have k1 : IntKind.i64.wrap (v * 32768) = v * 32768 := wraps _ (by omega) (by omega)
  have k2 : IntKind.i64.wrap 32768 = 32768 := by decide
  generalize hx : b + (v - b / 32768 % 2) * 32768 = x at r ⊢
  rw [← k1, ← k2] at r
  have R := r
  clear hx k1 k2 r v0 v1
  go_enter Try.func8, Try.ntmps8
  go_wp2_with fail
  refine (m _).mono ?_
  rintro e w' ⟨rfl, rfl⟩
  go_wp2_with fail
  refine (places_any _).mono ?_
  rintro e w1 ⟨rfl, hb1⟩
  go_wp2_with fail
  have T0 : Two w1 15 1 (w1.alloc (.cells #[.int .i64 15, .int .i64 1] 35)) := ⟨by simp, by simp, (Below.refl _ _).alloc (Nat.le_refl _) _, by simp⟩
  refine (mask1T T0).mono ?_
  rintro e w2 ⟨rfl, a0, a1, a2, a3⟩
  clear T0
  go_wp2_with fail
  go_region_held3 (fun w' => w'.cell? ⟨w1.heap.size, 0, none⟩ = some (.int .i64 15) ∧ w'.cell? ⟨w1.heap.size, 1, none⟩ = some (.int .i64 1) ∧ Below w1.heap.size w1 w' ∧ w1.heap.size < w'.heap.size)
    (first | assumption | exact ⟨by simp [a0], by simp [a1], a2.drew, by simp [a3]⟩)
    (first
      | (go_at_call 17; refine (mask1T (w1 := w1) ?hs).mono ?_; (case hs => assumption); rintro e w' ⟨rfl, h1⟩))
  go_wp2
  go_ret2
  rename_i hh
  exact ⟨by first | rfl | exact congrArg (fun n => Ending.returned (.tuple #[.int .i64 n, .bool true])) R, step _ _ _ hb1 hh.2.2.1⟩

theorem of_1 (b : Int) (h0 : 0 ≤ b) (h1 : b ≤ 65535) (w : World) : Calls Try.prog 10 #[.int .i64 1, .int .i64 b] w fun e w' => e = .returned (.int .i64 (b / 2048 % 16)) ∧ Below w.heap.size w w' := by
  have m := may_any 1 b
  have i0 : ∀ w : World, (Instr.index 36 (.agg tab) (.int .i64 1)).run Try.prog w = .ok (.agg #[.int .i64 11, .int .i64 4]) w := fun w => by kernel_rfl
  have e : mayB 1 b = true := by unfold mayB; simp; omega
  rw [e] at m; clear e
  have r := of1 b h0 h1
  generalize hx : b / 2048 % 16 = x at r ⊢
  clear hx
  go_enter Try.func10, Try.ntmps10
  go_wp2_with fail
  refine (m _).mono ?_
  rintro e w' ⟨rfl, rfl⟩
  go_wp2_with fail
  refine (places_any _).mono ?_
  rintro e w1 ⟨rfl, hb1⟩
  go_wp2_with fail
  go_region_held3 (fun w' => w'.cell? ⟨w1.heap.size, 0, none⟩ = some (.int .i64 11) ∧ w'.cell? ⟨w1.heap.size, 1, none⟩ = some (.int .i64 4) ∧ Below w1.heap.size w1 w' ∧ w1.heap.size < w'.heap.size)
    (first | assumption | exact ⟨by simp, by simp, ((Below.refl _ _).alloc (Nat.le_refl _) _).drew, by simp⟩)
    (first
      | (go_at_call 17; refine (mask4T (w1 := w1) ?hs).mono ?_; (case hs => assumption); rintro e w' ⟨rfl, h1⟩))
  go_wp2
  go_ret
  rename_i hh
  exact ⟨by first | rfl | exact congrArg (fun n => Ending.returned (.int .i64 n)) r, step _ _ _ hb1 hh.2.2.1⟩

theorem with_1 (b v : Int) (h0 : 0 ≤ b) (h1 : b ≤ 65535) (v0 : 0 ≤ v) (v1 : v ≤ 15) (w : World) : Calls Try.prog 8 #[.int .i64 1, .int .i64 b, .int .i64 v] w fun e w' => e = .returned (.tuple #[.int .i64 (b + (v - b / 2048 % 16) * 2048), .bool true]) ∧ Below w.heap.size w w' := by
  have m := may_any 1 b
  have i0 : ∀ w : World, (Instr.index 36 (.agg tab) (.int .i64 1)).run Try.prog w = .ok (.agg #[.int .i64 11, .int .i64 4]) w := fun w => by kernel_rfl
  have e : mayB 1 b = true := by unfold mayB; simp; omega
  rw [e] at m; clear e
  have c1 : decide (v < 0) = false := by simp; omega
  have c2 : decide (15 < v) = false := by simp; omega
  have r := with1 b v h0 h1 v0 v1
  have k1 : IntKind.i64.wrap (v * 2048) = v * 2048 := wraps _ (by omega) (by omega)
  have k2 : IntKind.i64.wrap 30720 = 30720 := by decide
  generalize hx : b + (v - b / 2048 % 16) * 2048 = x at r ⊢
  rw [← k1, ← k2] at r
  have R := r
  clear hx k1 k2 r v0 v1
  go_enter Try.func8, Try.ntmps8
  go_wp2_with fail
  refine (m _).mono ?_
  rintro e w' ⟨rfl, rfl⟩
  go_wp2_with fail
  refine (places_any _).mono ?_
  rintro e w1 ⟨rfl, hb1⟩
  go_wp2_with fail
  have T0 : Two w1 11 4 (w1.alloc (.cells #[.int .i64 11, .int .i64 4] 35)) := ⟨by simp, by simp, (Below.refl _ _).alloc (Nat.le_refl _) _, by simp⟩
  refine (mask4T T0).mono ?_
  rintro e w2 ⟨rfl, a0, a1, a2, a3⟩
  clear T0
  go_wp2_with fail
  go_region_held3 (fun w' => w'.cell? ⟨w1.heap.size, 0, none⟩ = some (.int .i64 11) ∧ w'.cell? ⟨w1.heap.size, 1, none⟩ = some (.int .i64 4) ∧ Below w1.heap.size w1 w' ∧ w1.heap.size < w'.heap.size)
    (first | assumption | exact ⟨by simp [a0], by simp [a1], a2.drew, by simp [a3]⟩)
    (first
      | (go_at_call 17; refine (mask4T (w1 := w1) ?hs).mono ?_; (case hs => assumption); rintro e w' ⟨rfl, h1⟩))
  go_wp2
  go_ret2
  rename_i hh
  exact ⟨by first | rfl | exact congrArg (fun n => Ending.returned (.tuple #[.int .i64 n, .bool true])) R, step _ _ _ hb1 hh.2.2.1⟩

theorem of_2 (b : Int) (h0 : 0 ≤ b) (h1 : b ≤ 65535) (w : World) : Calls Try.prog 10 #[.int .i64 2, .int .i64 b] w fun e w' => e = .returned (.int .i64 (b / 1024 % 2)) ∧ Below w.heap.size w w' := by
  have m := may_any 2 b
  have i0 : ∀ w : World, (Instr.index 36 (.agg tab) (.int .i64 2)).run Try.prog w = .ok (.agg #[.int .i64 10, .int .i64 1]) w := fun w => by kernel_rfl
  have e : mayB 2 b = true := by unfold mayB; simp; omega
  rw [e] at m; clear e
  have r := of2 b h0 h1
  generalize hx : b / 1024 % 2 = x at r ⊢
  clear hx
  go_enter Try.func10, Try.ntmps10
  go_wp2_with fail
  refine (m _).mono ?_
  rintro e w' ⟨rfl, rfl⟩
  go_wp2_with fail
  refine (places_any _).mono ?_
  rintro e w1 ⟨rfl, hb1⟩
  go_wp2_with fail
  go_region_held3 (fun w' => w'.cell? ⟨w1.heap.size, 0, none⟩ = some (.int .i64 10) ∧ w'.cell? ⟨w1.heap.size, 1, none⟩ = some (.int .i64 1) ∧ Below w1.heap.size w1 w' ∧ w1.heap.size < w'.heap.size)
    (first | assumption | exact ⟨by simp, by simp, ((Below.refl _ _).alloc (Nat.le_refl _) _).drew, by simp⟩)
    (first
      | (go_at_call 17; refine (mask1T (w1 := w1) ?hs).mono ?_; (case hs => assumption); rintro e w' ⟨rfl, h1⟩))
  go_wp2
  go_ret
  rename_i hh
  exact ⟨by first | rfl | exact congrArg (fun n => Ending.returned (.int .i64 n)) r, step _ _ _ hb1 hh.2.2.1⟩

theorem with_2 (b v : Int) (h0 : 0 ≤ b) (h1 : b ≤ 65535) (v0 : 0 ≤ v) (v1 : v ≤ 1) (w : World) : Calls Try.prog 8 #[.int .i64 2, .int .i64 b, .int .i64 v] w fun e w' => e = .returned (.tuple #[.int .i64 (b + (v - b / 1024 % 2) * 1024), .bool true]) ∧ Below w.heap.size w w' := by
  have m := may_any 2 b
  have i0 : ∀ w : World, (Instr.index 36 (.agg tab) (.int .i64 2)).run Try.prog w = .ok (.agg #[.int .i64 10, .int .i64 1]) w := fun w => by kernel_rfl
  have e : mayB 2 b = true := by unfold mayB; simp; omega
  rw [e] at m; clear e
  have c1 : decide (v < 0) = false := by simp; omega
  have c2 : decide (1 < v) = false := by simp; omega
  have r := with2 b v h0 h1 v0 v1
  have k1 : IntKind.i64.wrap (v * 1024) = v * 1024 := wraps _ (by omega) (by omega)
  have k2 : IntKind.i64.wrap 1024 = 1024 := by decide
  generalize hx : b + (v - b / 1024 % 2) * 1024 = x at r ⊢
  rw [← k1, ← k2] at r
  have R := r
  clear hx k1 k2 r v0 v1
  go_enter Try.func8, Try.ntmps8
  go_wp2_with fail
  refine (m _).mono ?_
  rintro e w' ⟨rfl, rfl⟩
  go_wp2_with fail
  refine (places_any _).mono ?_
  rintro e w1 ⟨rfl, hb1⟩
  go_wp2_with fail
  have T0 : Two w1 10 1 (w1.alloc (.cells #[.int .i64 10, .int .i64 1] 35)) := ⟨by simp, by simp, (Below.refl _ _).alloc (Nat.le_refl _) _, by simp⟩
  refine (mask1T T0).mono ?_
  rintro e w2 ⟨rfl, a0, a1, a2, a3⟩
  clear T0
  go_wp2_with fail
  go_region_held3 (fun w' => w'.cell? ⟨w1.heap.size, 0, none⟩ = some (.int .i64 10) ∧ w'.cell? ⟨w1.heap.size, 1, none⟩ = some (.int .i64 1) ∧ Below w1.heap.size w1 w' ∧ w1.heap.size < w'.heap.size)
    (first | assumption | exact ⟨by simp [a0], by simp [a1], a2.drew, by simp [a3]⟩)
    (first
      | (go_at_call 17; refine (mask1T (w1 := w1) ?hs).mono ?_; (case hs => assumption); rintro e w' ⟨rfl, h1⟩))
  go_wp2
  go_ret2
  rename_i hh
  exact ⟨by first | rfl | exact congrArg (fun n => Ending.returned (.tuple #[.int .i64 n, .bool true])) R, step _ _ _ hb1 hh.2.2.1⟩

theorem of_3 (b : Int) (h0 : 0 ≤ b) (h1 : b ≤ 65535) (w : World) : Calls Try.prog 10 #[.int .i64 3, .int .i64 b] w fun e w' => e = .returned (.int .i64 (b / 512 % 2)) ∧ Below w.heap.size w w' := by
  have m := may_any 3 b
  have i0 : ∀ w : World, (Instr.index 36 (.agg tab) (.int .i64 3)).run Try.prog w = .ok (.agg #[.int .i64 9, .int .i64 1]) w := fun w => by kernel_rfl
  have e : mayB 3 b = true := by unfold mayB; simp; omega
  rw [e] at m; clear e
  have r := of3 b h0 h1
  generalize hx : b / 512 % 2 = x at r ⊢
  clear hx
  go_enter Try.func10, Try.ntmps10
  go_wp2_with fail
  refine (m _).mono ?_
  rintro e w' ⟨rfl, rfl⟩
  go_wp2_with fail
  refine (places_any _).mono ?_
  rintro e w1 ⟨rfl, hb1⟩
  go_wp2_with fail
  go_region_held3 (fun w' => w'.cell? ⟨w1.heap.size, 0, none⟩ = some (.int .i64 9) ∧ w'.cell? ⟨w1.heap.size, 1, none⟩ = some (.int .i64 1) ∧ Below w1.heap.size w1 w' ∧ w1.heap.size < w'.heap.size)
    (first | assumption | exact ⟨by simp, by simp, ((Below.refl _ _).alloc (Nat.le_refl _) _).drew, by simp⟩)
    (first
      | (go_at_call 17; refine (mask1T (w1 := w1) ?hs).mono ?_; (case hs => assumption); rintro e w' ⟨rfl, h1⟩))
  go_wp2
  go_ret
  rename_i hh
  exact ⟨by first | rfl | exact congrArg (fun n => Ending.returned (.int .i64 n)) r, step _ _ _ hb1 hh.2.2.1⟩

theorem with_3 (b v : Int) (h0 : 0 ≤ b) (h1 : b ≤ 65535) (v0 : 0 ≤ v) (v1 : v ≤ 1) (w : World) : Calls Try.prog 8 #[.int .i64 3, .int .i64 b, .int .i64 v] w fun e w' => e = .returned (.tuple #[.int .i64 (b + (v - b / 512 % 2) * 512), .bool true]) ∧ Below w.heap.size w w' := by
  have m := may_any 3 b
  have i0 : ∀ w : World, (Instr.index 36 (.agg tab) (.int .i64 3)).run Try.prog w = .ok (.agg #[.int .i64 9, .int .i64 1]) w := fun w => by kernel_rfl
  have e : mayB 3 b = true := by unfold mayB; simp; omega
  rw [e] at m; clear e
  have c1 : decide (v < 0) = false := by simp; omega
  have c2 : decide (1 < v) = false := by simp; omega
  have r := with3 b v h0 h1 v0 v1
  have k1 : IntKind.i64.wrap (v * 512) = v * 512 := wraps _ (by omega) (by omega)
  have k2 : IntKind.i64.wrap 512 = 512 := by decide
  generalize hx : b + (v - b / 512 % 2) * 512 = x at r ⊢
  rw [← k1, ← k2] at r
  have R := r
  clear hx k1 k2 r v0 v1
  go_enter Try.func8, Try.ntmps8
  go_wp2_with fail
  refine (m _).mono ?_
  rintro e w' ⟨rfl, rfl⟩
  go_wp2_with fail
  refine (places_any _).mono ?_
  rintro e w1 ⟨rfl, hb1⟩
  go_wp2_with fail
  have T0 : Two w1 9 1 (w1.alloc (.cells #[.int .i64 9, .int .i64 1] 35)) := ⟨by simp, by simp, (Below.refl _ _).alloc (Nat.le_refl _) _, by simp⟩
  refine (mask1T T0).mono ?_
  rintro e w2 ⟨rfl, a0, a1, a2, a3⟩
  clear T0
  go_wp2_with fail
  go_region_held3 (fun w' => w'.cell? ⟨w1.heap.size, 0, none⟩ = some (.int .i64 9) ∧ w'.cell? ⟨w1.heap.size, 1, none⟩ = some (.int .i64 1) ∧ Below w1.heap.size w1 w' ∧ w1.heap.size < w'.heap.size)
    (first | assumption | exact ⟨by simp [a0], by simp [a1], a2.drew, by simp [a3]⟩)
    (first
      | (go_at_call 17; refine (mask1T (w1 := w1) ?hs).mono ?_; (case hs => assumption); rintro e w' ⟨rfl, h1⟩))
  go_wp2
  go_ret2
  rename_i hh
  exact ⟨by first | rfl | exact congrArg (fun n => Ending.returned (.tuple #[.int .i64 n, .bool true])) R, step _ _ _ hb1 hh.2.2.1⟩

theorem of_4 (b : Int) (h0 : 0 ≤ b) (h1 : b ≤ 65535) (w : World) : Calls Try.prog 10 #[.int .i64 4, .int .i64 b] w fun e w' => e = .returned (.int .i64 (b / 256 % 2)) ∧ Below w.heap.size w w' := by
  have m := may_any 4 b
  have i0 : ∀ w : World, (Instr.index 36 (.agg tab) (.int .i64 4)).run Try.prog w = .ok (.agg #[.int .i64 8, .int .i64 1]) w := fun w => by kernel_rfl
  have e : mayB 4 b = true := by unfold mayB; simp; omega
  rw [e] at m; clear e
  have r := of4 b h0 h1
  generalize hx : b / 256 % 2 = x at r ⊢
  clear hx
  go_enter Try.func10, Try.ntmps10
  go_wp2_with fail
  refine (m _).mono ?_
  rintro e w' ⟨rfl, rfl⟩
  go_wp2_with fail
  refine (places_any _).mono ?_
  rintro e w1 ⟨rfl, hb1⟩
  go_wp2_with fail
  go_region_held3 (fun w' => w'.cell? ⟨w1.heap.size, 0, none⟩ = some (.int .i64 8) ∧ w'.cell? ⟨w1.heap.size, 1, none⟩ = some (.int .i64 1) ∧ Below w1.heap.size w1 w' ∧ w1.heap.size < w'.heap.size)
    (first | assumption | exact ⟨by simp, by simp, ((Below.refl _ _).alloc (Nat.le_refl _) _).drew, by simp⟩)
    (first
      | (go_at_call 17; refine (mask1T (w1 := w1) ?hs).mono ?_; (case hs => assumption); rintro e w' ⟨rfl, h1⟩))
  go_wp2
  go_ret
  rename_i hh
  exact ⟨by first | rfl | exact congrArg (fun n => Ending.returned (.int .i64 n)) r, step _ _ _ hb1 hh.2.2.1⟩

theorem with_4 (b v : Int) (h0 : 0 ≤ b) (h1 : b ≤ 65535) (v0 : 0 ≤ v) (v1 : v ≤ 1) (w : World) : Calls Try.prog 8 #[.int .i64 4, .int .i64 b, .int .i64 v] w fun e w' => e = .returned (.tuple #[.int .i64 (b + (v - b / 256 % 2) * 256), .bool true]) ∧ Below w.heap.size w w' := by
  have m := may_any 4 b
  have i0 : ∀ w : World, (Instr.index 36 (.agg tab) (.int .i64 4)).run Try.prog w = .ok (.agg #[.int .i64 8, .int .i64 1]) w := fun w => by kernel_rfl
  have e : mayB 4 b = true := by unfold mayB; simp; omega
  rw [e] at m; clear e
  have c1 : decide (v < 0) = false := by simp; omega
  have c2 : decide (1 < v) = false := by simp; omega
  have r := with4 b v h0 h1 v0 v1
  have k1 : IntKind.i64.wrap (v * 256) = v * 256 := wraps _ (by omega) (by omega)
  have k2 : IntKind.i64.wrap 256 = 256 := by decide
  generalize hx : b + (v - b / 256 % 2) * 256 = x at r ⊢
  rw [← k1, ← k2] at r
  have R := r
  clear hx k1 k2 r v0 v1
  go_enter Try.func8, Try.ntmps8
  go_wp2_with fail
  refine (m _).mono ?_
  rintro e w' ⟨rfl, rfl⟩
  go_wp2_with fail
  refine (places_any _).mono ?_
  rintro e w1 ⟨rfl, hb1⟩
  go_wp2_with fail
  have T0 : Two w1 8 1 (w1.alloc (.cells #[.int .i64 8, .int .i64 1] 35)) := ⟨by simp, by simp, (Below.refl _ _).alloc (Nat.le_refl _) _, by simp⟩
  refine (mask1T T0).mono ?_
  rintro e w2 ⟨rfl, a0, a1, a2, a3⟩
  clear T0
  go_wp2_with fail
  go_region_held3 (fun w' => w'.cell? ⟨w1.heap.size, 0, none⟩ = some (.int .i64 8) ∧ w'.cell? ⟨w1.heap.size, 1, none⟩ = some (.int .i64 1) ∧ Below w1.heap.size w1 w' ∧ w1.heap.size < w'.heap.size)
    (first | assumption | exact ⟨by simp [a0], by simp [a1], a2.drew, by simp [a3]⟩)
    (first
      | (go_at_call 17; refine (mask1T (w1 := w1) ?hs).mono ?_; (case hs => assumption); rintro e w' ⟨rfl, h1⟩))
  go_wp2
  go_ret2
  rename_i hh
  exact ⟨by first | rfl | exact congrArg (fun n => Ending.returned (.tuple #[.int .i64 n, .bool true])) R, step _ _ _ hb1 hh.2.2.1⟩

theorem of_5 (b : Int) (h0 : 0 ≤ b) (h1 : b ≤ 65535) (w : World) : Calls Try.prog 10 #[.int .i64 5, .int .i64 b] w fun e w' => e = .returned (.int .i64 (b / 128 % 2)) ∧ Below w.heap.size w w' := by
  have m := may_any 5 b
  have i0 : ∀ w : World, (Instr.index 36 (.agg tab) (.int .i64 5)).run Try.prog w = .ok (.agg #[.int .i64 7, .int .i64 1]) w := fun w => by kernel_rfl
  have e : mayB 5 b = true := by unfold mayB; simp; omega
  rw [e] at m; clear e
  have r := of5 b h0 h1
  generalize hx : b / 128 % 2 = x at r ⊢
  clear hx
  go_enter Try.func10, Try.ntmps10
  go_wp2_with fail
  refine (m _).mono ?_
  rintro e w' ⟨rfl, rfl⟩
  go_wp2_with fail
  refine (places_any _).mono ?_
  rintro e w1 ⟨rfl, hb1⟩
  go_wp2_with fail
  go_region_held3 (fun w' => w'.cell? ⟨w1.heap.size, 0, none⟩ = some (.int .i64 7) ∧ w'.cell? ⟨w1.heap.size, 1, none⟩ = some (.int .i64 1) ∧ Below w1.heap.size w1 w' ∧ w1.heap.size < w'.heap.size)
    (first | assumption | exact ⟨by simp, by simp, ((Below.refl _ _).alloc (Nat.le_refl _) _).drew, by simp⟩)
    (first
      | (go_at_call 17; refine (mask1T (w1 := w1) ?hs).mono ?_; (case hs => assumption); rintro e w' ⟨rfl, h1⟩))
  go_wp2
  go_ret
  rename_i hh
  exact ⟨by first | rfl | exact congrArg (fun n => Ending.returned (.int .i64 n)) r, step _ _ _ hb1 hh.2.2.1⟩

theorem with_5 (b v : Int) (h0 : 0 ≤ b) (h1 : b ≤ 65535) (v0 : 0 ≤ v) (v1 : v ≤ 1) (w : World) : Calls Try.prog 8 #[.int .i64 5, .int .i64 b, .int .i64 v] w fun e w' => e = .returned (.tuple #[.int .i64 (b + (v - b / 128 % 2) * 128), .bool true]) ∧ Below w.heap.size w w' := by
  have m := may_any 5 b
  have i0 : ∀ w : World, (Instr.index 36 (.agg tab) (.int .i64 5)).run Try.prog w = .ok (.agg #[.int .i64 7, .int .i64 1]) w := fun w => by kernel_rfl
  have e : mayB 5 b = true := by unfold mayB; simp; omega
  rw [e] at m; clear e
  have c1 : decide (v < 0) = false := by simp; omega
  have c2 : decide (1 < v) = false := by simp; omega
  have r := with5 b v h0 h1 v0 v1
  have k1 : IntKind.i64.wrap (v * 128) = v * 128 := wraps _ (by omega) (by omega)
  have k2 : IntKind.i64.wrap 128 = 128 := by decide
  generalize hx : b + (v - b / 128 % 2) * 128 = x at r ⊢
  rw [← k1, ← k2] at r
  have R := r
  clear hx k1 k2 r v0 v1
  go_enter Try.func8, Try.ntmps8
  go_wp2_with fail
  refine (m _).mono ?_
  rintro e w' ⟨rfl, rfl⟩
  go_wp2_with fail
  refine (places_any _).mono ?_
  rintro e w1 ⟨rfl, hb1⟩
  go_wp2_with fail
  have T0 : Two w1 7 1 (w1.alloc (.cells #[.int .i64 7, .int .i64 1] 35)) := ⟨by simp, by simp, (Below.refl _ _).alloc (Nat.le_refl _) _, by simp⟩
  refine (mask1T T0).mono ?_
  rintro e w2 ⟨rfl, a0, a1, a2, a3⟩
  clear T0
  go_wp2_with fail
  go_region_held3 (fun w' => w'.cell? ⟨w1.heap.size, 0, none⟩ = some (.int .i64 7) ∧ w'.cell? ⟨w1.heap.size, 1, none⟩ = some (.int .i64 1) ∧ Below w1.heap.size w1 w' ∧ w1.heap.size < w'.heap.size)
    (first | assumption | exact ⟨by simp [a0], by simp [a1], a2.drew, by simp [a3]⟩)
    (first
      | (go_at_call 17; refine (mask1T (w1 := w1) ?hs).mono ?_; (case hs => assumption); rintro e w' ⟨rfl, h1⟩))
  go_wp2
  go_ret2
  rename_i hh
  exact ⟨by first | rfl | exact congrArg (fun n => Ending.returned (.tuple #[.int .i64 n, .bool true])) R, step _ _ _ hb1 hh.2.2.1⟩

theorem of_6 (b : Int) (h0 : 0 ≤ b) (h1 : b ≤ 65535) (w : World) : Calls Try.prog 10 #[.int .i64 6, .int .i64 b] w fun e w' => e = .returned (.int .i64 (b / 32 % 2)) ∧ Below w.heap.size w w' := by
  have m := may_any 6 b
  have i0 : ∀ w : World, (Instr.index 36 (.agg tab) (.int .i64 6)).run Try.prog w = .ok (.agg #[.int .i64 5, .int .i64 1]) w := fun w => by kernel_rfl
  have e : mayB 6 b = true := by unfold mayB; simp; omega
  rw [e] at m; clear e
  have r := of6 b h0 h1
  generalize hx : b / 32 % 2 = x at r ⊢
  clear hx
  go_enter Try.func10, Try.ntmps10
  go_wp2_with fail
  refine (m _).mono ?_
  rintro e w' ⟨rfl, rfl⟩
  go_wp2_with fail
  refine (places_any _).mono ?_
  rintro e w1 ⟨rfl, hb1⟩
  go_wp2_with fail
  go_region_held3 (fun w' => w'.cell? ⟨w1.heap.size, 0, none⟩ = some (.int .i64 5) ∧ w'.cell? ⟨w1.heap.size, 1, none⟩ = some (.int .i64 1) ∧ Below w1.heap.size w1 w' ∧ w1.heap.size < w'.heap.size)
    (first | assumption | exact ⟨by simp, by simp, ((Below.refl _ _).alloc (Nat.le_refl _) _).drew, by simp⟩)
    (first
      | (go_at_call 17; refine (mask1T (w1 := w1) ?hs).mono ?_; (case hs => assumption); rintro e w' ⟨rfl, h1⟩))
  go_wp2
  go_ret
  rename_i hh
  exact ⟨by first | rfl | exact congrArg (fun n => Ending.returned (.int .i64 n)) r, step _ _ _ hb1 hh.2.2.1⟩

theorem with_6 (b v : Int) (h0 : 0 ≤ b) (h1 : b ≤ 65535) (v0 : 0 ≤ v) (v1 : v ≤ 1) (w : World) : Calls Try.prog 8 #[.int .i64 6, .int .i64 b, .int .i64 v] w fun e w' => e = .returned (.tuple #[.int .i64 (b + (v - b / 32 % 2) * 32), .bool true]) ∧ Below w.heap.size w w' := by
  have m := may_any 6 b
  have i0 : ∀ w : World, (Instr.index 36 (.agg tab) (.int .i64 6)).run Try.prog w = .ok (.agg #[.int .i64 5, .int .i64 1]) w := fun w => by kernel_rfl
  have e : mayB 6 b = true := by unfold mayB; simp; omega
  rw [e] at m; clear e
  have c1 : decide (v < 0) = false := by simp; omega
  have c2 : decide (1 < v) = false := by simp; omega
  have r := with6 b v h0 h1 v0 v1
  have k1 : IntKind.i64.wrap (v * 32) = v * 32 := wraps _ (by omega) (by omega)
  have k2 : IntKind.i64.wrap 32 = 32 := by decide
  generalize hx : b + (v - b / 32 % 2) * 32 = x at r ⊢
  rw [← k1, ← k2] at r
  have R := r
  clear hx k1 k2 r v0 v1
  go_enter Try.func8, Try.ntmps8
  go_wp2_with fail
  refine (m _).mono ?_
  rintro e w' ⟨rfl, rfl⟩
  go_wp2_with fail
  refine (places_any _).mono ?_
  rintro e w1 ⟨rfl, hb1⟩
  go_wp2_with fail
  have T0 : Two w1 5 1 (w1.alloc (.cells #[.int .i64 5, .int .i64 1] 35)) := ⟨by simp, by simp, (Below.refl _ _).alloc (Nat.le_refl _) _, by simp⟩
  refine (mask1T T0).mono ?_
  rintro e w2 ⟨rfl, a0, a1, a2, a3⟩
  clear T0
  go_wp2_with fail
  go_region_held3 (fun w' => w'.cell? ⟨w1.heap.size, 0, none⟩ = some (.int .i64 5) ∧ w'.cell? ⟨w1.heap.size, 1, none⟩ = some (.int .i64 1) ∧ Below w1.heap.size w1 w' ∧ w1.heap.size < w'.heap.size)
    (first | assumption | exact ⟨by simp [a0], by simp [a1], a2.drew, by simp [a3]⟩)
    (first
      | (go_at_call 17; refine (mask1T (w1 := w1) ?hs).mono ?_; (case hs => assumption); rintro e w' ⟨rfl, h1⟩))
  go_wp2
  go_ret2
  rename_i hh
  exact ⟨by first | rfl | exact congrArg (fun n => Ending.returned (.tuple #[.int .i64 n, .bool true])) R, step _ _ _ hb1 hh.2.2.1⟩

theorem of_7 (b : Int) (h0 : 0 ≤ b) (h1 : b ≤ 65535) (w : World) : Calls Try.prog 10 #[.int .i64 7, .int .i64 b] w fun e w' => e = .returned (.int .i64 (b / 16 % 2)) ∧ Below w.heap.size w w' := by
  have m := may_any 7 b
  have i0 : ∀ w : World, (Instr.index 36 (.agg tab) (.int .i64 7)).run Try.prog w = .ok (.agg #[.int .i64 4, .int .i64 1]) w := fun w => by kernel_rfl
  have e : mayB 7 b = true := by unfold mayB; simp; omega
  rw [e] at m; clear e
  have r := of7 b h0 h1
  generalize hx : b / 16 % 2 = x at r ⊢
  clear hx
  go_enter Try.func10, Try.ntmps10
  go_wp2_with fail
  refine (m _).mono ?_
  rintro e w' ⟨rfl, rfl⟩
  go_wp2_with fail
  refine (places_any _).mono ?_
  rintro e w1 ⟨rfl, hb1⟩
  go_wp2_with fail
  go_region_held3 (fun w' => w'.cell? ⟨w1.heap.size, 0, none⟩ = some (.int .i64 4) ∧ w'.cell? ⟨w1.heap.size, 1, none⟩ = some (.int .i64 1) ∧ Below w1.heap.size w1 w' ∧ w1.heap.size < w'.heap.size)
    (first | assumption | exact ⟨by simp, by simp, ((Below.refl _ _).alloc (Nat.le_refl _) _).drew, by simp⟩)
    (first
      | (go_at_call 17; refine (mask1T (w1 := w1) ?hs).mono ?_; (case hs => assumption); rintro e w' ⟨rfl, h1⟩))
  go_wp2
  go_ret
  rename_i hh
  exact ⟨by first | rfl | exact congrArg (fun n => Ending.returned (.int .i64 n)) r, step _ _ _ hb1 hh.2.2.1⟩

theorem with_7 (b v : Int) (h0 : 0 ≤ b) (h1 : b ≤ 65535) (v0 : 0 ≤ v) (v1 : v ≤ 1) (w : World) : Calls Try.prog 8 #[.int .i64 7, .int .i64 b, .int .i64 v] w fun e w' => e = .returned (.tuple #[.int .i64 (b + (v - b / 16 % 2) * 16), .bool true]) ∧ Below w.heap.size w w' := by
  have m := may_any 7 b
  have i0 : ∀ w : World, (Instr.index 36 (.agg tab) (.int .i64 7)).run Try.prog w = .ok (.agg #[.int .i64 4, .int .i64 1]) w := fun w => by kernel_rfl
  have e : mayB 7 b = true := by unfold mayB; simp; omega
  rw [e] at m; clear e
  have c1 : decide (v < 0) = false := by simp; omega
  have c2 : decide (1 < v) = false := by simp; omega
  have r := with7 b v h0 h1 v0 v1
  have k1 : IntKind.i64.wrap (v * 16) = v * 16 := wraps _ (by omega) (by omega)
  have k2 : IntKind.i64.wrap 16 = 16 := by decide
  generalize hx : b + (v - b / 16 % 2) * 16 = x at r ⊢
  rw [← k1, ← k2] at r
  have R := r
  clear hx k1 k2 r v0 v1
  go_enter Try.func8, Try.ntmps8
  go_wp2_with fail
  refine (m _).mono ?_
  rintro e w' ⟨rfl, rfl⟩
  go_wp2_with fail
  refine (places_any _).mono ?_
  rintro e w1 ⟨rfl, hb1⟩
  go_wp2_with fail
  have T0 : Two w1 4 1 (w1.alloc (.cells #[.int .i64 4, .int .i64 1] 35)) := ⟨by simp, by simp, (Below.refl _ _).alloc (Nat.le_refl _) _, by simp⟩
  refine (mask1T T0).mono ?_
  rintro e w2 ⟨rfl, a0, a1, a2, a3⟩
  clear T0
  go_wp2_with fail
  go_region_held3 (fun w' => w'.cell? ⟨w1.heap.size, 0, none⟩ = some (.int .i64 4) ∧ w'.cell? ⟨w1.heap.size, 1, none⟩ = some (.int .i64 1) ∧ Below w1.heap.size w1 w' ∧ w1.heap.size < w'.heap.size)
    (first | assumption | exact ⟨by simp [a0], by simp [a1], a2.drew, by simp [a3]⟩)
    (first
      | (go_at_call 17; refine (mask1T (w1 := w1) ?hs).mono ?_; (case hs => assumption); rintro e w' ⟨rfl, h1⟩))
  go_wp2
  go_ret2
  rename_i hh
  exact ⟨by first | rfl | exact congrArg (fun n => Ending.returned (.tuple #[.int .i64 n, .bool true])) R, step _ _ _ hb1 hh.2.2.1⟩

theorem of_8 (b : Int) (h0 : 0 ≤ b) (h1 : b ≤ 65535) (w : World) : Calls Try.prog 10 #[.int .i64 8, .int .i64 b] w fun e w' => e = .returned (.int .i64 (b / 1 % 16)) ∧ Below w.heap.size w w' := by
  have m := may_any 8 b
  have i0 : ∀ w : World, (Instr.index 36 (.agg tab) (.int .i64 8)).run Try.prog w = .ok (.agg #[.int .i64 0, .int .i64 4]) w := fun w => by kernel_rfl
  have e : mayB 8 b = true := by unfold mayB; simp; omega
  rw [e] at m; clear e
  have r := of8 b h0 h1
  generalize hx : b / 1 % 16 = x at r ⊢
  clear hx
  go_enter Try.func10, Try.ntmps10
  go_wp2_with fail
  refine (m _).mono ?_
  rintro e w' ⟨rfl, rfl⟩
  go_wp2_with fail
  refine (places_any _).mono ?_
  rintro e w1 ⟨rfl, hb1⟩
  go_wp2_with fail
  go_region_held3 (fun w' => w'.cell? ⟨w1.heap.size, 0, none⟩ = some (.int .i64 0) ∧ w'.cell? ⟨w1.heap.size, 1, none⟩ = some (.int .i64 4) ∧ Below w1.heap.size w1 w' ∧ w1.heap.size < w'.heap.size)
    (first | assumption | exact ⟨by simp, by simp, ((Below.refl _ _).alloc (Nat.le_refl _) _).drew, by simp⟩)
    (first
      | (go_at_call 17; refine (mask4T (w1 := w1) ?hs).mono ?_; (case hs => assumption); rintro e w' ⟨rfl, h1⟩))
  go_wp2
  go_ret
  rename_i hh
  exact ⟨by first | rfl | exact congrArg (fun n => Ending.returned (.int .i64 n)) (by simpa using r), step _ _ _ hb1 hh.2.2.1⟩

theorem with_8 (b v : Int) (h0 : 0 ≤ b) (h1 : b ≤ 65535) (v0 : 0 ≤ v) (v1 : v ≤ 15) (w : World) : Calls Try.prog 8 #[.int .i64 8, .int .i64 b, .int .i64 v] w fun e w' => e = .returned (.tuple #[.int .i64 (b + (v - b / 1 % 16) * 1), .bool true]) ∧ Below w.heap.size w w' := by
  have m := may_any 8 b
  have i0 : ∀ w : World, (Instr.index 36 (.agg tab) (.int .i64 8)).run Try.prog w = .ok (.agg #[.int .i64 0, .int .i64 4]) w := fun w => by kernel_rfl
  have e : mayB 8 b = true := by unfold mayB; simp; omega
  rw [e] at m; clear e
  have c1 : decide (v < 0) = false := by simp; omega
  have c2 : decide (15 < v) = false := by simp; omega
  have r := with8 b v h0 h1 v0 v1
  have k1 : IntKind.i64.wrap (v * 1) = v * 1 := wraps _ (by omega) (by omega)
  have k2 : IntKind.i64.wrap 15 = 15 := by decide
  generalize hx : b + (v - b / 1 % 16) * 1 = x at r ⊢
  rw [← k1, ← k2] at r
  have R := r
  clear hx k1 k2 r v0 v1
  go_enter Try.func8, Try.ntmps8
  go_wp2_with fail
  refine (m _).mono ?_
  rintro e w' ⟨rfl, rfl⟩
  go_wp2_with fail
  refine (places_any _).mono ?_
  rintro e w1 ⟨rfl, hb1⟩
  go_wp2_with fail
  have T0 : Two w1 0 4 (w1.alloc (.cells #[.int .i64 0, .int .i64 4] 35)) := ⟨by simp, by simp, (Below.refl _ _).alloc (Nat.le_refl _) _, by simp⟩
  refine (mask4T T0).mono ?_
  rintro e w2 ⟨rfl, a0, a1, a2, a3⟩
  clear T0
  go_wp2_with fail
  go_region_held3 (fun w' => w'.cell? ⟨w1.heap.size, 0, none⟩ = some (.int .i64 0) ∧ w'.cell? ⟨w1.heap.size, 1, none⟩ = some (.int .i64 4) ∧ Below w1.heap.size w1 w' ∧ w1.heap.size < w'.heap.size)
    (first | assumption | exact ⟨by simp [a0], by simp [a1], a2.drew, by simp [a3]⟩)
    (first
      | (go_at_call 17; refine (mask4T (w1 := w1) ?hs).mono ?_; (case hs => assumption); rintro e w' ⟨rfl, h1⟩))
  go_wp2
  go_ret2
  rename_i hh
  exact ⟨by first | rfl | exact congrArg (fun n => Ending.returned (.tuple #[.int .i64 n, .bool true])) (by simpa using R), step _ _ _ hb1 hh.2.2.1⟩
end Fl
end Go.Proofs.Ytpekoponfahliaa
