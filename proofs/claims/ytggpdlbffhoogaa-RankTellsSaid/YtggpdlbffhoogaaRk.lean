/- The contracts of package rank and of its reference: how much a section is believed, what takes the place of what, and what is told; each at every whole number; no condition. -/
import Derived.Test.YtggpdlbffhoogaaProg
import Derived.WalkKit
import Derived.Below
import Derived.KernelRfl
import Derived.Outline
namespace Go.Proofs.Ytggpdlbffhoogaa
open Go.RowKit
set_option linter.unusedVariables false

namespace Rk
theorem step (a b c : World) (h : Below a.heap.size a b) (k : Below b.heap.size b c) : Below a.heap.size a c := h.trans (k.mono h.size)

/-- How much is believed what stands in a section. -/
def rk (s : Int) (aa : Bool) : Int := if s = 0 then (if aa = true then 5 else 3) else if s = 1 then (if aa = true then 4 else 1) else if s = 2 then (if aa = true then 2 else 1) else 0
def inB (n f : Int) : Bool := decide (f ≤ n ∧ n ≤ 5)
def overB (o : Int) (l : Bool) (n : Int) : Bool := decide (1 ≤ n ∧ n ≤ 5 ∧ (l = false ∨ o ≤ n))
def toldB (r : Int) : Bool := decide (3 ≤ r ∧ r ≤ 5)

theorem in_any (n f : Int) (w : World) : Calls Try.prog 14 #[.int .i64 n, .int .i64 f] w fun e w' => e = .returned (.bool (inB n f)) ∧ w = w' := by
  by_cases c : f ≤ n
  · have c1 : decide (f ≤ n) = true := by simpa using c
    have c2 : inB n f = decide (n ≤ 5) := by unfold inB; simp [c]
    rw [c2]; clear c2 c
    go_enter Try.func14, Try.ntmps14
    go_wp2
    go_ret
    exact ⟨rfl, rfl⟩
  · have c1 : decide (f ≤ n) = false := by simpa using c
    have c2 : inB n f = false := by unfold inB; simp [c]
    rw [c2]; clear c2 c
    go_enter Try.func14, Try.ntmps14
    go_wp2
    go_ret
    exact ⟨rfl, rfl⟩

theorem told_any (r : Int) (w : World) : Calls Try.prog 10 #[.int .i64 r] w fun e w' => e = .returned (.bool (toldB r)) ∧ w = w' := by
  go_enter Try.func10, Try.ntmps10
  go_wp2_with fail
  refine (in_any r 3 _).mono ?_
  rintro e w' ⟨rfl, rfl⟩
  go_wp2_with fail
  go_ret
  exact ⟨rfl, rfl⟩

theorem over_any (o n : Int) (l : Bool) (w : World) : Calls Try.prog 8 #[.int .i64 o, .bool l, .int .i64 n] w fun e w' => e = .returned (.bool (overB o l n)) ∧ w = w' := by
  by_cases c : 1 ≤ n ∧ n ≤ 5
  · have c1 : inB n 1 = true := by unfold inB; simpa using c
    cases l
    · have c2 : overB o false n = true := by unfold overB; simp; omega
      rw [c2]; clear c2 c
      go_enter Try.func8, Try.ntmps8
      go_wp2_with fail
      refine (in_any n 1 _).mono ?_
      rw [c1]
      rintro e w' ⟨rfl, rfl⟩
      go_wp2_with fail
      go_ret
      exact ⟨rfl, rfl⟩
    · have c2 : overB o true n = decide (o ≤ n) := by unfold overB; simp [c]
      rw [c2]; clear c2 c
      go_enter Try.func8, Try.ntmps8
      go_wp2_with fail
      refine (in_any n 1 _).mono ?_
      rw [c1]
      rintro e w' ⟨rfl, rfl⟩
      go_wp2_with fail
      go_ret
      exact ⟨rfl, rfl⟩
  · have c1 : inB n 1 = false := by unfold inB; simpa using c
    have c2 : overB o l n = false := by unfold overB; simp; omega
    rw [c2]; clear c2 c
    go_enter Try.func8, Try.ntmps8
    go_wp2_with fail
    refine (in_any n 1 _).mono ?_
    rw [c1]
    rintro e w' ⟨rfl, rfl⟩
    go_wp2_with fail
    go_ret
    exact ⟨rfl, rfl⟩

theorem rank_out (s : Int) (aa : Bool) (w : World) (h : s < 0 ∨ 3 ≤ s) : Calls Try.prog 6 #[.int .i64 s, .bool aa] w fun e w' => e = .returned (.int .i64 (rk s aa)) ∧ Below w.heap.size w w' := by
  have c2 : rk s aa = 0 := by unfold rk; rw [if_neg (by omega), if_neg (by omega), if_neg (by omega)]
  rw [c2]; clear c2
  by_cases c : s < 0
  · have c1 : decide (s < 0) = true := by simpa using c
    clear c h
    go_enter Try.func6, Try.ntmps6
    go_wp2
    go_ret
    exact ⟨rfl, Below.refl _ _⟩
  · have c1 : decide (s < 0) = false := by simpa using c
    have c3 : decide (3 ≤ s) = true := by simp; omega
    clear c h
    go_enter Try.func6, Try.ntmps6
    go_wp2
    go_ret
    exact ⟨rfl, Below.refl _ _⟩

theorem ranks_any (w : World) : Calls Try.prog 13 #[] w fun e w' => e = .returned (.agg #[.int .i64 3, .int .i64 5, .int .i64 1, .int .i64 4, .int .i64 1, .int .i64 2]) ∧ Below w.heap.size w w' := by
  go_enter Try.func13, Try.ntmps13
  go_wp2
  exact bodyPost_ret (v := .agg #[.int .i64 3, .int .i64 5, .int .i64 1, .int .i64 4, .int .i64 1, .int .i64 2]) (by simp [results, Try.results13, go_sem]) rfl ⟨rfl, (Below.refl _ _).alloc (Nat.le_refl _) _⟩

def tab : Value := .agg #[.int .i64 3, .int .i64 5, .int .i64 1, .int .i64 4, .int .i64 1, .int .i64 2]
theorem tab0 (w : World) : (Instr.index 32 (.agg #[.int .i64 3, .int .i64 5, .int .i64 1, .int .i64 4, .int .i64 1, .int .i64 2]) (.int .i64 0)).run Try.prog w = .ok (.agg #[.int .i64 3, .int .i64 5]) w := by kernel_rfl
theorem tab1 (w : World) : (Instr.index 32 (.agg #[.int .i64 3, .int .i64 5, .int .i64 1, .int .i64 4, .int .i64 1, .int .i64 2]) (.int .i64 1)).run Try.prog w = .ok (.agg #[.int .i64 1, .int .i64 4]) w := by kernel_rfl
theorem tab2 (w : World) : (Instr.index 32 (.agg #[.int .i64 3, .int .i64 5, .int .i64 1, .int .i64 4, .int .i64 1, .int .i64 2]) (.int .i64 2)).run Try.prog w = .ok (.agg #[.int .i64 1, .int .i64 2]) w := by kernel_rfl
theorem rank_any (s : Int) (aa : Bool) (w : World) : Calls Try.prog 6 #[.int .i64 s, .bool aa] w fun e w' => e = .returned (.int .i64 (rk s aa)) ∧ Below w.heap.size w w' := by
  by_cases h : s < 0 ∨ 3 ≤ s
  · exact rank_out s aa w h
  · have h3 : s = 0 ∨ s = 1 ∨ s = 2 := by omega
    clear h
    have i0 := tab0
    have i1 := tab1
    have i2 := tab2
    rcases h3 with rfl | rfl | rfl
    all_goals
      cases aa
      all_goals
        go_enter Try.func6, Try.ntmps6
        go_wp2_with fail
        refine (ranks_any _).mono ?_
        rintro e w1 ⟨rfl, hb⟩
        go_wp2_with fail
        go_ret
        exact ⟨rfl, hb.trans (((Below.refl _ _).alloc (Nat.le_refl _) _).mono hb.size)⟩

theorem refTold_any (r : Int) (w : World) : Calls Try.prog 11 #[.int .i64 r] w fun e w' => e = .returned (.bool (toldB r)) ∧ w = w' := by
  by_cases c : 3 ≤ r
  · have c1 : decide (3 ≤ r) = true := by simpa using c
    have c2 : toldB r = decide (r ≤ 5) := by unfold toldB; simp [c]
    rw [c2]; clear c2 c
    go_enter Try.func11, Try.ntmps11
    go_wp2
    go_ret
    exact ⟨rfl, rfl⟩
  · have c1 : decide (3 ≤ r) = false := by simpa using c
    have c2 : toldB r = false := by unfold toldB; simp [c]
    rw [c2]; clear c2 c
    go_enter Try.func11, Try.ntmps11
    go_wp2
    go_ret
    exact ⟨rfl, rfl⟩

theorem refOver_any (o n : Int) (l : Bool) (w : World) : Calls Try.prog 9 #[.int .i64 o, .bool l, .int .i64 n] w fun e w' => e = .returned (.bool (overB o l n)) ∧ w = w' := by
  by_cases c : 1 ≤ n ∧ n ≤ 5
  · have c1 : decide (n < 1) = false := by simp; omega
    have c3 : decide (5 < n) = false := by simp; omega
    cases l
    · have c2 : overB o false n = true := by unfold overB; simp; omega
      rw [c2]; clear c2 c
      go_enter Try.func9, Try.ntmps9
      go_wp2
      go_ret
      exact ⟨rfl, rfl⟩
    · have c2 : overB o true n = decide (o ≤ n) := by unfold overB; simp [c]
      rw [c2]; clear c2 c
      go_enter Try.func9, Try.ntmps9
      go_wp2
      go_ret
      exact ⟨rfl, rfl⟩
  · have c2 : overB o l n = false := by unfold overB; simp; omega
    rw [c2]; clear c2
    by_cases c1 : n < 1
    · have c3 : decide (n < 1) = true := by simpa using c1
      clear c c1
      go_enter Try.func9, Try.ntmps9
      go_wp2
      go_ret
      exact ⟨rfl, rfl⟩
    · have c3 : decide (n < 1) = false := by simpa using c1
      have c4 : decide (5 < n) = true := by simp; omega
      clear c c1
      go_enter Try.func9, Try.ntmps9
      go_wp2
      go_ret
      exact ⟨rfl, rfl⟩

theorem refRank_any (s : Int) (aa : Bool) (w : World) : Calls Try.prog 7 #[.int .i64 s, .bool aa] w fun e w' => e = .returned (.int .i64 (rk s aa)) ∧ w = w' := by
  by_cases h3 : s = 0 ∨ s = 1 ∨ s = 2
  · rcases h3 with rfl | rfl | rfl
    all_goals
      cases aa
      all_goals
        go_enter Try.func7, Try.ntmps7
        go_wp2
        go_ret
        exact ⟨rfl, rfl⟩
  · have c0 : (s == 0) = false := by simp; omega
    have c1 : (s == 1) = false := by simp; omega
    have c2 : (s == 2) = false := by simp; omega
    have c3 : rk s aa = 0 := by unfold rk; rw [if_neg (by omega), if_neg (by omega), if_neg (by omega)]
    rw [c3]; clear c3 h3
    go_enter Try.func7, Try.ntmps7
    go_wp2
    go_ret
    exact ⟨rfl, rfl⟩

theorem live_any (w : World) : Calls Try.prog 12 #[] w fun e w' => e = .returned (.bool true) ∧ Below w.heap.size w w' := by
  have r0 : ∀ w : World, Calls Try.prog 6 #[.int .i64 0, .bool true] w fun e w' => e = .returned (.int .i64 5) ∧ Below w.heap.size w w' := rank_any 0 true
  have r1 : ∀ w : World, Calls Try.prog 6 #[.int .i64 1, .bool true] w fun e w' => e = .returned (.int .i64 4) ∧ Below w.heap.size w w' := rank_any 1 true
  have r2 : ∀ w : World, Calls Try.prog 6 #[.int .i64 0, .bool false] w fun e w' => e = .returned (.int .i64 3) ∧ Below w.heap.size w w' := rank_any 0 false
  have r3 : ∀ w : World, Calls Try.prog 6 #[.int .i64 2, .bool true] w fun e w' => e = .returned (.int .i64 2) ∧ Below w.heap.size w w' := rank_any 2 true
  have r4 : ∀ w : World, Calls Try.prog 6 #[.int .i64 2, .bool false] w fun e w' => e = .returned (.int .i64 1) ∧ Below w.heap.size w w' := rank_any 2 false
  have r5 : ∀ w : World, Calls Try.prog 6 #[.int .i64 1, .bool false] w fun e w' => e = .returned (.int .i64 1) ∧ Below w.heap.size w w' := rank_any 1 false
  have r6 : ∀ w : World, Calls Try.prog 6 #[.int .i64 3, .bool true] w fun e w' => e = .returned (.int .i64 0) ∧ Below w.heap.size w w' := rank_any 3 true
  have o0 : ∀ w : World, Calls Try.prog 8 #[.int .i64 5, .bool false, .int .i64 1] w fun e w' => e = .returned (.bool true) ∧ w = w' := over_any 5 1 false
  have o1 : ∀ w : World, Calls Try.prog 8 #[.int .i64 5, .bool true, .int .i64 4] w fun e w' => e = .returned (.bool false) ∧ w = w' := over_any 5 4 true
  have o2 : ∀ w : World, Calls Try.prog 8 #[.int .i64 3, .bool true, .int .i64 3] w fun e w' => e = .returned (.bool true) ∧ w = w' := over_any 3 3 true
  have o3 : ∀ w : World, Calls Try.prog 8 #[.int .i64 0, .bool false, .int .i64 6] w fun e w' => e = .returned (.bool false) ∧ w = w' := over_any 0 6 false
  have t0 : ∀ w : World, Calls Try.prog 10 #[.int .i64 3] w fun e w' => e = .returned (.bool true) ∧ w = w' := told_any 3
  have t1 : ∀ w : World, Calls Try.prog 10 #[.int .i64 2] w fun e w' => e = .returned (.bool false) ∧ w = w' := told_any 2
  have t2 : ∀ w : World, Calls Try.prog 10 #[.int .i64 6] w fun e w' => e = .returned (.bool false) ∧ w = w' := told_any 6
  go_enter Try.func12, Try.ntmps12
  go_wp2_with fail
  refine (r0 _).mono ?_
  rintro e w1 ⟨rfl, b1⟩
  go_wp2_with fail
  refine (r1 _).mono ?_
  rintro e w2 ⟨rfl, b2⟩
  go_wp2_with fail
  refine (r2 _).mono ?_
  rintro e w3 ⟨rfl, b3⟩
  go_wp2_with fail
  refine (r3 _).mono ?_
  rintro e w4 ⟨rfl, b4⟩
  go_wp2_with fail
  refine (r4 _).mono ?_
  rintro e w5 ⟨rfl, b5⟩
  go_wp2_with fail
  refine (r5 _).mono ?_
  rintro e w6 ⟨rfl, b6⟩
  go_wp2_with fail
  refine (r6 _).mono ?_
  rintro e w7 ⟨rfl, b7⟩
  go_wp2_with fail
  refine (o0 _).mono ?_
  rintro e w' ⟨rfl, rfl⟩
  go_wp2_with fail
  refine (o1 _).mono ?_
  rintro e w' ⟨rfl, rfl⟩
  go_wp2_with fail
  refine (o2 _).mono ?_
  rintro e w' ⟨rfl, rfl⟩
  go_wp2_with fail
  refine (o3 _).mono ?_
  rintro e w' ⟨rfl, rfl⟩
  go_wp2_with fail
  refine (t0 _).mono ?_
  rintro e w' ⟨rfl, rfl⟩
  go_wp2_with fail
  refine (t1 _).mono ?_
  rintro e w' ⟨rfl, rfl⟩
  go_wp2_with fail
  refine (t2 _).mono ?_
  rintro e w' ⟨rfl, rfl⟩
  go_wp2_with fail
  go_ret
  exact ⟨rfl, step _ _ _ (step _ _ _ (step _ _ _ (step _ _ _ (step _ _ _ (step _ _ _ b1 b2) b3) b4) b5) b6) b7⟩
end Rk
end Go.Proofs.Ytggpdlbffhoogaa
