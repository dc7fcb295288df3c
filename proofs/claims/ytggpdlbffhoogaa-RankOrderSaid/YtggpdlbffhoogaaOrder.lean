/- With authority nothing is believed less; of two ranks one takes the place of the other, and so through a third one: the law's function tells true at every three whole numbers; no condition. -/
import Derived.Test.YtggpdlbffhoogaaRows
import Derived.WalkKit
import Derived.ProofKit
import Derived.OpenShut
import Derived.ShutString
import Derived.ChangeOld
import Derived.Below
import Derived.SizedLaws
import Derived.Carry
import Derived.Test.YtggpdlbffhoogaaRk
import Derived.Outline
namespace Go.Proofs.Ytggpdlbffhoogaa.Order
open Go.ChangeShapes Go.WideShapes Go.ChangeAt Go.RowKit
open Go.ChangeMaps (open_string shut_string)
set_option linter.unusedVariables false
open Go.Proofs.Ytggpdlbffhoogaa.Rk


theorem ov {o n : Int} {l r : Bool} (h : overB o l n = r) (w : World) : Calls Try.prog 8 #[.int .i64 o, .bool l, .int .i64 n] w fun e w' => e = .returned (.bool r) ∧ w = w' := by
  rw [← h]; exact over_any o n l w
theorem rk_le (s : Int) : rk s false ≤ rk s true := by unfold rk; simp; (repeat' split) <;> omega

set_option maxHeartbeats 400000 in
theorem order_no1 (s a b : Int) (w : World) (h : a < 1) : Calls Try.prog 4 #[.int .i64 s, .int .i64 a, .int .i64 b] w fun e w' => e = .returned (.bool true) ∧ Below w.heap.size w w' := by
  have k0 : decide (rk s true < rk s false) = false := by have := rk_le s; simp; omega
  have c0 : decide (1 ≤ a) = false := by simp; omega
  clear h
  generalize hx : rk s true = x at *
  generalize hy : rk s false = y at *
  have R1 := fun w => rank_any s true w
  have R2 := fun w => rank_any s false w
  rw [hx] at R1
  rw [hy] at R2
  clear hx hy
  go_enter Try.func4, Try.ntmps4
  go_wp2_with fail
  refine (R1 _).mono ?_
  rintro e w1 ⟨rfl, b1⟩
  go_wp2_with fail
  refine (R2 _).mono ?_
  rintro e w2 ⟨rfl, b2⟩
  clear R1 R2
  go_wp2_with fail
  go_loop [8] (fun c => ∃ k : Int, 1 ≤ k ∧ k ≤ 6 ∧ c = .int .i64 k) (fun c => (6 - intOf c).toNat)
  case atStart => exact ⟨1, by omega, by omega, rfl⟩
  case round =>
    obtain ⟨k, hk1, hk2, rfl⟩ := hrel
    by_cases h6 : k ≤ 5
    · have c9 : decide (k ≤ 5) = true := by simpa using h6
      go_wp2_with fail
      refine (live_any _).mono ?_
      rintro e w3 ⟨rfl, b3⟩
      go_wp2_with fail
      go_ret
      exact ⟨rfl, Rk.step _ _ _ (Rk.step _ _ _ b1 b2) b3⟩
    · have c9 : decide (k ≤ 5) = false := by simpa using h6
      go_wp2_with fail
      refine (live_any _).mono ?_
      rintro e w3 ⟨rfl, b3⟩
      go_wp2_with fail
      go_ret
      exact ⟨rfl, Rk.step _ _ _ (Rk.step _ _ _ b1 b2) b3⟩

set_option maxHeartbeats 400000 in
theorem order_no2 (s a b : Int) (w : World) (h : 5 < a)  : Calls Try.prog 4 #[.int .i64 s, .int .i64 a, .int .i64 b] w fun e w' => e = .returned (.bool true) ∧ Below w.heap.size w w' := by
  have k0 : decide (rk s true < rk s false) = false := by have := rk_le s; simp; omega
  have c0 : decide (1 ≤ a) = true := by simp; omega
  have c1 : decide (a ≤ 5) = false := by simp; omega
  clear h
  generalize hx : rk s true = x at *
  generalize hy : rk s false = y at *
  have R1 := fun w => rank_any s true w
  have R2 := fun w => rank_any s false w
  rw [hx] at R1
  rw [hy] at R2
  clear hx hy
  go_enter Try.func4, Try.ntmps4
  go_wp2_with fail
  refine (R1 _).mono ?_
  rintro e w1 ⟨rfl, b1⟩
  go_wp2_with fail
  refine (R2 _).mono ?_
  rintro e w2 ⟨rfl, b2⟩
  clear R1 R2
  go_wp2_with fail
  go_loop [8] (fun c => ∃ k : Int, 1 ≤ k ∧ k ≤ 6 ∧ c = .int .i64 k) (fun c => (6 - intOf c).toNat)
  case atStart => exact ⟨1, by omega, by omega, rfl⟩
  case round =>
    obtain ⟨k, hk1, hk2, rfl⟩ := hrel
    by_cases h6 : k ≤ 5
    · have c9 : decide (k ≤ 5) = true := by simpa using h6
      go_wp2_with fail
      refine (live_any _).mono ?_
      rintro e w3 ⟨rfl, b3⟩
      go_wp2_with fail
      go_ret
      exact ⟨rfl, Rk.step _ _ _ (Rk.step _ _ _ b1 b2) b3⟩
    · have c9 : decide (k ≤ 5) = false := by simpa using h6
      go_wp2_with fail
      refine (live_any _).mono ?_
      rintro e w3 ⟨rfl, b3⟩
      go_wp2_with fail
      go_ret
      exact ⟨rfl, Rk.step _ _ _ (Rk.step _ _ _ b1 b2) b3⟩

set_option maxHeartbeats 400000 in
theorem order_no3 (s a b : Int) (w : World) (h : 1 ≤ a ∧ a ≤ 5 ∧ b < 1) : Calls Try.prog 4 #[.int .i64 s, .int .i64 a, .int .i64 b] w fun e w' => e = .returned (.bool true) ∧ Below w.heap.size w w' := by
  have k0 : decide (rk s true < rk s false) = false := by have := rk_le s; simp; omega
  have c0 : decide (1 ≤ a) = true := by simp; omega
  have c1 : decide (a ≤ 5) = true := by simp; omega
  have c2 : decide (1 ≤ b) = false := by simp; omega
  clear h
  generalize hx : rk s true = x at *
  generalize hy : rk s false = y at *
  have R1 := fun w => rank_any s true w
  have R2 := fun w => rank_any s false w
  rw [hx] at R1
  rw [hy] at R2
  clear hx hy
  go_enter Try.func4, Try.ntmps4
  go_wp2_with fail
  refine (R1 _).mono ?_
  rintro e w1 ⟨rfl, b1⟩
  go_wp2_with fail
  refine (R2 _).mono ?_
  rintro e w2 ⟨rfl, b2⟩
  clear R1 R2
  go_wp2_with fail
  go_loop [8] (fun c => ∃ k : Int, 1 ≤ k ∧ k ≤ 6 ∧ c = .int .i64 k) (fun c => (6 - intOf c).toNat)
  case atStart => exact ⟨1, by omega, by omega, rfl⟩
  case round =>
    obtain ⟨k, hk1, hk2, rfl⟩ := hrel
    by_cases h6 : k ≤ 5
    · have c9 : decide (k ≤ 5) = true := by simpa using h6
      go_wp2_with fail
      refine (live_any _).mono ?_
      rintro e w3 ⟨rfl, b3⟩
      go_wp2_with fail
      go_ret
      exact ⟨rfl, Rk.step _ _ _ (Rk.step _ _ _ b1 b2) b3⟩
    · have c9 : decide (k ≤ 5) = false := by simpa using h6
      go_wp2_with fail
      refine (live_any _).mono ?_
      rintro e w3 ⟨rfl, b3⟩
      go_wp2_with fail
      go_ret
      exact ⟨rfl, Rk.step _ _ _ (Rk.step _ _ _ b1 b2) b3⟩

set_option maxHeartbeats 400000 in
theorem order_no4 (s a b : Int) (w : World) (h : 1 ≤ a ∧ a ≤ 5 ∧ 5 < b) : Calls Try.prog 4 #[.int .i64 s, .int .i64 a, .int .i64 b] w fun e w' => e = .returned (.bool true) ∧ Below w.heap.size w w' := by
  have k0 : decide (rk s true < rk s false) = false := by have := rk_le s; simp; omega
  have c0 : decide (1 ≤ a) = true := by simp; omega
  have c1 : decide (a ≤ 5) = true := by simp; omega
  have c2 : decide (1 ≤ b) = true := by simp; omega
  have c3 : decide (b ≤ 5) = false := by simp; omega
  clear h
  generalize hx : rk s true = x at *
  generalize hy : rk s false = y at *
  have R1 := fun w => rank_any s true w
  have R2 := fun w => rank_any s false w
  rw [hx] at R1
  rw [hy] at R2
  clear hx hy
  go_enter Try.func4, Try.ntmps4
  go_wp2_with fail
  refine (R1 _).mono ?_
  rintro e w1 ⟨rfl, b1⟩
  go_wp2_with fail
  refine (R2 _).mono ?_
  rintro e w2 ⟨rfl, b2⟩
  clear R1 R2
  go_wp2_with fail
  go_loop [8] (fun c => ∃ k : Int, 1 ≤ k ∧ k ≤ 6 ∧ c = .int .i64 k) (fun c => (6 - intOf c).toNat)
  case atStart => exact ⟨1, by omega, by omega, rfl⟩
  case round =>
    obtain ⟨k, hk1, hk2, rfl⟩ := hrel
    by_cases h6 : k ≤ 5
    · have c9 : decide (k ≤ 5) = true := by simpa using h6
      go_wp2_with fail
      refine (live_any _).mono ?_
      rintro e w3 ⟨rfl, b3⟩
      go_wp2_with fail
      go_ret
      exact ⟨rfl, Rk.step _ _ _ (Rk.step _ _ _ b1 b2) b3⟩
    · have c9 : decide (k ≤ 5) = false := by simpa using h6
      go_wp2_with fail
      refine (live_any _).mono ?_
      rintro e w3 ⟨rfl, b3⟩
      go_wp2_with fail
      go_ret
      exact ⟨rfl, Rk.step _ _ _ (Rk.step _ _ _ b1 b2) b3⟩

set_option maxHeartbeats 400000 in
theorem order_le (s a b : Int) (w : World) (h : 1 ≤ a ∧ a ≤ 5 ∧ 1 ≤ b ∧ b ≤ 5) (hab : a ≤ b ∧ b ≤ a) : Calls Try.prog 4 #[.int .i64 s, .int .i64 a, .int .i64 b] w fun e w' => e = .returned (.bool true) ∧ Below w.heap.size w w' := by
  have k0 : decide (rk s true < rk s false) = false := by have := rk_le s; simp; omega
  have c0 : decide (1 ≤ a) = true := by simp; omega
  have c1 : decide (a ≤ 5) = true := by simp; omega
  have c2 : decide (1 ≤ b) = true := by simp; omega
  have c3 : decide (b ≤ 5) = true := by simp; omega
  have O0 := ov (o := a) (n := b) (l := true) (r := true) (by unfold overB; simp; omega)
  have O2 := ov (o := b) (n := a) (l := true) (r := true) (by unfold overB; simp; omega)
  have O4 := ov (o := a) (n := b) (l := false) (r := true) (by unfold overB; simp; omega)
  generalize hx : rk s true = x at *
  generalize hy : rk s false = y at *
  have R1 := fun w => rank_any s true w
  have R2 := fun w => rank_any s false w
  rw [hx] at R1
  rw [hy] at R2
  clear hx hy
  go_enter Try.func4, Try.ntmps4
  go_wp2_with fail
  refine (R1 _).mono ?_
  rintro e w1 ⟨rfl, b1⟩
  go_wp2_with fail
  refine (R2 _).mono ?_
  rintro e w2 ⟨rfl, b2⟩
  clear R1 R2
  go_wp2_with fail
  refine (O0 _).mono ?_
  rintro e w' ⟨rfl, rfl⟩
  go_wp2_with fail
  go_loop [8] (fun c => ∃ k : Int, 1 ≤ k ∧ k ≤ 6 ∧ c = .int .i64 k) (fun c => (6 - intOf c).toNat)
  case atStart => exact ⟨1, by omega, by omega, rfl⟩
  case round =>
    obtain ⟨k, hk1, hk2, rfl⟩ := hrel
    by_cases h6 : k ≤ 5
    · have c9 : decide (k ≤ 5) = true := by simpa using h6
      by_cases h7 : k ≤ b
      · have O1 := ov (o := k) (n := b) (l := true) (r := true) (by unfold overB; simp; omega)
        have O3 := ov (o := k) (n := a) (l := true) (r := true) (by unfold overB; simp; omega)
        clear hab h h7
        go_wp2_with fail
        refine (O1 _).mono ?_
        rintro e w' ⟨rfl, rfl⟩
        go_wp2_with fail
        refine (O2 _).mono ?_
        rintro e w' ⟨rfl, rfl⟩
        go_wp2_with fail
        refine (O3 _).mono ?_
        rintro e w' ⟨rfl, rfl⟩
        go_wp2_with fail
        go_round
        case rel => exact ⟨k + 1, by omega, by omega, rfl⟩
        case measure => simp [intOf]; omega
      · have O1 := ov (o := k) (n := b) (l := true) (r := false) (by unfold overB; simp; omega)
        clear hab h h7
        go_wp2_with fail
        refine (O1 _).mono ?_
        rintro e w' ⟨rfl, rfl⟩
        go_wp2_with fail
        go_round
        case rel => exact ⟨k + 1, by omega, by omega, rfl⟩
        case measure => simp [intOf]; omega
    · have c9 : decide (k ≤ 5) = false := by simpa using h6
      clear hab h
      go_wp2_with fail
      refine (O4 _).mono ?_
      rintro e w' ⟨rfl, rfl⟩
      go_wp2_with fail
      refine (live_any _).mono ?_
      rintro e w3 ⟨rfl, b3⟩
      go_wp2_with fail
      go_ret
      exact ⟨rfl, Rk.step _ _ _ (Rk.step _ _ _ b1 b2) b3⟩

set_option maxHeartbeats 400000 in
theorem order_lt (s a b : Int) (w : World) (h : 1 ≤ a ∧ a ≤ 5 ∧ 1 ≤ b ∧ b ≤ 5) (hab : a ≤ b ∧ ¬ b ≤ a) : Calls Try.prog 4 #[.int .i64 s, .int .i64 a, .int .i64 b] w fun e w' => e = .returned (.bool true) ∧ Below w.heap.size w w' := by
  have k0 : decide (rk s true < rk s false) = false := by have := rk_le s; simp; omega
  have c0 : decide (1 ≤ a) = true := by simp; omega
  have c1 : decide (a ≤ 5) = true := by simp; omega
  have c2 : decide (1 ≤ b) = true := by simp; omega
  have c3 : decide (b ≤ 5) = true := by simp; omega
  have O0 := ov (o := a) (n := b) (l := true) (r := true) (by unfold overB; simp; omega)
  have O2 := ov (o := b) (n := a) (l := true) (r := false) (by unfold overB; simp; omega)
  have O4 := ov (o := a) (n := b) (l := false) (r := true) (by unfold overB; simp; omega)
  generalize hx : rk s true = x at *
  generalize hy : rk s false = y at *
  have R1 := fun w => rank_any s true w
  have R2 := fun w => rank_any s false w
  rw [hx] at R1
  rw [hy] at R2
  clear hx hy
  go_enter Try.func4, Try.ntmps4
  go_wp2_with fail
  refine (R1 _).mono ?_
  rintro e w1 ⟨rfl, b1⟩
  go_wp2_with fail
  refine (R2 _).mono ?_
  rintro e w2 ⟨rfl, b2⟩
  clear R1 R2
  go_wp2_with fail
  refine (O0 _).mono ?_
  rintro e w' ⟨rfl, rfl⟩
  go_wp2_with fail
  go_loop [8] (fun c => ∃ k : Int, 1 ≤ k ∧ k ≤ 6 ∧ c = .int .i64 k) (fun c => (6 - intOf c).toNat)
  case atStart => exact ⟨1, by omega, by omega, rfl⟩
  case round =>
    obtain ⟨k, hk1, hk2, rfl⟩ := hrel
    by_cases h6 : k ≤ 5
    · have c9 : decide (k ≤ 5) = true := by simpa using h6
      by_cases h7 : k ≤ b
      · have O1 := ov (o := k) (n := b) (l := true) (r := true) (by unfold overB; simp; omega)
        clear hab h h7
        go_wp2_with fail
        refine (O1 _).mono ?_
        rintro e w' ⟨rfl, rfl⟩
        go_wp2_with fail
        refine (O2 _).mono ?_
        rintro e w' ⟨rfl, rfl⟩
        go_wp2_with fail
        go_round
        case rel => exact ⟨k + 1, by omega, by omega, rfl⟩
        case measure => simp [intOf]; omega
      · have O1 := ov (o := k) (n := b) (l := true) (r := false) (by unfold overB; simp; omega)
        clear hab h h7
        go_wp2_with fail
        refine (O1 _).mono ?_
        rintro e w' ⟨rfl, rfl⟩
        go_wp2_with fail
        go_round
        case rel => exact ⟨k + 1, by omega, by omega, rfl⟩
        case measure => simp [intOf]; omega
    · have c9 : decide (k ≤ 5) = false := by simpa using h6
      clear hab h
      go_wp2_with fail
      refine (O4 _).mono ?_
      rintro e w' ⟨rfl, rfl⟩
      go_wp2_with fail
      refine (live_any _).mono ?_
      rintro e w3 ⟨rfl, b3⟩
      go_wp2_with fail
      go_ret
      exact ⟨rfl, Rk.step _ _ _ (Rk.step _ _ _ b1 b2) b3⟩

set_option maxHeartbeats 400000 in
theorem order_gt (s a b : Int) (w : World) (h : 1 ≤ a ∧ a ≤ 5 ∧ 1 ≤ b ∧ b ≤ 5) (hab : ¬ a ≤ b ∧ b ≤ a) : Calls Try.prog 4 #[.int .i64 s, .int .i64 a, .int .i64 b] w fun e w' => e = .returned (.bool true) ∧ Below w.heap.size w w' := by
  have k0 : decide (rk s true < rk s false) = false := by have := rk_le s; simp; omega
  have c0 : decide (1 ≤ a) = true := by simp; omega
  have c1 : decide (a ≤ 5) = true := by simp; omega
  have c2 : decide (1 ≤ b) = true := by simp; omega
  have c3 : decide (b ≤ 5) = true := by simp; omega
  have O0 := ov (o := a) (n := b) (l := true) (r := false) (by unfold overB; simp; omega)
  have O2 := ov (o := b) (n := a) (l := true) (r := true) (by unfold overB; simp; omega)
  have O4 := ov (o := a) (n := b) (l := false) (r := true) (by unfold overB; simp; omega)
  generalize hx : rk s true = x at *
  generalize hy : rk s false = y at *
  have R1 := fun w => rank_any s true w
  have R2 := fun w => rank_any s false w
  rw [hx] at R1
  rw [hy] at R2
  clear hx hy
  go_enter Try.func4, Try.ntmps4
  go_wp2_with fail
  refine (R1 _).mono ?_
  rintro e w1 ⟨rfl, b1⟩
  go_wp2_with fail
  refine (R2 _).mono ?_
  rintro e w2 ⟨rfl, b2⟩
  clear R1 R2
  go_wp2_with fail
  refine (O0 _).mono ?_
  rintro e w' ⟨rfl, rfl⟩
  go_wp2_with fail
  refine (O2 _).mono ?_
  rintro e w' ⟨rfl, rfl⟩
  go_wp2_with fail
  go_loop [8] (fun c => ∃ k : Int, 1 ≤ k ∧ k ≤ 6 ∧ c = .int .i64 k) (fun c => (6 - intOf c).toNat)
  case atStart => exact ⟨1, by omega, by omega, rfl⟩
  case round =>
    obtain ⟨k, hk1, hk2, rfl⟩ := hrel
    by_cases h6 : k ≤ 5
    · have c9 : decide (k ≤ 5) = true := by simpa using h6
      by_cases h7 : k ≤ b
      · have O1 := ov (o := k) (n := b) (l := true) (r := true) (by unfold overB; simp; omega)
        have O3 := ov (o := k) (n := a) (l := true) (r := true) (by unfold overB; simp; omega)
        clear hab h h7
        go_wp2_with fail
        refine (O1 _).mono ?_
        rintro e w' ⟨rfl, rfl⟩
        go_wp2_with fail
        refine (O2 _).mono ?_
        rintro e w' ⟨rfl, rfl⟩
        go_wp2_with fail
        refine (O3 _).mono ?_
        rintro e w' ⟨rfl, rfl⟩
        go_wp2_with fail
        go_round
        case rel => exact ⟨k + 1, by omega, by omega, rfl⟩
        case measure => simp [intOf]; omega
      · have O1 := ov (o := k) (n := b) (l := true) (r := false) (by unfold overB; simp; omega)
        clear hab h h7
        go_wp2_with fail
        refine (O1 _).mono ?_
        rintro e w' ⟨rfl, rfl⟩
        go_wp2_with fail
        go_round
        case rel => exact ⟨k + 1, by omega, by omega, rfl⟩
        case measure => simp [intOf]; omega
    · have c9 : decide (k ≤ 5) = false := by simpa using h6
      clear hab h
      go_wp2_with fail
      refine (O4 _).mono ?_
      rintro e w' ⟨rfl, rfl⟩
      go_wp2_with fail
      refine (live_any _).mono ?_
      rintro e w3 ⟨rfl, b3⟩
      go_wp2_with fail
      go_ret
      exact ⟨rfl, Rk.step _ _ _ (Rk.step _ _ _ b1 b2) b3⟩

theorem order_any (s a b : Int) (w : World) : Calls Try.prog 4 #[.int .i64 s, .int .i64 a, .int .i64 b] w fun e w' => e = .returned (.bool true) ∧ Below w.heap.size w w' := by
  by_cases h1 : a < 1
  · exact order_no1 s a b w h1
  by_cases h2 : 5 < a
  · exact order_no2 s a b w h2
  by_cases h3 : b < 1
  · exact order_no3 s a b w (by omega)
  by_cases h4 : 5 < b
  · exact order_no4 s a b w (by omega)
  by_cases h5 : a ≤ b
  · by_cases h6 : b ≤ a
    · exact order_le s a b w (by omega) ⟨h5, h6⟩
    · exact order_lt s a b w (by omega) ⟨h5, h6⟩
  · exact order_gt s a b w (by omega) ⟨h5, by omega⟩

theorem own : ownKnob Try.prog.godebug = none := by kernel_rfl
theorem laidOut : laidOutB Try.prog = true := by kernel_rfl
set_option maxRecDepth 100000 in
theorem lifted (os : Os) (started : os.Started) (H : Type) (enc : TypeId × Value → H) :
    ReturnsInHanded {} Try.checked os 4 .any (Rows.rankOrderSpec.pre6 enc Try.prog Try.f4 Rows.rankOrderRow.domain false) (Rows.rankOrderSpec.post enc Try.prog Try.f4 false true false false) := by
  refine returnsInHanded_of_change_sized (C := Try.checked) own started (by kernel_rfl) Try.func4
    (ChangeSpec.witness6 (enc := enc) (C := Try.checked) false ⟨#[], #[.int .i64 0, .int .i64 0, .int .i64 0], []⟩ 8 (by kernel_rfl) (by kernel_rfl) (by kernel_rfl) (by kernel_rfl)) ?_
  intro W base args ds gs before hval0 hW hcnd hsz0 _
  have hsz : (DataW.weightsEach Try.prog (Try.f4.params.toList ++ Rows.rankOrderSpec.plain.varTypes Try.prog) (ds ++ gs)).all (· ≤ reachBytes) = true := hsz0
  have hval : ∀ (j : Nat) t v, Try.f4.params[j]? = some t → args[j]? = some v → Value.okWide Try.prog W .any base t v := hval0
  have hW' := hW
  obtain ⟨p, q, hA0, hV, rfl, hfz, hnd⟩ := hW
  have hA : DataW.TrodAll enc Try.prog W 0 (fun _ => true) true Try.f4.params.toList args.toList ds p := hA0
  rw [Try.params4] at hA hval hsz
  obtain ⟨v0, vs0, d0, ds0, p0, q0, hargs, rfl, rfl, h0, r0⟩ := trodAll_cons hA
  obtain ⟨v1, vs1, d1, ds1, p1, q1, rfl, rfl, rfl, h1, r1⟩ := trodAll_cons r0
  obtain ⟨v2, vs2, d2, ds2, p2, q2, rfl, rfl, rfl, h2, r2⟩ := trodAll_cons r1
  obtain ⟨rfl, rfl, rfl⟩ := trodAll_nil r2
  obtain rfl : args = #[v0, v1, v2] := by cases args; simp_all
  obtain ⟨rfl, rfl⟩ := trodVars_none hV
  obtain ⟨a0, rfl, rfl, rfl, w0⟩ := open_int Try.underlying3 (hval 0 3 v0 rfl rfl) h0
  obtain ⟨a1, rfl, rfl, rfl, w1⟩ := open_int Try.underlying3 (hval 1 3 v1 rfl rfl) h1
  obtain ⟨a2, rfl, rfl, rfl, w2⟩ := open_int Try.underlying3 (hval 2 3 v2 rfl rfl) h2
  refine (order_any a0 a1 a2 W).mono fun e W' ⟨he, bel⟩ => ?_
  subst he
  exact ⟨_, rfl, _, _, _, [], _, [], hW', trodAll_mk1 (shut_bool Try.underlying4 _), (trodAll_cons_mk (shut_int Try.underlying3 w0) (trodAll_cons_mk (shut_int Try.underlying3 w1) (trodAll_cons_mk (shut_int Try.underlying3 w2) trodAll_mk0))), rfl, bel.frame _, fun h => by cases h⟩
theorem over : Rows.rankOrderRow.holds Try.pinned (OpenSpec.ofChange Rows.rankOrderSpec) :=
  OpenClaim.holds_of_wide 4 Try.f4 rfl rfl rfl rfl rfl rfl rfl ⟨rfl, rfl, rfl, rfl, rfl⟩ rfl rfl rfl rfl rfl (by kernel_rfl) Try.func4 (by kernel_rfl)
    (of_decide_eq_true (by kernel_rfl)) (by unfold Func.isWrapper; first | (rw [if_pos (by decide +kernel)]; kernel_rfl) | (rw [if_neg (by decide +kernel)]; exact ⟨rfl, rfl⟩))
    (fun os started H enc _ => lifted os started H enc)
theorem proved : Rows.RankOrderSaid := over

end Go.Proofs.Ytggpdlbffhoogaa.Order
namespace Go.Proofs.Ytggpdlbffhoogaa
/-- The row, under a short name, for the claim. -/
theorem rankOrder_holds : Rows.RankOrderSaid := Order.proved
end Go.Proofs.Ytggpdlbffhoogaa
