/- The contracts of the reference of package flag: a power of two, a place. -/
import Derived.Test.YtpekoponfahliaaFq
import Derived.Test.YtpekoponfahliaaFv
import Derived.WalkKit
import Derived.Below
import Derived.KernelRfl
import Derived.Outline
import Derived.LoopTactic
import Derived.Deep.RegionHeld3
import Derived.Lib.Hide
namespace Go.Proofs.Ytpekoponfahliaa.Fr
open Go.RowKit Go.Proofs.Ytpekoponfahliaa.Fb Go.Proofs.Ytpekoponfahliaa.Fl Go.Proofs.Ytpekoponfahliaa.Fm Go.Proofs.Ytpekoponfahliaa.Fp Go.Proofs.Ytpekoponfahliaa.Fq
set_option linter.unusedVariables false

def pw (k : Nat) : Int := ((2 ^ k : Nat) : Int)
theorem pw_bd (k : Nat) (h : k ≤ 16) : 1 ≤ pw k ∧ pw k ≤ 65536 := by
  unfold pw
  have h1 : 2 ^ k ≤ 2 ^ 16 := Nat.pow_le_pow_right (by decide) h
  have h2 : 0 < 2 ^ k := Nat.two_pow_pos k
  omega
theorem pw_succ (k : Nat) : pw (k + 1) = 2 * pw k := by unfold pw; rw [Nat.pow_succ]; omega
theorem power_any (n : Nat) (h : n ≤ 16) (w : World) : Calls Try.prog 19 #[.int .i64 (n : Int)] w fun e w' => e = .returned (.int .i64 (pw n)) ∧ w = w' := by
  go_enter Try.func19, Try.ntmps19
  go_wp2
  go_loop [3, 4] (fun p i => ∃ k : Nat, k ≤ n ∧ i = .int .i64 (k : Int) ∧ p = .int .i64 (pw k)) (fun _ i => n - (intOf i).toNat)
  case atStart => exact ⟨0, Nat.zero_le _, rfl, rfl⟩
  case round =>
    obtain ⟨k, hk, rfl, rfl⟩ := hrel
    obtain ⟨p1, p2⟩ := pw_bd k (by omega)
    have HS := Lib.hid (pw_succ k)
    generalize hp : pw k = p at *
    have HP := Lib.hid hp
    clear hp
    by_cases hlt : k < n
    · go_wp2
      go_round
      case rel => exact ⟨k + 1, by omega, by go_num, by rw [HS.out]⟩
      case measure => simp [intOf]; omega
    · obtain rfl : k = n := by omega
      go_wp2
      go_ret
      exact ⟨by rw [HP.out]; rfl, rfl⟩

def tabS : Array Value := #[.int .i64 15, .int .i64 1, .int .i64 11, .int .i64 4, .int .i64 10, .int .i64 1, .int .i64 9, .int .i64 1, .int .i64 8, .int .i64 1, .int .i64 7, .int .i64 1, .int .i64 5, .int .i64 1, .int .i64 4, .int .i64 1, .int .i64 0, .int .i64 4]
theorem bs (w : World) : (Instr.buildSlice 42 9 #[(0, .agg #[.int .i64 15, .int .i64 1]), (1, .agg #[.int .i64 11, .int .i64 4]), (2, .agg #[.int .i64 10, .int .i64 1]), (3, .agg #[.int .i64 9, .int .i64 1]), (4, .agg #[.int .i64 8, .int .i64 1]), (5, .agg #[.int .i64 7, .int .i64 1]), (6, .agg #[.int .i64 5, .int .i64 1]), (7, .agg #[.int .i64 4, .int .i64 1]), (8, .agg #[.int .i64 0, .int .i64 4])]).run Try.prog w = .ok (.slice (some ⟨w.heap.size, 0, none⟩) 9 9) (w.alloc (.cells tabS 31)) := by kernel_rfl


theorem place_0 (w : World) : Calls Try.prog 18 #[.int .i64 0] w fun e w' => e = .returned (.agg #[.int .i64 15, .int .i64 1]) ∧ Below w.heap.size w w' := by
  have hb := bs
  have t0 : tabS[0]? = some (.int .i64 15) := rfl
  have t1 : tabS[1]? = some (.int .i64 1) := rfl
  go_enter Try.func18, Try.ntmps18
  go_wp2
  exact bodyPost_ret (v := .agg #[.int .i64 15, .int .i64 1]) (by simp [results, Try.results18, go_sem]) rfl ⟨rfl, ((Below.refl _ _).alloc (Nat.le_refl _) _).alloc (by simp) _⟩

theorem place_1 (w : World) : Calls Try.prog 18 #[.int .i64 1] w fun e w' => e = .returned (.agg #[.int .i64 11, .int .i64 4]) ∧ Below w.heap.size w w' := by
  have hb := bs
  have t0 : tabS[2]? = some (.int .i64 11) := rfl
  have t1 : tabS[3]? = some (.int .i64 4) := rfl
  go_enter Try.func18, Try.ntmps18
  go_wp2
  exact bodyPost_ret (v := .agg #[.int .i64 11, .int .i64 4]) (by simp [results, Try.results18, go_sem]) rfl ⟨rfl, ((Below.refl _ _).alloc (Nat.le_refl _) _).alloc (by simp) _⟩

theorem place_2 (w : World) : Calls Try.prog 18 #[.int .i64 2] w fun e w' => e = .returned (.agg #[.int .i64 10, .int .i64 1]) ∧ Below w.heap.size w w' := by
  have hb := bs
  have t0 : tabS[4]? = some (.int .i64 10) := rfl
  have t1 : tabS[5]? = some (.int .i64 1) := rfl
  go_enter Try.func18, Try.ntmps18
  go_wp2
  exact bodyPost_ret (v := .agg #[.int .i64 10, .int .i64 1]) (by simp [results, Try.results18, go_sem]) rfl ⟨rfl, ((Below.refl _ _).alloc (Nat.le_refl _) _).alloc (by simp) _⟩

theorem place_3 (w : World) : Calls Try.prog 18 #[.int .i64 3] w fun e w' => e = .returned (.agg #[.int .i64 9, .int .i64 1]) ∧ Below w.heap.size w w' := by
  have hb := bs
  have t0 : tabS[6]? = some (.int .i64 9) := rfl
  have t1 : tabS[7]? = some (.int .i64 1) := rfl
  go_enter Try.func18, Try.ntmps18
  go_wp2
  exact bodyPost_ret (v := .agg #[.int .i64 9, .int .i64 1]) (by simp [results, Try.results18, go_sem]) rfl ⟨rfl, ((Below.refl _ _).alloc (Nat.le_refl _) _).alloc (by simp) _⟩

theorem place_4 (w : World) : Calls Try.prog 18 #[.int .i64 4] w fun e w' => e = .returned (.agg #[.int .i64 8, .int .i64 1]) ∧ Below w.heap.size w w' := by
  have hb := bs
  have t0 : tabS[8]? = some (.int .i64 8) := rfl
  have t1 : tabS[9]? = some (.int .i64 1) := rfl
  go_enter Try.func18, Try.ntmps18
  go_wp2
  exact bodyPost_ret (v := .agg #[.int .i64 8, .int .i64 1]) (by simp [results, Try.results18, go_sem]) rfl ⟨rfl, ((Below.refl _ _).alloc (Nat.le_refl _) _).alloc (by simp) _⟩

theorem place_5 (w : World) : Calls Try.prog 18 #[.int .i64 5] w fun e w' => e = .returned (.agg #[.int .i64 7, .int .i64 1]) ∧ Below w.heap.size w w' := by
  have hb := bs
  have t0 : tabS[10]? = some (.int .i64 7) := rfl
  have t1 : tabS[11]? = some (.int .i64 1) := rfl
  go_enter Try.func18, Try.ntmps18
  go_wp2
  exact bodyPost_ret (v := .agg #[.int .i64 7, .int .i64 1]) (by simp [results, Try.results18, go_sem]) rfl ⟨rfl, ((Below.refl _ _).alloc (Nat.le_refl _) _).alloc (by simp) _⟩

theorem place_6 (w : World) : Calls Try.prog 18 #[.int .i64 6] w fun e w' => e = .returned (.agg #[.int .i64 5, .int .i64 1]) ∧ Below w.heap.size w w' := by
  have hb := bs
  have t0 : tabS[12]? = some (.int .i64 5) := rfl
  have t1 : tabS[13]? = some (.int .i64 1) := rfl
  go_enter Try.func18, Try.ntmps18
  go_wp2
  exact bodyPost_ret (v := .agg #[.int .i64 5, .int .i64 1]) (by simp [results, Try.results18, go_sem]) rfl ⟨rfl, ((Below.refl _ _).alloc (Nat.le_refl _) _).alloc (by simp) _⟩

theorem place_7 (w : World) : Calls Try.prog 18 #[.int .i64 7] w fun e w' => e = .returned (.agg #[.int .i64 4, .int .i64 1]) ∧ Below w.heap.size w w' := by
  have hb := bs
  have t0 : tabS[14]? = some (.int .i64 4) := rfl
  have t1 : tabS[15]? = some (.int .i64 1) := rfl
  go_enter Try.func18, Try.ntmps18
  go_wp2
  exact bodyPost_ret (v := .agg #[.int .i64 4, .int .i64 1]) (by simp [results, Try.results18, go_sem]) rfl ⟨rfl, ((Below.refl _ _).alloc (Nat.le_refl _) _).alloc (by simp) _⟩

theorem place_8 (w : World) : Calls Try.prog 18 #[.int .i64 8] w fun e w' => e = .returned (.agg #[.int .i64 0, .int .i64 4]) ∧ Below w.heap.size w w' := by
  have hb := bs
  have t0 : tabS[16]? = some (.int .i64 0) := rfl
  have t1 : tabS[17]? = some (.int .i64 4) := rfl
  go_enter Try.func18, Try.ntmps18
  go_wp2
  exact bodyPost_ret (v := .agg #[.int .i64 0, .int .i64 4]) (by simp [results, Try.results18, go_sem]) rfl ⟨rfl, ((Below.refl _ _).alloc (Nat.le_refl _) _).alloc (by simp) _⟩

theorem place_out (f : Int) (h : f < 0 ∨ 8 < f) (w : World) : Calls Try.prog 18 #[.int .i64 f] w fun e w' => e = .returned (.agg #[.int .i64 0, .int .i64 0]) ∧ Below w.heap.size w w' := by
  have hb := bs
  have hz : ∀ w : World, (Instr.build 31 #[]).run Try.prog w = .ok (.agg #[.int .i64 0, .int .i64 0]) w := fun w => by kernel_rfl
  by_cases c : f < 0
  · have c1 : decide (f < 0) = true := by simpa using c
    clear c h
    go_enter Try.func18, Try.ntmps18
    go_wp2
    exact bodyPost_ret (v := .agg #[.int .i64 0, .int .i64 0]) (by simp [results, Try.results18, go_sem]) rfl ⟨rfl, ((Below.refl _ _).alloc (Nat.le_refl _) _).alloc (by simp) _⟩
  · have c1 : decide (f < 0) = false := by simpa using c
    have c2 : decide (8 < f) = true := by simp; omega
    clear c h
    go_enter Try.func18, Try.ntmps18
    go_wp2
    exact bodyPost_ret (v := .agg #[.int .i64 0, .int .i64 0]) (by simp [results, Try.results18, go_sem]) rfl ⟨rfl, ((Below.refl _ _).alloc (Nat.le_refl _) _).alloc (by simp) _⟩


end Go.Proofs.Ytpekoponfahliaa.Fr
