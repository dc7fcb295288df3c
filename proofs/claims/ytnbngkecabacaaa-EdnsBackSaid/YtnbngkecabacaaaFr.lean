/- The contracts of the reference's field Rcode: a power of two, a place, Of and With. -/
import Derived.Test.YtnbngkecabacaaaFl
import Derived.WalkKit
import Derived.Below
import Derived.KernelRfl
import Derived.LoopTactic
import Derived.Deep.RegionHeld3
import Derived.Lib.Hide
namespace Go.Proofs.Ytnbngkecabacaaa.Fr
open Go.RowKit Go.Proofs.Ytnbngkecabacaaa.Fb Go.Proofs.Ytnbngkecabacaaa.Fl
set_option linter.unusedVariables false
def pw (k : Nat) : Int := ((2 ^ k : Nat) : Int)
theorem pw_bd (k : Nat) (h : k ≤ 16) : 1 ≤ pw k ∧ pw k ≤ 65536 := by
  unfold pw
  have h1 : 2 ^ k ≤ 2 ^ 16 := Nat.pow_le_pow_right (by decide) h
  have h2 : 0 < 2 ^ k := Nat.two_pow_pos k
  omega
theorem pw_succ (k : Nat) : pw (k + 1) = 2 * pw k := by unfold pw; rw [Nat.pow_succ]; omega
theorem power_any (n : Nat) (h : n ≤ 16) (w : World) : Calls Try.prog 28 #[.int .i64 (n : Int)] w fun e w' => e = .returned (.int .i64 (pw n)) ∧ w = w' := by
  go_enter Try.func28, Try.ntmps28
  go_wp2
  go_loop [3, 4] (fun p i => ∃ k : Nat, k ≤ n ∧ i = .int .i64 (k : Int) ∧ p = .int .i64 (pw k)) (fun _ i => n - (intOf i).toNat)
  case atStart => exact ⟨0, Nat.zero_le _, rfl, rfl⟩
  case round =>
    obtain ⟨k, hk, rfl, rfl⟩ := hrel
    obtain ⟨p1, p2⟩ := pw_bd k (by omega)
    have HS := Lib.hid (pw_succ k)
    generalize hp : pw k = p at *
    have HP := Lib.hid hp
    clear hp
    by_cases hlt : k < n
    · go_wp2
      go_round
      case rel => exact ⟨k + 1, by omega, by go_num, by rw [HS.out]⟩
      case measure => simp [intOf]; omega
    · obtain rfl : k = n := by omega
      go_wp2
      go_ret
      exact ⟨by rw [HP.out]; rfl, rfl⟩

def tabS : Array Value := #[.int .i64 15, .int .i64 1, .int .i64 11, .int .i64 4, .int .i64 10, .int .i64 1, .int .i64 9, .int .i64 1, .int .i64 8, .int .i64 1, .int .i64 7, .int .i64 1, .int .i64 5, .int .i64 1, .int .i64 4, .int .i64 1, .int .i64 0, .int .i64 4]
theorem bs (w : World) : (Instr.buildSlice 68 9 #[(0, .agg #[.int .i64 15, .int .i64 1]), (1, .agg #[.int .i64 11, .int .i64 4]), (2, .agg #[.int .i64 10, .int .i64 1]), (3, .agg #[.int .i64 9, .int .i64 1]), (4, .agg #[.int .i64 8, .int .i64 1]), (5, .agg #[.int .i64 7, .int .i64 1]), (6, .agg #[.int .i64 5, .int .i64 1]), (7, .agg #[.int .i64 4, .int .i64 1]), (8, .agg #[.int .i64 0, .int .i64 4])]).run Try.prog w = .ok (.slice (some ⟨w.heap.size, 0, none⟩) 9 9) (w.alloc (.cells tabS 61)) := by kernel_rfl


theorem place_8 (w : World) : Calls Try.prog 27 #[.int .i64 8] w fun e w' => e = .returned (.agg #[.int .i64 0, .int .i64 4]) ∧ Below w.heap.size w w' := by
  have hb := bs
  have t0 : tabS[16]? = some (.int .i64 0) := rfl
  have t1 : tabS[17]? = some (.int .i64 4) := rfl
  go_enter Try.func27, Try.ntmps27
  go_wp2
  exact bodyPost_ret (v := .agg #[.int .i64 0, .int .i64 4]) (by simp [results, Try.results27, go_sem]) rfl ⟨rfl, ((Below.refl _ _).alloc (Nat.le_refl _) _).alloc (by simp) _⟩

theorem tq (b L K : Int) (h0 : 0 ≤ b) (h1 : b ≤ 65535) (hL : 1 ≤ L) : (IntKind.i64.wrap (b.tdiv L)).tmod K = b / L % K := by
  rw [Int.tdiv_eq_ediv_of_nonneg h0]
  have h2 : 0 ≤ b / L := Int.ediv_nonneg h0 (by omega)
  have h3 : b / L ≤ b := Int.ediv_le_self _ h0
  rw [wraps _ h2 (by omega), Int.tmod_eq_emod_of_nonneg h2]
/-- The region's worlds: the place's two cells, and all that lay ahead. -/
abbrev Tw (w1 : World) (l m : Int) (w' : World) : Prop := w'.cell? ⟨w1.heap.size, 0, none⟩ = some (.int .i64 l) ∧ w'.cell? ⟨w1.heap.size, 1, none⟩ = some (.int .i64 m) ∧ Below w1.heap.size w1 w' ∧ w1.heap.size < w'.heap.size
theorem tw_next {w1 w' w'' : World} {l m : Int} (h : Tw w1 l m w') (b : Below w'.heap.size w' w'') : Tw w1 l m w'' :=
  ⟨(b.cell (p := ⟨w1.heap.size, 0, none⟩) h.2.2.2).trans h.1, (b.cell (p := ⟨w1.heap.size, 1, none⟩) h.2.2.2).trans h.2.1, h.2.2.1.trans (b.mono h.2.2.1.size), Nat.lt_of_lt_of_le h.2.2.2 b.size⟩

theorem rof_8 (b : Int) (h0 : 0 ≤ b) (h1 : b ≤ 65535) (w : World) : Calls Try.prog 26 #[.int .i64 8, .int .i64 b] w fun e w' => e = .returned (.int .i64 (b / 1 % 16)) ∧ Below w.heap.size w w' := by
  have c1 : decide (b < 0) = false := by simp; omega
  have c2 : decide (65535 < b) = false := by simp; omega
  have P0 : ∀ w : World, Calls Try.prog 28 #[.int .i64 0] w fun e w' => e = .returned (.int .i64 1) ∧ w = w' := power_any 0 (by omega)
  have P1 : ∀ w : World, Calls Try.prog 28 #[.int .i64 4] w fun e w' => e = .returned (.int .i64 16) ∧ w = w' := power_any 4 (by omega)
  have r := Lib.hid (tq b 1 16 h0 h1 (by omega))
  clear h0 h1
  go_enter Try.func26, Try.ntmps26
  go_wp2_with fail
  refine (place_8 _).mono ?_
  rintro e w1 ⟨rfl, hb1⟩
  go_wp2_with fail
  go_region_held3 (fun w' => w'.cell? ⟨w1.heap.size, 0, none⟩ = some (.int .i64 0) ∧ w'.cell? ⟨w1.heap.size, 1, none⟩ = some (.int .i64 4) ∧ Below w1.heap.size w1 w')
    (first | assumption | exact ⟨by simp, by simp, ((Below.refl _ _).alloc (Nat.le_refl _) _).drew⟩)
    (first
      | (go_at_call_of 28 (Value.int .i64 0); refine (P0 _).mono ?_; rintro e w' ⟨rfl, rfl⟩)
      | (go_at_call_of 28 (Value.int .i64 4); refine (P1 _).mono ?_; rintro e w' ⟨rfl, rfl⟩))
  all_goals go_wp2
  all_goals go_ret
  all_goals (rename_i hh; exact ⟨congrArg (fun n => Ending.returned (.int .i64 n)) (by first | exact r.out | simpa using r.out), Fl.step _ _ _ hb1 hh.2.2⟩)

theorem rwith_8 (b v : Int) (h0 : 0 ≤ b) (h1 : b ≤ 65535) (v0 : 0 ≤ v) (v1 : v < 16) (w : World) : Calls Try.prog 18 #[.int .i64 8, .int .i64 b, .int .i64 v] w fun e w' => e = .returned (.tuple #[.int .i64 (b + (v - b / 1 % 16) * 1), .bool true]) ∧ Below w.heap.size w w' := by
  have c1 : decide (b < 0) = false := by simp; omega
  have c2 : decide (65535 < b) = false := by simp; omega
  have c3 : decide (v < 0) = false := by simp; omega
  have c4 : decide (16 ≤ v) = false := by simp; omega
  have P0 : ∀ w : World, Calls Try.prog 28 #[.int .i64 0] w fun e w' => e = .returned (.int .i64 1) ∧ w = w' := power_any 0 (by omega)
  have P1 : ∀ w : World, Calls Try.prog 28 #[.int .i64 4] w fun e w' => e = .returned (.int .i64 16) ∧ w = w' := power_any 4 (by omega)
  have OF := rof_8 b h0 h1
  have q0 : 0 ≤ b / 1 % 16 := by omega
  have q1 : b / 1 % 16 < 16 := by omega
  have r := Lib.hid (show b + (v - b / 1 % 16) * 1 = b + (v - b / 1 % 16) * 1 from rfl)
  generalize b / 1 % 16 = o at *
  have OT : ∀ w1 w' : World, Tw w1 0 4 w' → Calls Try.prog 26 #[.int .i64 8, .int .i64 b] w' fun e w'' => e = .returned (.int .i64 o) ∧ Tw w1 0 4 w'' := fun w1 w' h => (OF w').mono fun _ _ ⟨he, hb⟩ => ⟨he, tw_next h hb⟩
  clear OF
  have k1 := Lib.hid (show IntKind.i64.wrap (b + IntKind.i64.wrap (IntKind.i64.wrap (v - o) * 1)) = b + (v - o) * 1 by
    rw [IntKind.wrap_i64, IntKind.wrap_i64, IntKind.wrap_i64]; omega)
  have k2 := Lib.hid (show b + (v - o) * 1 = b + (v - o) * 1 from rfl)
  go_enter Try.func18, Try.ntmps18
  go_wp2_with fail
  refine (place_8 _).mono ?_
  rintro e w1 ⟨rfl, hb1⟩
  go_wp2_with fail
  refine (P1 _).mono ?_
  rintro e w' ⟨rfl, rfl⟩
  go_wp2_with fail
  go_region_held3 (fun w' => w'.cell? ⟨w1.heap.size, 0, none⟩ = some (.int .i64 0) ∧ w'.cell? ⟨w1.heap.size, 1, none⟩ = some (.int .i64 4) ∧ Below w1.heap.size w1 w' ∧ w1.heap.size < w'.heap.size)
    (first | assumption | exact ⟨by simp, by simp, ((Below.refl _ _).alloc (Nat.le_refl _) _).drew, by simp⟩)
    (first
      | (go_at_call 26; refine (OT w1 _ ?hs).mono ?_; (case hs => assumption); rintro e w' ⟨rfl, h1⟩)
      | (go_at_call 28; refine (P0 _).mono ?_; rintro e w' ⟨rfl, rfl⟩))
  all_goals go_wp2
  all_goals go_ret2
  all_goals (rename_i hh; exact ⟨congrArg (fun n => Ending.returned (.tuple #[.int .i64 n, .bool true])) (by first | rfl | exact k1.out | exact k2.out | simpa using k1.out | simpa using k2.out), Fl.step _ _ _ hb1 hh.2.2.1⟩)


theorem rof8_out (b : Int) (h : ¬ (0 ≤ b ∧ b ≤ 65535)) (w : World) : Calls Try.prog 26 #[.int .i64 8, .int .i64 b] w fun e w' => e = .returned (.int .i64 0) ∧ Below w.heap.size w w' := by
  by_cases h0 : b < 0
  · have c1 : decide (b < 0) = true := by simpa using h0
    clear h h0
    go_enter Try.func26, Try.ntmps26
    go_wp2_with fail
    refine (place_8 _).mono ?_
    rintro e w1 ⟨rfl, hb1⟩
    go_wp2_with fail
    go_ret
    exact ⟨rfl, hb1.trans (((Below.refl _ _).alloc (Nat.le_refl _) _).mono hb1.size)⟩
  · have c1 : decide (b < 0) = false := by simpa using h0
    have c2 : decide (65535 < b) = true := by simp; omega
    clear h h0
    go_enter Try.func26, Try.ntmps26
    go_wp2_with fail
    refine (place_8 _).mono ?_
    rintro e w1 ⟨rfl, hb1⟩
    go_wp2_with fail
    go_ret
    exact ⟨rfl, hb1.trans (((Below.refl _ _).alloc (Nat.le_refl _) _).mono hb1.size)⟩
theorem rof8_any (b : Int) (w : World) : Calls Try.prog 26 #[.int .i64 8, .int .i64 b] w fun e w' => e = .returned (.int .i64 (rcOf b)) ∧ Below w.heap.size w w' := by
  by_cases h : 0 ≤ b ∧ b ≤ 65535
  · unfold rcOf; rw [if_pos h]
    have := rof_8 b h.1 h.2 w
    simpa using this
  · have e2 : rcOf b = 0 := by unfold rcOf; rw [if_neg h]
    rw [e2]; exact rof8_out b h w
theorem rwith8_out (b v : Int) (h : ¬ (0 ≤ b ∧ b ≤ 65535)) (w : World) : Calls Try.prog 18 #[.int .i64 8, .int .i64 b, .int .i64 v] w fun e w' => e = .returned (.tuple #[.int .i64 0, .bool false]) ∧ Below w.heap.size w w' := by
  by_cases h0 : b < 0
  · have c1 : decide (b < 0) = true := by simpa using h0
    clear h h0
    go_enter Try.func18, Try.ntmps18
    go_wp2_with fail
    refine (place_8 _).mono ?_
    rintro e w1 ⟨rfl, hb1⟩
    go_wp2_with fail
    go_ret2
    exact ⟨rfl, hb1.trans (((Below.refl _ _).alloc (Nat.le_refl _) _).mono hb1.size)⟩
  · have c1 : decide (b < 0) = false := by simpa using h0
    have c2 : decide (65535 < b) = true := by simp; omega
    clear h h0
    go_enter Try.func18, Try.ntmps18
    go_wp2_with fail
    refine (place_8 _).mono ?_
    rintro e w1 ⟨rfl, hb1⟩
    go_wp2_with fail
    go_ret2
    exact ⟨rfl, hb1.trans (((Below.refl _ _).alloc (Nat.le_refl _) _).mono hb1.size)⟩
theorem rwith8_in (b v : Int) (h0 : 0 ≤ b) (h1 : b ≤ 65535) (v0 : 0 ≤ v) (v1 : v < 16) (w : World) : Calls Try.prog 18 #[.int .i64 8, .int .i64 b, .int .i64 v] w fun e w' => e = .returned (.tuple #[.int .i64 (b - b % 16 + v), .bool true]) ∧ Below w.heap.size w w' := by
  have := rwith_8 b v h0 h1 v0 v1 w
  have e : b + (v - b / 1 % 16) * 1 = b - b % 16 + v := by omega
  rw [e] at this
  exact this
end Go.Proofs.Ytnbngkecabacaaa.Fr
