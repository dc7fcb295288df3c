/- The contracts of the reference of package flag: Of, With and Answer, at every whole number; no condition. -/
import Derived.Test.YtpekoponfahliaaFq
import Derived.Test.YtpekoponfahliaaFv
import Derived.WalkKit
import Derived.Below
import Derived.KernelRfl
import Derived.Outline
import Derived.LoopTactic
import Derived.Deep.RegionHeld3
import Derived.Lib.Hide
import Derived.Test.YtpekoponfahliaaFr
namespace Go.Proofs.Ytpekoponfahliaa.Fs
open Go.RowKit Go.Proofs.Ytpekoponfahliaa.Fb Go.Proofs.Ytpekoponfahliaa.Fl Go.Proofs.Ytpekoponfahliaa.Fm Go.Proofs.Ytpekoponfahliaa.Fp Go.Proofs.Ytpekoponfahliaa.Fq Go.Proofs.Ytpekoponfahliaa.Fr
set_option linter.unusedVariables false

theorem tq (b L K : Int) (h0 : 0 ≤ b) (h1 : b ≤ 65535) (hL : 1 ≤ L) : (IntKind.i64.wrap (b.tdiv L)).tmod K = b / L % K := by
  rw [Int.tdiv_eq_ediv_of_nonneg h0]
  have h2 : 0 ≤ b / L := Int.ediv_nonneg h0 (by omega)
  have h3 : b / L ≤ b := Int.ediv_le_self _ h0
  rw [wraps _ h2 (by omega), Int.tmod_eq_emod_of_nonneg h2]
/-- The region's worlds: the place's two cells, and all that lay ahead. -/
abbrev Tw (w1 : World) (l m : Int) (w' : World) : Prop := w'.cell? ⟨w1.heap.size, 0, none⟩ = some (.int .i64 l) ∧ w'.cell? ⟨w1.heap.size, 1, none⟩ = some (.int .i64 m) ∧ Below w1.heap.size w1 w' ∧ w1.heap.size < w'.heap.size
theorem tw_next {w1 w' w'' : World} {l m : Int} (h : Tw w1 l m w') (b : Below w'.heap.size w' w'') : Tw w1 l m w'' :=
  ⟨(b.cell (p := ⟨w1.heap.size, 0, none⟩) h.2.2.2).trans h.1, (b.cell (p := ⟨w1.heap.size, 1, none⟩) h.2.2.2).trans h.2.1, h.2.2.1.trans (b.mono h.2.2.1.size), Nat.lt_of_lt_of_le h.2.2.2 b.size⟩

theorem rof_0 (b : Int) (h0 : 0 ≤ b) (h1 : b ≤ 65535) (w : World) : Calls Try.prog 11 #[.int .i64 0, .int .i64 b] w fun e w' => e = .returned (.int .i64 (b / 32768 % 2)) ∧ Below w.heap.size w w' := by
  have c1 : decide (b < 0) = false := by simp; omega
  have c2 : decide (65535 < b) = false := by simp; omega
  have P0 : ∀ w : World, Calls Try.prog 19 #[.int .i64 15] w fun e w' => e = .returned (.int .i64 32768) ∧ w = w' := power_any 15 (by omega)
  have P1 : ∀ w : World, Calls Try.prog 19 #[.int .i64 1] w fun e w' => e = .returned (.int .i64 2) ∧ w = w' := power_any 1 (by omega)
  have r := Lib.hid (tq b 32768 2 h0 h1 (by omega))
  clear h0 h1
  go_enter Try.func11, Try.ntmps11
  go_wp2_with fail
  refine (place_0 _).mono ?_
  rintro e w1 ⟨rfl, hb1⟩
  go_wp2_with fail
  go_region_held3 (fun w' => w'.cell? ⟨w1.heap.size, 0, none⟩ = some (.int .i64 15) ∧ w'.cell? ⟨w1.heap.size, 1, none⟩ = some (.int .i64 1) ∧ Below w1.heap.size w1 w')
    (first | assumption | exact ⟨by simp, by simp, ((Below.refl _ _).alloc (Nat.le_refl _) _).drew⟩)
    (first
      | (go_at_call_of 19 (Value.int .i64 15); refine (P0 _).mono ?_; rintro e w' ⟨rfl, rfl⟩)
      | (go_at_call_of 19 (Value.int .i64 1); refine (P1 _).mono ?_; rintro e w' ⟨rfl, rfl⟩))
  all_goals go_wp2
  all_goals go_ret
  all_goals (rename_i hh; exact ⟨congrArg (fun n => Ending.returned (.int .i64 n)) (by first | exact r.out | simpa using r.out), Fl.step _ _ _ hb1 hh.2.2⟩)

theorem rwith_0 (b v : Int) (h0 : 0 ≤ b) (h1 : b ≤ 65535) (v0 : 0 ≤ v) (v1 : v < 2) (w : World) : Calls Try.prog 9 #[.int .i64 0, .int .i64 b, .int .i64 v] w fun e w' => e = .returned (.tuple #[.int .i64 (b + (v - b / 32768 % 2) * 32768), .bool true]) ∧ Below w.heap.size w w' := by
  have c1 : decide (b < 0) = false := by simp; omega
  have c2 : decide (65535 < b) = false := by simp; omega
  have c3 : decide (v < 0) = false := by simp; omega
  have c4 : decide (2 ≤ v) = false := by simp; omega
  have P0 : ∀ w : World, Calls Try.prog 19 #[.int .i64 15] w fun e w' => e = .returned (.int .i64 32768) ∧ w = w' := power_any 15 (by omega)
  have P1 : ∀ w : World, Calls Try.prog 19 #[.int .i64 1] w fun e w' => e = .returned (.int .i64 2) ∧ w = w' := power_any 1 (by omega)
  have OF := rof_0 b h0 h1
  have q0 : 0 ≤ b / 32768 % 2 := by omega
  have q1 : b / 32768 % 2 < 2 := by omega
  have r := Lib.hid (show b + (v - b / 32768 % 2) * 32768 = b + (v - b / 32768 % 2) * 32768 from rfl)
  generalize b / 32768 % 2 = o at *
  have OT : ∀ w1 w' : World, Tw w1 15 1 w' → Calls Try.prog 11 #[.int .i64 0, .int .i64 b] w' fun e w'' => e = .returned (.int .i64 o) ∧ Tw w1 15 1 w'' := fun w1 w' h => (OF w').mono fun _ _ ⟨he, hb⟩ => ⟨he, tw_next h hb⟩
  clear OF
  have k1 := Lib.hid (show IntKind.i64.wrap (b + IntKind.i64.wrap (IntKind.i64.wrap (v - o) * 32768)) = b + (v - o) * 32768 by
    rw [IntKind.wrap_i64, IntKind.wrap_i64, IntKind.wrap_i64]; omega)
  have k2 := Lib.hid (show b + (v - o) * 32768 = b + (v - o) * 32768 from rfl)
  go_enter Try.func9, Try.ntmps9
  go_wp2_with fail
  refine (place_0 _).mono ?_
  rintro e w1 ⟨rfl, hb1⟩
  go_wp2_with fail
  refine (P1 _).mono ?_
  rintro e w' ⟨rfl, rfl⟩
  go_wp2_with fail
  go_region_held3 (fun w' => w'.cell? ⟨w1.heap.size, 0, none⟩ = some (.int .i64 15) ∧ w'.cell? ⟨w1.heap.size, 1, none⟩ = some (.int .i64 1) ∧ Below w1.heap.size w1 w' ∧ w1.heap.size < w'.heap.size)
    (first | assumption | exact ⟨by simp, by simp, ((Below.refl _ _).alloc (Nat.le_refl _) _).drew, by simp⟩)
    (first
      | (go_at_call 11; refine (OT w1 _ ?hs).mono ?_; (case hs => assumption); rintro e w' ⟨rfl, h1⟩)
      | (go_at_call 19; refine (P0 _).mono ?_; rintro e w' ⟨rfl, rfl⟩))
  all_goals go_wp2
  all_goals go_ret2
  all_goals (rename_i hh; exact ⟨congrArg (fun n => Ending.returned (.tuple #[.int .i64 n, .bool true])) (by first | rfl | exact k1.out | exact k2.out | simpa using k1.out | simpa using k2.out), Fl.step _ _ _ hb1 hh.2.2.1⟩)

theorem rof_1 (b : Int) (h0 : 0 ≤ b) (h1 : b ≤ 65535) (w : World) : Calls Try.prog 11 #[.int .i64 1, .int .i64 b] w fun e w' => e = .returned (.int .i64 (b / 2048 % 16)) ∧ Below w.heap.size w w' := by
  have c1 : decide (b < 0) = false := by simp; omega
  have c2 : decide (65535 < b) = false := by simp; omega
  have P0 : ∀ w : World, Calls Try.prog 19 #[.int .i64 11] w fun e w' => e = .returned (.int .i64 2048) ∧ w = w' := power_any 11 (by omega)
  have P1 : ∀ w : World, Calls Try.prog 19 #[.int .i64 4] w fun e w' => e = .returned (.int .i64 16) ∧ w = w' := power_any 4 (by omega)
  have r := Lib.hid (tq b 2048 16 h0 h1 (by omega))
  clear h0 h1
  go_enter Try.func11, Try.ntmps11
  go_wp2_with fail
  refine (place_1 _).mono ?_
  rintro e w1 ⟨rfl, hb1⟩
  go_wp2_with fail
  go_region_held3 (fun w' => w'.cell? ⟨w1.heap.size, 0, none⟩ = some (.int .i64 11) ∧ w'.cell? ⟨w1.heap.size, 1, none⟩ = some (.int .i64 4) ∧ Below w1.heap.size w1 w')
    (first | assumption | exact ⟨by simp, by simp, ((Below.refl _ _).alloc (Nat.le_refl _) _).drew⟩)
    (first
      | (go_at_call_of 19 (Value.int .i64 11); refine (P0 _).mono ?_; rintro e w' ⟨rfl, rfl⟩)
      | (go_at_call_of 19 (Value.int .i64 4); refine (P1 _).mono ?_; rintro e w' ⟨rfl, rfl⟩))
  all_goals go_wp2
  all_goals go_ret
  all_goals (rename_i hh; exact ⟨congrArg (fun n => Ending.returned (.int .i64 n)) (by first | exact r.out | simpa using r.out), Fl.step _ _ _ hb1 hh.2.2⟩)

theorem rwith_1 (b v : Int) (h0 : 0 ≤ b) (h1 : b ≤ 65535) (v0 : 0 ≤ v) (v1 : v < 16) (w : World) : Calls Try.prog 9 #[.int .i64 1, .int .i64 b, .int .i64 v] w fun e w' => e = .returned (.tuple #[.int .i64 (b + (v - b / 2048 % 16) * 2048), .bool true]) ∧ Below w.heap.size w w' := by
  have c1 : decide (b < 0) = false := by simp; omega
  have c2 : decide (65535 < b) = false := by simp; omega
  have c3 : decide (v < 0) = false := by simp; omega
  have c4 : decide (16 ≤ v) = false := by simp; omega
  have P0 : ∀ w : World, Calls Try.prog 19 #[.int .i64 11] w fun e w' => e = .returned (.int .i64 2048) ∧ w = w' := power_any 11 (by omega)
  have P1 : ∀ w : World, Calls Try.prog 19 #[.int .i64 4] w fun e w' => e = .returned (.int .i64 16) ∧ w = w' := power_any 4 (by omega)
  have OF := rof_1 b h0 h1
  have q0 : 0 ≤ b / 2048 % 16 := by omega
  have q1 : b / 2048 % 16 < 16 := by omega
  have r := Lib.hid (show b + (v - b / 2048 % 16) * 2048 = b + (v - b / 2048 % 16) * 2048 from rfl)
  generalize b / 2048 % 16 = o at *
  have OT : ∀ w1 w' : World, Tw w1 11 4 w' → Calls Try.prog 11 #[.int .i64 1, .int .i64 b] w' fun e w'' => e = .returned (.int .i64 o) ∧ Tw w1 11 4 w'' := fun w1 w' h => (OF w').mono fun _ _ ⟨he, hb⟩ => ⟨he, tw_next h hb⟩
  clear OF
  have k1 := Lib.hid (show IntKind.i64.wrap (b + IntKind.i64.wrap (IntKind.i64.wrap (v - o) * 2048)) = b + (v - o) * 2048 by
    rw [IntKind.wrap_i64, IntKind.wrap_i64, IntKind.wrap_i64]; omega)
  have k2 := Lib.hid (show b + (v - o) * 2048 = b + (v - o) * 2048 from rfl)
  go_enter Try.func9, Try.ntmps9
  go_wp2_with fail
  refine (place_1 _).mono ?_
  rintro e w1 ⟨rfl, hb1⟩
  go_wp2_with fail
  refine (P1 _).mono ?_
  rintro e w' ⟨rfl, rfl⟩
  go_wp2_with fail
  go_region_held3 (fun w' => w'.cell? ⟨w1.heap.size, 0, none⟩ = some (.int .i64 11) ∧ w'.cell? ⟨w1.heap.size, 1, none⟩ = some (.int .i64 4) ∧ Below w1.heap.size w1 w' ∧ w1.heap.size < w'.heap.size)
    (first | assumption | exact ⟨by simp, by simp, ((Below.refl _ _).alloc (Nat.le_refl _) _).drew, by simp⟩)
    (first
      | (go_at_call 11; refine (OT w1 _ ?hs).mono ?_; (case hs => assumption); rintro e w' ⟨rfl, h1⟩)
      | (go_at_call 19; refine (P0 _).mono ?_; rintro e w' ⟨rfl, rfl⟩))
  all_goals go_wp2
  all_goals go_ret2
  all_goals (rename_i hh; exact ⟨congrArg (fun n => Ending.returned (.tuple #[.int .i64 n, .bool true])) (by first | rfl | exact k1.out | exact k2.out | simpa using k1.out | simpa using k2.out), Fl.step _ _ _ hb1 hh.2.2.1⟩)

theorem rof_2 (b : Int) (h0 : 0 ≤ b) (h1 : b ≤ 65535) (w : World) : Calls Try.prog 11 #[.int .i64 2, .int .i64 b] w fun e w' => e = .returned (.int .i64 (b / 1024 % 2)) ∧ Below w.heap.size w w' := by
  have c1 : decide (b < 0) = false := by simp; omega
  have c2 : decide (65535 < b) = false := by simp; omega
  have P0 : ∀ w : World, Calls Try.prog 19 #[.int .i64 10] w fun e w' => e = .returned (.int .i64 1024) ∧ w = w' := power_any 10 (by omega)
  have P1 : ∀ w : World, Calls Try.prog 19 #[.int .i64 1] w fun e w' => e = .returned (.int .i64 2) ∧ w = w' := power_any 1 (by omega)
  have r := Lib.hid (tq b 1024 2 h0 h1 (by omega))
  clear h0 h1
  go_enter Try.func11, Try.ntmps11
  go_wp2_with fail
  refine (place_2 _).mono ?_
  rintro e w1 ⟨rfl, hb1⟩
  go_wp2_with fail
  go_region_held3 (fun w' => w'.cell? ⟨w1.heap.size, 0, none⟩ = some (.int .i64 10) ∧ w'.cell? ⟨w1.heap.size, 1, none⟩ = some (.int .i64 1) ∧ Below w1.heap.size w1 w')
    (first | assumption | exact ⟨by simp, by simp, ((Below.refl _ _).alloc (Nat.le_refl _) _).drew⟩)
    (first
      | (go_at_call_of 19 (Value.int .i64 10); refine (P0 _).mono ?_; rintro e w' ⟨rfl, rfl⟩)
      | (go_at_call_of 19 (Value.int .i64 1); refine (P1 _).mono ?_; rintro e w' ⟨rfl, rfl⟩))
  all_goals go_wp2
  all_goals go_ret
  all_goals (rename_i hh; exact ⟨congrArg (fun n => Ending.returned (.int .i64 n)) (by first | exact r.out | simpa using r.out), Fl.step _ _ _ hb1 hh.2.2⟩)

theorem rwith_2 (b v : Int) (h0 : 0 ≤ b) (h1 : b ≤ 65535) (v0 : 0 ≤ v) (v1 : v < 2) (w : World) : Calls Try.prog 9 #[.int .i64 2, .int .i64 b, .int .i64 v] w fun e w' => e = .returned (.tuple #[.int .i64 (b + (v - b / 1024 % 2) * 1024), .bool true]) ∧ Below w.heap.size w w' := by
  have c1 : decide (b < 0) = false := by simp; omega
  have c2 : decide (65535 < b) = false := by simp; omega
  have c3 : decide (v < 0) = false := by simp; omega
  have c4 : decide (2 ≤ v) = false := by simp; omega
  have P0 : ∀ w : World, Calls Try.prog 19 #[.int .i64 10] w fun e w' => e = .returned (.int .i64 1024) ∧ w = w' := power_any 10 (by omega)
  have P1 : ∀ w : World, Calls Try.prog 19 #[.int .i64 1] w fun e w' => e = .returned (.int .i64 2) ∧ w = w' := power_any 1 (by omega)
  have OF := rof_2 b h0 h1
  have q0 : 0 ≤ b / 1024 % 2 := by omega
  have q1 : b / 1024 % 2 < 2 := by omega
  have r := Lib.hid (show b + (v - b / 1024 % 2) * 1024 = b + (v - b / 1024 % 2) * 1024 from rfl)
  generalize b / 1024 % 2 = o at *
  have OT : ∀ w1 w' : World, Tw w1 10 1 w' → Calls Try.prog 11 #[.int .i64 2, .int .i64 b] w' fun e w'' => e = .returned (.int .i64 o) ∧ Tw w1 10 1 w'' := fun w1 w' h => (OF w').mono fun _ _ ⟨he, hb⟩ => ⟨he, tw_next h hb⟩
  clear OF
  have k1 := Lib.hid (show IntKind.i64.wrap (b + IntKind.i64.wrap (IntKind.i64.wrap (v - o) * 1024)) = b + (v - o) * 1024 by
    rw [IntKind.wrap_i64, IntKind.wrap_i64, IntKind.wrap_i64]; omega)
  have k2 := Lib.hid (show b + (v - o) * 1024 = b + (v - o) * 1024 from rfl)
  go_enter Try.func9, Try.ntmps9
  go_wp2_with fail
  refine (place_2 _).mono ?_
  rintro e w1 ⟨rfl, hb1⟩
  go_wp2_with fail
  refine (P1 _).mono ?_
  rintro e w' ⟨rfl, rfl⟩
  go_wp2_with fail
  go_region_held3 (fun w' => w'.cell? ⟨w1.heap.size, 0, none⟩ = some (.int .i64 10) ∧ w'.cell? ⟨w1.heap.size, 1, none⟩ = some (.int .i64 1) ∧ Below w1.heap.size w1 w' ∧ w1.heap.size < w'.heap.size)
    (first | assumption | exact ⟨by simp, by simp, ((Below.refl _ _).alloc (Nat.le_refl _) _).drew, by simp⟩)
    (first
      | (go_at_call 11; refine (OT w1 _ ?hs).mono ?_; (case hs => assumption); rintro e w' ⟨rfl, h1⟩)
      | (go_at_call 19; refine (P0 _).mono ?_; rintro e w' ⟨rfl, rfl⟩))
  all_goals go_wp2
  all_goals go_ret2
  all_goals (rename_i hh; exact ⟨congrArg (fun n => Ending.returned (.tuple #[.int .i64 n, .bool true])) (by first | rfl | exact k1.out | exact k2.out | simpa using k1.out | simpa using k2.out), Fl.step _ _ _ hb1 hh.2.2.1⟩)

theorem rof_3 (b : Int) (h0 : 0 ≤ b) (h1 : b ≤ 65535) (w : World) : Calls Try.prog 11 #[.int .i64 3, .int .i64 b] w fun e w' => e = .returned (.int .i64 (b / 512 % 2)) ∧ Below w.heap.size w w' := by
  have c1 : decide (b < 0) = false := by simp; omega
  have c2 : decide (65535 < b) = false := by simp; omega
  have P0 : ∀ w : World, Calls Try.prog 19 #[.int .i64 9] w fun e w' => e = .returned (.int .i64 512) ∧ w = w' := power_any 9 (by omega)
  have P1 : ∀ w : World, Calls Try.prog 19 #[.int .i64 1] w fun e w' => e = .returned (.int .i64 2) ∧ w = w' := power_any 1 (by omega)
  have r := Lib.hid (tq b 512 2 h0 h1 (by omega))
  clear h0 h1
  go_enter Try.func11, Try.ntmps11
  go_wp2_with fail
  refine (place_3 _).mono ?_
  rintro e w1 ⟨rfl, hb1⟩
  go_wp2_with fail
  go_region_held3 (fun w' => w'.cell? ⟨w1.heap.size, 0, none⟩ = some (.int .i64 9) ∧ w'.cell? ⟨w1.heap.size, 1, none⟩ = some (.int .i64 1) ∧ Below w1.heap.size w1 w')
    (first | assumption | exact ⟨by simp, by simp, ((Below.refl _ _).alloc (Nat.le_refl _) _).drew⟩)
    (first
      | (go_at_call_of 19 (Value.int .i64 9); refine (P0 _).mono ?_; rintro e w' ⟨rfl, rfl⟩)
      | (go_at_call_of 19 (Value.int .i64 1); refine (P1 _).mono ?_; rintro e w' ⟨rfl, rfl⟩))
  all_goals go_wp2
  all_goals go_ret
  all_goals (rename_i hh; exact ⟨congrArg (fun n => Ending.returned (.int .i64 n)) (by first | exact r.out | simpa using r.out), Fl.step _ _ _ hb1 hh.2.2⟩)

theorem rwith_3 (b v : Int) (h0 : 0 ≤ b) (h1 : b ≤ 65535) (v0 : 0 ≤ v) (v1 : v < 2) (w : World) : Calls Try.prog 9 #[.int .i64 3, .int .i64 b, .int .i64 v] w fun e w' => e = .returned (.tuple #[.int .i64 (b + (v - b / 512 % 2) * 512), .bool true]) ∧ Below w.heap.size w w' := by
  have c1 : decide (b < 0) = false := by simp; omega
  have c2 : decide (65535 < b) = false := by simp; omega
  have c3 : decide (v < 0) = false := by simp; omega
  have c4 : decide (2 ≤ v) = false := by simp; omega
  have P0 : ∀ w : World, Calls Try.prog 19 #[.int .i64 9] w fun e w' => e = .returned (.int .i64 512) ∧ w = w' := power_any 9 (by omega)
  have P1 : ∀ w : World, Calls Try.prog 19 #[.int .i64 1] w fun e w' => e = .returned (.int .i64 2) ∧ w = w' := power_any 1 (by omega)
  have OF := rof_3 b h0 h1
  have q0 : 0 ≤ b / 512 % 2 := by omega
  have q1 : b / 512 % 2 < 2 := by omega
  have r := Lib.hid (show b + (v - b / 512 % 2) * 512 = b + (v - b / 512 % 2) * 512 from rfl)
  generalize b / 512 % 2 = o at *
  have OT : ∀ w1 w' : World, Tw w1 9 1 w' → Calls Try.prog 11 #[.int .i64 3, .int .i64 b] w' fun e w'' => e = .returned (.int .i64 o) ∧ Tw w1 9 1 w'' := fun w1 w' h => (OF w').mono fun _ _ ⟨he, hb⟩ => ⟨he, tw_next h hb⟩
  clear OF
  have k1 := Lib.hid (show IntKind.i64.wrap (b + IntKind.i64.wrap (IntKind.i64.wrap (v - o) * 512)) = b + (v - o) * 512 by
    rw [IntKind.wrap_i64, IntKind.wrap_i64, IntKind.wrap_i64]; omega)
  have k2 := Lib.hid (show b + (v - o) * 512 = b + (v - o) * 512 from rfl)
  go_enter Try.func9, Try.ntmps9
  go_wp2_with fail
  refine (place_3 _).mono ?_
  rintro e w1 ⟨rfl, hb1⟩
  go_wp2_with fail
  refine (P1 _).mono ?_
  rintro e w' ⟨rfl, rfl⟩
  go_wp2_with fail
  go_region_held3 (fun w' => w'.cell? ⟨w1.heap.size, 0, none⟩ = some (.int .i64 9) ∧ w'.cell? ⟨w1.heap.size, 1, none⟩ = some (.int .i64 1) ∧ Below w1.heap.size w1 w' ∧ w1.heap.size < w'.heap.size)
    (first | assumption | exact ⟨by simp, by simp, ((Below.refl _ _).alloc (Nat.le_refl _) _).drew, by simp⟩)
    (first
      | (go_at_call 11; refine (OT w1 _ ?hs).mono ?_; (case hs => assumption); rintro e w' ⟨rfl, h1⟩)
      | (go_at_call 19; refine (P0 _).mono ?_; rintro e w' ⟨rfl, rfl⟩))
  all_goals go_wp2
  all_goals go_ret2
  all_goals (rename_i hh; exact ⟨congrArg (fun n => Ending.returned (.tuple #[.int .i64 n, .bool true])) (by first | rfl | exact k1.out | exact k2.out | simpa using k1.out | simpa using k2.out), Fl.step _ _ _ hb1 hh.2.2.1⟩)

theorem rof_4 (b : Int) (h0 : 0 ≤ b) (h1 : b ≤ 65535) (w : World) : Calls Try.prog 11 #[.int .i64 4, .int .i64 b] w fun e w' => e = .returned (.int .i64 (b / 256 % 2)) ∧ Below w.heap.size w w' := by
  have c1 : decide (b < 0) = false := by simp; omega
  have c2 : decide (65535 < b) = false := by simp; omega
  have P0 : ∀ w : World, Calls Try.prog 19 #[.int .i64 8] w fun e w' => e = .returned (.int .i64 256) ∧ w = w' := power_any 8 (by omega)
  have P1 : ∀ w : World, Calls Try.prog 19 #[.int .i64 1] w fun e w' => e = .returned (.int .i64 2) ∧ w = w' := power_any 1 (by omega)
  have r := Lib.hid (tq b 256 2 h0 h1 (by omega))
  clear h0 h1
  go_enter Try.func11, Try.ntmps11
  go_wp2_with fail
  refine (place_4 _).mono ?_
  rintro e w1 ⟨rfl, hb1⟩
  go_wp2_with fail
  go_region_held3 (fun w' => w'.cell? ⟨w1.heap.size, 0, none⟩ = some (.int .i64 8) ∧ w'.cell? ⟨w1.heap.size, 1, none⟩ = some (.int .i64 1) ∧ Below w1.heap.size w1 w')
    (first | assumption | exact ⟨by simp, by simp, ((Below.refl _ _).alloc (Nat.le_refl _) _).drew⟩)
    (first
      | (go_at_call_of 19 (Value.int .i64 8); refine (P0 _).mono ?_; rintro e w' ⟨rfl, rfl⟩)
      | (go_at_call_of 19 (Value.int .i64 1); refine (P1 _).mono ?_; rintro e w' ⟨rfl, rfl⟩))
  all_goals go_wp2
  all_goals go_ret
  all_goals (rename_i hh; exact ⟨congrArg (fun n => Ending.returned (.int .i64 n)) (by first | exact r.out | simpa using r.out), Fl.step _ _ _ hb1 hh.2.2⟩)

theorem rwith_4 (b v : Int) (h0 : 0 ≤ b) (h1 : b ≤ 65535) (v0 : 0 ≤ v) (v1 : v < 2) (w : World) : Calls Try.prog 9 #[.int .i64 4, .int .i64 b, .int .i64 v] w fun e w' => e = .returned (.tuple #[.int .i64 (b + (v - b / 256 % 2) * 256), .bool true]) ∧ Below w.heap.size w w' := by
  have c1 : decide (b < 0) = false := by simp; omega
  have c2 : decide (65535 < b) = false := by simp; omega
  have c3 : decide (v < 0) = false := by simp; omega
  have c4 : decide (2 ≤ v) = false := by simp; omega
  have P0 : ∀ w : World, Calls Try.prog 19 #[.int .i64 8] w fun e w' => e = .returned (.int .i64 256) ∧ w = w' := power_any 8 (by omega)
  have P1 : ∀ w : World, Calls Try.prog 19 #[.int .i64 1] w fun e w' => e = .returned (.int .i64 2) ∧ w = w' := power_any 1 (by omega)
  have OF := rof_4 b h0 h1
  have q0 : 0 ≤ b / 256 % 2 := by omega
  have q1 : b / 256 % 2 < 2 := by omega
  have r := Lib.hid (show b + (v - b / 256 % 2) * 256 = b + (v - b / 256 % 2) * 256 from rfl)
  generalize b / 256 % 2 = o at *
  have OT : ∀ w1 w' : World, Tw w1 8 1 w' → Calls Try.prog 11 #[.int .i64 4, .int .i64 b] w' fun e w'' => e = .returned (.int .i64 o) ∧ Tw w1 8 1 w'' := fun w1 w' h => (OF w').mono fun _ _ ⟨he, hb⟩ => ⟨he, tw_next h hb⟩
  clear OF
  have k1 := Lib.hid (show IntKind.i64.wrap (b + IntKind.i64.wrap (IntKind.i64.wrap (v - o) * 256)) = b + (v - o) * 256 by
    rw [IntKind.wrap_i64, IntKind.wrap_i64, IntKind.wrap_i64]; omega)
  have k2 := Lib.hid (show b + (v - o) * 256 = b + (v - o) * 256 from rfl)
  go_enter Try.func9, Try.ntmps9
  go_wp2_with fail
  refine (place_4 _).mono ?_
  rintro e w1 ⟨rfl, hb1⟩
  go_wp2_with fail
  refine (P1 _).mono ?_
  rintro e w' ⟨rfl, rfl⟩
  go_wp2_with fail
  go_region_held3 (fun w' => w'.cell? ⟨w1.heap.size, 0, none⟩ = some (.int .i64 8) ∧ w'.cell? ⟨w1.heap.size, 1, none⟩ = some (.int .i64 1) ∧ Below w1.heap.size w1 w' ∧ w1.heap.size < w'.heap.size)
    (first | assumption | exact ⟨by simp, by simp, ((Below.refl _ _).alloc (Nat.le_refl _) _).drew, by simp⟩)
    (first
      | (go_at_call 11; refine (OT w1 _ ?hs).mono ?_; (case hs => assumption); rintro e w' ⟨rfl, h1⟩)
      | (go_at_call 19; refine (P0 _).mono ?_; rintro e w' ⟨rfl, rfl⟩))
  all_goals go_wp2
  all_goals go_ret2
  all_goals (rename_i hh; exact ⟨congrArg (fun n => Ending.returned (.tuple #[.int .i64 n, .bool true])) (by first | rfl | exact k1.out | exact k2.out | simpa using k1.out | simpa using k2.out), Fl.step _ _ _ hb1 hh.2.2.1⟩)

theorem rof_5 (b : Int) (h0 : 0 ≤ b) (h1 : b ≤ 65535) (w : World) : Calls Try.prog 11 #[.int .i64 5, .int .i64 b] w fun e w' => e = .returned (.int .i64 (b / 128 % 2)) ∧ Below w.heap.size w w' := by
  have c1 : decide (b < 0) = false := by simp; omega
  have c2 : decide (65535 < b) = false := by simp; omega
  have P0 : ∀ w : World, Calls Try.prog 19 #[.int .i64 7] w fun e w' => e = .returned (.int .i64 128) ∧ w = w' := power_any 7 (by omega)
  have P1 : ∀ w : World, Calls Try.prog 19 #[.int .i64 1] w fun e w' => e = .returned (.int .i64 2) ∧ w = w' := power_any 1 (by omega)
  have r := Lib.hid (tq b 128 2 h0 h1 (by omega))
  clear h0 h1
  go_enter Try.func11, Try.ntmps11
  go_wp2_with fail
  refine (place_5 _).mono ?_
  rintro e w1 ⟨rfl, hb1⟩
  go_wp2_with fail
  go_region_held3 (fun w' => w'.cell? ⟨w1.heap.size, 0, none⟩ = some (.int .i64 7) ∧ w'.cell? ⟨w1.heap.size, 1, none⟩ = some (.int .i64 1) ∧ Below w1.heap.size w1 w')
    (first | assumption | exact ⟨by simp, by simp, ((Below.refl _ _).alloc (Nat.le_refl _) _).drew⟩)
    (first
      | (go_at_call_of 19 (Value.int .i64 7); refine (P0 _).mono ?_; rintro e w' ⟨rfl, rfl⟩)
      | (go_at_call_of 19 (Value.int .i64 1); refine (P1 _).mono ?_; rintro e w' ⟨rfl, rfl⟩))
  all_goals go_wp2
  all_goals go_ret
  all_goals (rename_i hh; exact ⟨congrArg (fun n => Ending.returned (.int .i64 n)) (by first | exact r.out | simpa using r.out), Fl.step _ _ _ hb1 hh.2.2⟩)

theorem rwith_5 (b v : Int) (h0 : 0 ≤ b) (h1 : b ≤ 65535) (v0 : 0 ≤ v) (v1 : v < 2) (w : World) : Calls Try.prog 9 #[.int .i64 5, .int .i64 b, .int .i64 v] w fun e w' => e = .returned (.tuple #[.int .i64 (b + (v - b / 128 % 2) * 128), .bool true]) ∧ Below w.heap.size w w' := by
  have c1 : decide (b < 0) = false := by simp; omega
  have c2 : decide (65535 < b) = false := by simp; omega
  have c3 : decide (v < 0) = false := by simp; omega
  have c4 : decide (2 ≤ v) = false := by simp; omega
  have P0 : ∀ w : World, Calls Try.prog 19 #[.int .i64 7] w fun e w' => e = .returned (.int .i64 128) ∧ w = w' := power_any 7 (by omega)
  have P1 : ∀ w : World, Calls Try.prog 19 #[.int .i64 1] w fun e w' => e = .returned (.int .i64 2) ∧ w = w' := power_any 1 (by omega)
  have OF := rof_5 b h0 h1
  have q0 : 0 ≤ b / 128 % 2 := by omega
  have q1 : b / 128 % 2 < 2 := by omega
  have r := Lib.hid (show b + (v - b / 128 % 2) * 128 = b + (v - b / 128 % 2) * 128 from rfl)
  generalize b / 128 % 2 = o at *
  have OT : ∀ w1 w' : World, Tw w1 7 1 w' → Calls Try.prog 11 #[.int .i64 5, .int .i64 b] w' fun e w'' => e = .returned (.int .i64 o) ∧ Tw w1 7 1 w'' := fun w1 w' h => (OF w').mono fun _ _ ⟨he, hb⟩ => ⟨he, tw_next h hb⟩
  clear OF
  have k1 := Lib.hid (show IntKind.i64.wrap (b + IntKind.i64.wrap (IntKind.i64.wrap (v - o) * 128)) = b + (v - o) * 128 by
    rw [IntKind.wrap_i64, IntKind.wrap_i64, IntKind.wrap_i64]; omega)
  have k2 := Lib.hid (show b + (v - o) * 128 = b + (v - o) * 128 from rfl)
  go_enter Try.func9, Try.ntmps9
  go_wp2_with fail
  refine (place_5 _).mono ?_
  rintro e w1 ⟨rfl, hb1⟩
  go_wp2_with fail
  refine (P1 _).mono ?_
  rintro e w' ⟨rfl, rfl⟩
  go_wp2_with fail
  go_region_held3 (fun w' => w'.cell? ⟨w1.heap.size, 0, none⟩ = some (.int .i64 7) ∧ w'.cell? ⟨w1.heap.size, 1, none⟩ = some (.int .i64 1) ∧ Below w1.heap.size w1 w' ∧ w1.heap.size < w'.heap.size)
    (first | assumption | exact ⟨by simp, by simp, ((Below.refl _ _).alloc (Nat.le_refl _) _).drew, by simp⟩)
    (first
      | (go_at_call 11; refine (OT w1 _ ?hs).mono ?_; (case hs => assumption); rintro e w' ⟨rfl, h1⟩)
      | (go_at_call 19; refine (P0 _).mono ?_; rintro e w' ⟨rfl, rfl⟩))
  all_goals go_wp2
  all_goals go_ret2
  all_goals (rename_i hh; exact ⟨congrArg (fun n => Ending.returned (.tuple #[.int .i64 n, .bool true])) (by first | rfl | exact k1.out | exact k2.out | simpa using k1.out | simpa using k2.out), Fl.step _ _ _ hb1 hh.2.2.1⟩)

theorem rof_6 (b : Int) (h0 : 0 ≤ b) (h1 : b ≤ 65535) (w : World) : Calls Try.prog 11 #[.int .i64 6, .int .i64 b] w fun e w' => e = .returned (.int .i64 (b / 32 % 2)) ∧ Below w.heap.size w w' := by
  have c1 : decide (b < 0) = false := by simp; omega
  have c2 : decide (65535 < b) = false := by simp; omega
  have P0 : ∀ w : World, Calls Try.prog 19 #[.int .i64 5] w fun e w' => e = .returned (.int .i64 32) ∧ w = w' := power_any 5 (by omega)
  have P1 : ∀ w : World, Calls Try.prog 19 #[.int .i64 1] w fun e w' => e = .returned (.int .i64 2) ∧ w = w' := power_any 1 (by omega)
  have r := Lib.hid (tq b 32 2 h0 h1 (by omega))
  clear h0 h1
  go_enter Try.func11, Try.ntmps11
  go_wp2_with fail
  refine (place_6 _).mono ?_
  rintro e w1 ⟨rfl, hb1⟩
  go_wp2_with fail
  go_region_held3 (fun w' => w'.cell? ⟨w1.heap.size, 0, none⟩ = some (.int .i64 5) ∧ w'.cell? ⟨w1.heap.size, 1, none⟩ = some (.int .i64 1) ∧ Below w1.heap.size w1 w')
    (first | assumption | exact ⟨by simp, by simp, ((Below.refl _ _).alloc (Nat.le_refl _) _).drew⟩)
    (first
      | (go_at_call_of 19 (Value.int .i64 5); refine (P0 _).mono ?_; rintro e w' ⟨rfl, rfl⟩)
      | (go_at_call_of 19 (Value.int .i64 1); refine (P1 _).mono ?_; rintro e w' ⟨rfl, rfl⟩))
  all_goals go_wp2
  all_goals go_ret
  all_goals (rename_i hh; exact ⟨congrArg (fun n => Ending.returned (.int .i64 n)) (by first | exact r.out | simpa using r.out), Fl.step _ _ _ hb1 hh.2.2⟩)

theorem rwith_6 (b v : Int) (h0 : 0 ≤ b) (h1 : b ≤ 65535) (v0 : 0 ≤ v) (v1 : v < 2) (w : World) : Calls Try.prog 9 #[.int .i64 6, .int .i64 b, .int .i64 v] w fun e w' => e = .returned (.tuple #[.int .i64 (b + (v - b / 32 % 2) * 32), .bool true]) ∧ Below w.heap.size w w' := by
  have c1 : decide (b < 0) = false := by simp; omega
  have c2 : decide (65535 < b) = false := by simp; omega
  have c3 : decide (v < 0) = false := by simp; omega
  have c4 : decide (2 ≤ v) = false := by simp; omega
  have P0 : ∀ w : World, Calls Try.prog 19 #[.int .i64 5] w fun e w' => e = .returned (.int .i64 32) ∧ w = w' := power_any 5 (by omega)
  have P1 : ∀ w : World, Calls Try.prog 19 #[.int .i64 1] w fun e w' => e = .returned (.int .i64 2) ∧ w = w' := power_any 1 (by omega)
  have OF := rof_6 b h0 h1
  have q0 : 0 ≤ b / 32 % 2 := by omega
  have q1 : b / 32 % 2 < 2 := by omega
  have r := Lib.hid (show b + (v - b / 32 % 2) * 32 = b + (v - b / 32 % 2) * 32 from rfl)
  generalize b / 32 % 2 = o at *
  have OT : ∀ w1 w' : World, Tw w1 5 1 w' → Calls Try.prog 11 #[.int .i64 6, .int .i64 b] w' fun e w'' => e = .returned (.int .i64 o) ∧ Tw w1 5 1 w'' := fun w1 w' h => (OF w').mono fun _ _ ⟨he, hb⟩ => ⟨he, tw_next h hb⟩
  clear OF
  have k1 := Lib.hid (show IntKind.i64.wrap (b + IntKind.i64.wrap (IntKind.i64.wrap (v - o) * 32)) = b + (v - o) * 32 by
    rw [IntKind.wrap_i64, IntKind.wrap_i64, IntKind.wrap_i64]; omega)
  have k2 := Lib.hid (show b + (v - o) * 32 = b + (v - o) * 32 from rfl)
  go_enter Try.func9, Try.ntmps9
  go_wp2_with fail
  refine (place_6 _).mono ?_
  rintro e w1 ⟨rfl, hb1⟩
  go_wp2_with fail
  refine (P1 _).mono ?_
  rintro e w' ⟨rfl, rfl⟩
  go_wp2_with fail
  go_region_held3 (fun w' => w'.cell? ⟨w1.heap.size, 0, none⟩ = some (.int .i64 5) ∧ w'.cell? ⟨w1.heap.size, 1, none⟩ = some (.int .i64 1) ∧ Below w1.heap.size w1 w' ∧ w1.heap.size < w'.heap.size)
    (first | assumption | exact ⟨by simp, by simp, ((Below.refl _ _).alloc (Nat.le_refl _) _).drew, by simp⟩)
    (first
      | (go_at_call 11; refine (OT w1 _ ?hs).mono ?_; (case hs => assumption); rintro e w' ⟨rfl, h1⟩)
      | (go_at_call 19; refine (P0 _).mono ?_; rintro e w' ⟨rfl, rfl⟩))
  all_goals go_wp2
  all_goals go_ret2
  all_goals (rename_i hh; exact ⟨congrArg (fun n => Ending.returned (.tuple #[.int .i64 n, .bool true])) (by first | rfl | exact k1.out | exact k2.out | simpa using k1.out | simpa using k2.out), Fl.step _ _ _ hb1 hh.2.2.1⟩)

theorem rof_7 (b : Int) (h0 : 0 ≤ b) (h1 : b ≤ 65535) (w : World) : Calls Try.prog 11 #[.int .i64 7, .int .i64 b] w fun e w' => e = .returned (.int .i64 (b / 16 % 2)) ∧ Below w.heap.size w w' := by
  have c1 : decide (b < 0) = false := by simp; omega
  have c2 : decide (65535 < b) = false := by simp; omega
  have P0 : ∀ w : World, Calls Try.prog 19 #[.int .i64 4] w fun e w' => e = .returned (.int .i64 16) ∧ w = w' := power_any 4 (by omega)
  have P1 : ∀ w : World, Calls Try.prog 19 #[.int .i64 1] w fun e w' => e = .returned (.int .i64 2) ∧ w = w' := power_any 1 (by omega)
  have r := Lib.hid (tq b 16 2 h0 h1 (by omega))
  clear h0 h1
  go_enter Try.func11, Try.ntmps11
  go_wp2_with fail
  refine (place_7 _).mono ?_
  rintro e w1 ⟨rfl, hb1⟩
  go_wp2_with fail
  go_region_held3 (fun w' => w'.cell? ⟨w1.heap.size, 0, none⟩ = some (.int .i64 4) ∧ w'.cell? ⟨w1.heap.size, 1, none⟩ = some (.int .i64 1) ∧ Below w1.heap.size w1 w')
    (first | assumption | exact ⟨by simp, by simp, ((Below.refl _ _).alloc (Nat.le_refl _) _).drew⟩)
    (first
      | (go_at_call_of 19 (Value.int .i64 4); refine (P0 _).mono ?_; rintro e w' ⟨rfl, rfl⟩)
      | (go_at_call_of 19 (Value.int .i64 1); refine (P1 _).mono ?_; rintro e w' ⟨rfl, rfl⟩))
  all_goals go_wp2
  all_goals go_ret
  all_goals (rename_i hh; exact ⟨congrArg (fun n => Ending.returned (.int .i64 n)) (by first | exact r.out | simpa using r.out), Fl.step _ _ _ hb1 hh.2.2⟩)

theorem rwith_7 (b v : Int) (h0 : 0 ≤ b) (h1 : b ≤ 65535) (v0 : 0 ≤ v) (v1 : v < 2) (w : World) : Calls Try.prog 9 #[.int .i64 7, .int .i64 b, .int .i64 v] w fun e w' => e = .returned (.tuple #[.int .i64 (b + (v - b / 16 % 2) * 16), .bool true]) ∧ Below w.heap.size w w' := by
  have c1 : decide (b < 0) = false := by simp; omega
  have c2 : decide (65535 < b) = false := by simp; omega
  have c3 : decide (v < 0) = false := by simp; omega
  have c4 : decide (2 ≤ v) = false := by simp; omega
  have P0 : ∀ w : World, Calls Try.prog 19 #[.int .i64 4] w fun e w' => e = .returned (.int .i64 16) ∧ w = w' := power_any 4 (by omega)
  have P1 : ∀ w : World, Calls Try.prog 19 #[.int .i64 1] w fun e w' => e = .returned (.int .i64 2) ∧ w = w' := power_any 1 (by omega)
  have OF := rof_7 b h0 h1
  have q0 : 0 ≤ b / 16 % 2 := by omega
  have q1 : b / 16 % 2 < 2 := by omega
  have r := Lib.hid (show b + (v - b / 16 % 2) * 16 = b + (v - b / 16 % 2) * 16 from rfl)
  generalize b / 16 % 2 = o at *
  have OT : ∀ w1 w' : World, Tw w1 4 1 w' → Calls Try.prog 11 #[.int .i64 7, .int .i64 b] w' fun e w'' => e = .returned (.int .i64 o) ∧ Tw w1 4 1 w'' := fun w1 w' h => (OF w').mono fun _ _ ⟨he, hb⟩ => ⟨he, tw_next h hb⟩
  clear OF
  have k1 := Lib.hid (show IntKind.i64.wrap (b + IntKind.i64.wrap (IntKind.i64.wrap (v - o) * 16)) = b + (v - o) * 16 by
    rw [IntKind.wrap_i64, IntKind.wrap_i64, IntKind.wrap_i64]; omega)
  have k2 := Lib.hid (show b + (v - o) * 16 = b + (v - o) * 16 from rfl)
  go_enter Try.func9, Try.ntmps9
  go_wp2_with fail
  refine (place_7 _).mono ?_
  rintro e w1 ⟨rfl, hb1⟩
  go_wp2_with fail
  refine (P1 _).mono ?_
  rintro e w' ⟨rfl, rfl⟩
  go_wp2_with fail
  go_region_held3 (fun w' => w'.cell? ⟨w1.heap.size, 0, none⟩ = some (.int .i64 4) ∧ w'.cell? ⟨w1.heap.size, 1, none⟩ = some (.int .i64 1) ∧ Below w1.heap.size w1 w' ∧ w1.heap.size < w'.heap.size)
    (first | assumption | exact ⟨by simp, by simp, ((Below.refl _ _).alloc (Nat.le_refl _) _).drew, by simp⟩)
    (first
      | (go_at_call 11; refine (OT w1 _ ?hs).mono ?_; (case hs => assumption); rintro e w' ⟨rfl, h1⟩)
      | (go_at_call 19; refine (P0 _).mono ?_; rintro e w' ⟨rfl, rfl⟩))
  all_goals go_wp2
  all_goals go_ret2
  all_goals (rename_i hh; exact ⟨congrArg (fun n => Ending.returned (.tuple #[.int .i64 n, .bool true])) (by first | rfl | exact k1.out | exact k2.out | simpa using k1.out | simpa using k2.out), Fl.step _ _ _ hb1 hh.2.2.1⟩)

theorem rof_8 (b : Int) (h0 : 0 ≤ b) (h1 : b ≤ 65535) (w : World) : Calls Try.prog 11 #[.int .i64 8, .int .i64 b] w fun e w' => e = .returned (.int .i64 (b / 1 % 16)) ∧ Below w.heap.size w w' := by
  have c1 : decide (b < 0) = false := by simp; omega
  have c2 : decide (65535 < b) = false := by simp; omega
  have P0 : ∀ w : World, Calls Try.prog 19 #[.int .i64 0] w fun e w' => e = .returned (.int .i64 1) ∧ w = w' := power_any 0 (by omega)
  have P1 : ∀ w : World, Calls Try.prog 19 #[.int .i64 4] w fun e w' => e = .returned (.int .i64 16) ∧ w = w' := power_any 4 (by omega)
  have r := Lib.hid (tq b 1 16 h0 h1 (by omega))
  clear h0 h1
  go_enter Try.func11, Try.ntmps11
  go_wp2_with fail
  refine (place_8 _).mono ?_
  rintro e w1 ⟨rfl, hb1⟩
  go_wp2_with fail
  go_region_held3 (fun w' => w'.cell? ⟨w1.heap.size, 0, none⟩ = some (.int .i64 0) ∧ w'.cell? ⟨w1.heap.size, 1, none⟩ = some (.int .i64 4) ∧ Below w1.heap.size w1 w')
    (first | assumption | exact ⟨by simp, by simp, ((Below.refl _ _).alloc (Nat.le_refl _) _).drew⟩)
    (first
      | (go_at_call_of 19 (Value.int .i64 0); refine (P0 _).mono ?_; rintro e w' ⟨rfl, rfl⟩)
      | (go_at_call_of 19 (Value.int .i64 4); refine (P1 _).mono ?_; rintro e w' ⟨rfl, rfl⟩))
  all_goals go_wp2
  all_goals go_ret
  all_goals (rename_i hh; exact ⟨congrArg (fun n => Ending.returned (.int .i64 n)) (by first | exact r.out | simpa using r.out), Fl.step _ _ _ hb1 hh.2.2⟩)

theorem rwith_8 (b v : Int) (h0 : 0 ≤ b) (h1 : b ≤ 65535) (v0 : 0 ≤ v) (v1 : v < 16) (w : World) : Calls Try.prog 9 #[.int .i64 8, .int .i64 b, .int .i64 v] w fun e w' => e = .returned (.tuple #[.int .i64 (b + (v - b / 1 % 16) * 1), .bool true]) ∧ Below w.heap.size w w' := by
  have c1 : decide (b < 0) = false := by simp; omega
  have c2 : decide (65535 < b) = false := by simp; omega
  have c3 : decide (v < 0) = false := by simp; omega
  have c4 : decide (16 ≤ v) = false := by simp; omega
  have P0 : ∀ w : World, Calls Try.prog 19 #[.int .i64 0] w fun e w' => e = .returned (.int .i64 1) ∧ w = w' := power_any 0 (by omega)
  have P1 : ∀ w : World, Calls Try.prog 19 #[.int .i64 4] w fun e w' => e = .returned (.int .i64 16) ∧ w = w' := power_any 4 (by omega)
  have OF := rof_8 b h0 h1
  have q0 : 0 ≤ b / 1 % 16 := by omega
  have q1 : b / 1 % 16 < 16 := by omega
  have r := Lib.hid (show b + (v - b / 1 % 16) * 1 = b + (v - b / 1 % 16) * 1 from rfl)
  generalize b / 1 % 16 = o at *
  have OT : ∀ w1 w' : World, Tw w1 0 4 w' → Calls Try.prog 11 #[.int .i64 8, .int .i64 b] w' fun e w'' => e = .returned (.int .i64 o) ∧ Tw w1 0 4 w'' := fun w1 w' h => (OF w').mono fun _ _ ⟨he, hb⟩ => ⟨he, tw_next h hb⟩
  clear OF
  have k1 := Lib.hid (show IntKind.i64.wrap (b + IntKind.i64.wrap (IntKind.i64.wrap (v - o) * 1)) = b + (v - o) * 1 by
    rw [IntKind.wrap_i64, IntKind.wrap_i64, IntKind.wrap_i64]; omega)
  have k2 := Lib.hid (show b + (v - o) * 1 = b + (v - o) * 1 from rfl)
  go_enter Try.func9, Try.ntmps9
  go_wp2_with fail
  refine (place_8 _).mono ?_
  rintro e w1 ⟨rfl, hb1⟩
  go_wp2_with fail
  refine (P1 _).mono ?_
  rintro e w' ⟨rfl, rfl⟩
  go_wp2_with fail
  go_region_held3 (fun w' => w'.cell? ⟨w1.heap.size, 0, none⟩ = some (.int .i64 0) ∧ w'.cell? ⟨w1.heap.size, 1, none⟩ = some (.int .i64 4) ∧ Below w1.heap.size w1 w' ∧ w1.heap.size < w'.heap.size)
    (first | assumption | exact ⟨by simp, by simp, ((Below.refl _ _).alloc (Nat.le_refl _) _).drew, by simp⟩)
    (first
      | (go_at_call 11; refine (OT w1 _ ?hs).mono ?_; (case hs => assumption); rintro e w' ⟨rfl, h1⟩)
      | (go_at_call 19; refine (P0 _).mono ?_; rintro e w' ⟨rfl, rfl⟩))
  all_goals go_wp2
  all_goals go_ret2
  all_goals (rename_i hh; exact ⟨congrArg (fun n => Ending.returned (.tuple #[.int .i64 n, .bool true])) (by first | rfl | exact k1.out | exact k2.out | simpa using k1.out | simpa using k2.out), Fl.step _ _ _ hb1 hh.2.2.1⟩)

theorem rof_out (f b : Int) (h : ¬ (0 ≤ b ∧ b ≤ 65535 ∧ 0 ≤ f ∧ f < 9)) (w : World) : Calls Try.prog 11 #[.int .i64 f, .int .i64 b] w fun e w' => e = .returned (.int .i64 0) ∧ Below w.heap.size w w' := by
  have P : ∃ l m : Int, ∀ w : World, Calls Try.prog 18 #[.int .i64 f] w fun e w' => e = .returned (.agg #[.int .i64 l, .int .i64 m]) ∧ Below w.heap.size w w' := by
    by_cases hf : 0 ≤ f ∧ f < 9
    · rcases nine hf.1 hf.2 with rfl | rfl | rfl | rfl | rfl | rfl | rfl | rfl | rfl
      · exact ⟨_, _, place_0⟩
      · exact ⟨_, _, place_1⟩
      · exact ⟨_, _, place_2⟩
      · exact ⟨_, _, place_3⟩
      · exact ⟨_, _, place_4⟩
      · exact ⟨_, _, place_5⟩
      · exact ⟨_, _, place_6⟩
      · exact ⟨_, _, place_7⟩
      · exact ⟨_, _, place_8⟩
    · exact ⟨_, _, place_out f (by omega)⟩
  by_cases h0 : b < 0
  · obtain ⟨l, m, P⟩ := P
    have c1 : decide (b < 0) = true := by simpa using h0
    clear h h0
    go_enter Try.func11, Try.ntmps11
    go_wp2_with fail
    refine (P _).mono ?_
    rintro e w1 ⟨rfl, hb1⟩
    go_wp2_with fail
    go_ret
    exact ⟨rfl, hb1.trans (((Below.refl _ _).alloc (Nat.le_refl _) _).mono hb1.size)⟩
  · by_cases h1 : 65535 < b
    · obtain ⟨l, m, P⟩ := P
      have c1 : decide (b < 0) = false := by simpa using h0
      have c2 : decide (65535 < b) = true := by simpa using h1
      clear h h0 h1
      go_enter Try.func11, Try.ntmps11
      go_wp2_with fail
      refine (P _).mono ?_
      rintro e w1 ⟨rfl, hb1⟩
      go_wp2_with fail
      go_ret
      exact ⟨rfl, hb1.trans (((Below.refl _ _).alloc (Nat.le_refl _) _).mono hb1.size)⟩
    · have P2 := place_out f (by omega)
      have c1 : decide (b < 0) = false := by simpa using h0
      have c2 : decide (65535 < b) = false := by simpa using h1
      clear P h h0 h1
      go_enter Try.func11, Try.ntmps11
      go_wp2_with fail
      refine (P2 _).mono ?_
      rintro e w1 ⟨rfl, hb1⟩
      go_wp2_with fail
      go_ret
      exact ⟨rfl, hb1.trans (((Below.refl _ _).alloc (Nat.le_refl _) _).mono hb1.size)⟩

theorem rof_any (f b : Int) (w : World) : Calls Try.prog 11 #[.int .i64 f, .int .i64 b] w fun e w' => e = .returned (.int .i64 (ofF f b)) ∧ Below w.heap.size w w' := by
  by_cases h : 0 ≤ b ∧ b ≤ 65535 ∧ 0 ≤ f ∧ f < 9
  · obtain ⟨h0, h1, h2, h3⟩ := h
    rcases nine h2 h3 with rfl | rfl | rfl | rfl | rfl | rfl | rfl | rfl | rfl
    · rw [of0_eq b h0 h1]; exact rof_0 b h0 h1 w
    · rw [of1_eq b h0 h1]; exact rof_1 b h0 h1 w
    · rw [of2_eq b h0 h1]; exact rof_2 b h0 h1 w
    · rw [of3_eq b h0 h1]; exact rof_3 b h0 h1 w
    · rw [of4_eq b h0 h1]; exact rof_4 b h0 h1 w
    · rw [of5_eq b h0 h1]; exact rof_5 b h0 h1 w
    · rw [of6_eq b h0 h1]; exact rof_6 b h0 h1 w
    · rw [of7_eq b h0 h1]; exact rof_7 b h0 h1 w
    · rw [of8_eq b h0 h1]; exact rof_8 b h0 h1 w
  · have e : ofF f b = 0 := by unfold ofF; rw [if_neg (by rw [may_iff]; exact h)]
    rw [e]; exact rof_out f b h w

theorem rwith_no (f b v : Int) (h : okB f b v = false) (w : World) : Calls Try.prog 9 #[.int .i64 f, .int .i64 b, .int .i64 v] w fun e w' => e = .returned (.tuple #[.int .i64 0, .bool false]) ∧ Below w.heap.size w w' := by
  have hn : ¬ ((0 ≤ b ∧ b ≤ 65535 ∧ 0 ≤ f ∧ f < 9) ∧ 0 ≤ v ∧ v < wid f) := by rw [← ok_iff, h]; simp
  have P : ∃ l m : Int, ∀ w : World, Calls Try.prog 18 #[.int .i64 f] w fun e w' => e = .returned (.agg #[.int .i64 l, .int .i64 m]) ∧ Below w.heap.size w w' := by
    by_cases hf : 0 ≤ f ∧ f < 9
    · rcases nine hf.1 hf.2 with rfl | rfl | rfl | rfl | rfl | rfl | rfl | rfl | rfl
      · exact ⟨_, _, place_0⟩
      · exact ⟨_, _, place_1⟩
      · exact ⟨_, _, place_2⟩
      · exact ⟨_, _, place_3⟩
      · exact ⟨_, _, place_4⟩
      · exact ⟨_, _, place_5⟩
      · exact ⟨_, _, place_6⟩
      · exact ⟨_, _, place_7⟩
      · exact ⟨_, _, place_8⟩
    · exact ⟨_, _, place_out f (by omega)⟩
  by_cases h0 : b < 0
  · obtain ⟨l, m, P⟩ := P
    have c1 : decide (b < 0) = true := by simpa using h0
    clear h h0 hn
    go_enter Try.func9, Try.ntmps9
    go_wp2_with fail
    refine (P _).mono ?_
    rintro e w1 ⟨rfl, hb1⟩
    go_wp2_with fail
    go_ret2
    exact ⟨rfl, hb1.trans (((Below.refl _ _).alloc (Nat.le_refl _) _).mono hb1.size)⟩
  · have c1 : decide (b < 0) = false := by simpa using h0
    by_cases h1 : 65535 < b
    · obtain ⟨l, m, P⟩ := P
      have c2 : decide (65535 < b) = true := by simpa using h1
      clear h h0 h1 hn
      go_enter Try.func9, Try.ntmps9
      go_wp2_with fail
      refine (P _).mono ?_
      rintro e w1 ⟨rfl, hb1⟩
      go_wp2_with fail
      go_ret2
      exact ⟨rfl, hb1.trans (((Below.refl _ _).alloc (Nat.le_refl _) _).mono hb1.size)⟩
    · have c2 : decide (65535 < b) = false := by simpa using h1
      clear P
      by_cases hf : 0 ≤ f ∧ f < 9
      · by_cases hv : v < 0
        · have P : ∃ l m : Int, (m == 0) = false ∧ ∀ w : World, Calls Try.prog 18 #[.int .i64 f] w fun e w' => e = .returned (.agg #[.int .i64 l, .int .i64 m]) ∧ Below w.heap.size w w' := by
            rcases nine hf.1 hf.2 with rfl | rfl | rfl | rfl | rfl | rfl | rfl | rfl | rfl
            · exact ⟨_, _, rfl, place_0⟩
            · exact ⟨_, _, rfl, place_1⟩
            · exact ⟨_, _, rfl, place_2⟩
            · exact ⟨_, _, rfl, place_3⟩
            · exact ⟨_, _, rfl, place_4⟩
            · exact ⟨_, _, rfl, place_5⟩
            · exact ⟨_, _, rfl, place_6⟩
            · exact ⟨_, _, rfl, place_7⟩
            · exact ⟨_, _, rfl, place_8⟩
          obtain ⟨l, m, c4, P⟩ := P
          have c3 : decide (v < 0) = true := by simpa using hv
          clear h h0 h1 hn hf hv
          go_enter Try.func9, Try.ntmps9
          go_wp2_with fail
          refine (P _).mono ?_
          rintro e w1 ⟨rfl, hb1⟩
          go_wp2_with fail
          go_ret2
          exact ⟨rfl, hb1.trans (((Below.refl _ _).alloc (Nat.le_refl _) _).mono hb1.size)⟩
        · have P : ∃ (l m : Int) (K : Int), (m == 0) = false ∧ K = wid f ∧ (∀ w : World, Calls Try.prog 19 #[.int .i64 m] w fun e w' => e = .returned (.int .i64 K) ∧ w = w') ∧ ∀ w : World, Calls Try.prog 18 #[.int .i64 f] w fun e w' => e = .returned (.agg #[.int .i64 l, .int .i64 m]) ∧ Below w.heap.size w w' := by
            rcases nine hf.1 hf.2 with rfl | rfl | rfl | rfl | rfl | rfl | rfl | rfl | rfl
            · exact ⟨_, _, 2, rfl, rfl, power_any 1 (by omega), place_0⟩
            · exact ⟨_, _, 16, rfl, rfl, power_any 4 (by omega), place_1⟩
            · exact ⟨_, _, 2, rfl, rfl, power_any 1 (by omega), place_2⟩
            · exact ⟨_, _, 2, rfl, rfl, power_any 1 (by omega), place_3⟩
            · exact ⟨_, _, 2, rfl, rfl, power_any 1 (by omega), place_4⟩
            · exact ⟨_, _, 2, rfl, rfl, power_any 1 (by omega), place_5⟩
            · exact ⟨_, _, 2, rfl, rfl, power_any 1 (by omega), place_6⟩
            · exact ⟨_, _, 2, rfl, rfl, power_any 1 (by omega), place_7⟩
            · exact ⟨_, _, 16, rfl, rfl, power_any 4 (by omega), place_8⟩
          obtain ⟨l, m, K, c4, hK, PW, P⟩ := P
          have c3 : decide (v < 0) = false := by simpa using hv
          have c5 : decide (K ≤ v) = true := by simp; omega
          clear h h0 h1 hn hf hv hK
          go_enter Try.func9, Try.ntmps9
          go_wp2_with fail
          refine (P _).mono ?_
          rintro e w1 ⟨rfl, hb1⟩
          go_wp2_with fail
          refine (PW _).mono ?_
          rintro e w' ⟨rfl, rfl⟩
          go_wp2_with fail
          go_ret2
          exact ⟨rfl, hb1.trans (((Below.refl _ _).alloc (Nat.le_refl _) _).mono hb1.size)⟩
      · have P := place_out f (by omega)
        clear h h0 h1 hn hf
        go_enter Try.func9, Try.ntmps9
        go_wp2_with fail
        refine (P _).mono ?_
        rintro e w1 ⟨rfl, hb1⟩
        go_wp2_with fail
        go_ret2
        exact ⟨rfl, hb1.trans (((Below.refl _ _).alloc (Nat.le_refl _) _).mono hb1.size)⟩

theorem rwith_any (f b v : Int) (w : World) : Calls Try.prog 9 #[.int .i64 f, .int .i64 b, .int .i64 v] w fun e w' => e = .returned (.tuple #[.int .i64 (withF f b v), .bool (okB f b v)]) ∧ Below w.heap.size w w' := by
  by_cases h : okB f b v = true
  · obtain ⟨⟨h0, h1, h2, h3⟩, v0, v1⟩ := (ok_iff f b v).1 h
    rw [h]
    rcases nine h2 h3 with rfl | rfl | rfl | rfl | rfl | rfl | rfl | rfl | rfl
    · rw [with0_eq b v h0 h1 v0 v1]; exact rwith_0 b v h0 h1 v0 v1 w
    · rw [with1_eq b v h0 h1 v0 v1]; exact rwith_1 b v h0 h1 v0 v1 w
    · rw [with2_eq b v h0 h1 v0 v1]; exact rwith_2 b v h0 h1 v0 v1 w
    · rw [with3_eq b v h0 h1 v0 v1]; exact rwith_3 b v h0 h1 v0 v1 w
    · rw [with4_eq b v h0 h1 v0 v1]; exact rwith_4 b v h0 h1 v0 v1 w
    · rw [with5_eq b v h0 h1 v0 v1]; exact rwith_5 b v h0 h1 v0 v1 w
    · rw [with6_eq b v h0 h1 v0 v1]; exact rwith_6 b v h0 h1 v0 v1 w
    · rw [with7_eq b v h0 h1 v0 v1]; exact rwith_7 b v h0 h1 v0 v1 w
    · rw [with8_eq b v h0 h1 v0 v1]; exact rwith_8 b v h0 h1 v0 v1 w
  · have e : okB f b v = false := by simpa using h
    have e2 : withF f b v = 0 := by unfold withF; rw [e]; rfl
    rw [e2, e]
    exact rwith_no f b v e w

theorem rans_any (a c : Int) (w : World) : Calls Try.prog 13 #[.int .i64 a, .int .i64 c] w fun e w' => e = .returned (.int .i64 (ans3 a c)) ∧ Below w.heap.size w w' := by
  have O1 := rof_any 1 a
  have O4 := rof_any 4 a
  have O7 := rof_any 7 a
  obtain ⟨p0, p1⟩ := of1_bd a
  obtain ⟨r0, r1⟩ := of4_bd a
  obtain ⟨s0, s1⟩ := of7_bd a
  have R := Lib.hid (ans_eq a c)
  generalize ofF 1 a = x at *
  generalize ofF 4 a = y at *
  generalize ofF 7 a = z at *
  by_cases h : c < 0
  · have e : Hid (capC c = 0) := Lib.hid (by unfold capC; rw [if_pos h])
    have c1 : decide (c < 0) = true := by simpa using h
    clear h
    go_enter Try.func13, Try.ntmps13
    go_wp2_with fail
    refine (O1 _).mono ?_
    rintro e w1 ⟨rfl, hb1⟩
    go_wp2_with fail
    refine (O4 _).mono ?_
    rintro e w2 ⟨rfl, hb2⟩
    go_wp2_with fail
    refine (O7 _).mono ?_
    rintro e w3 ⟨rfl, hb3⟩
    go_wp2_with fail
    go_ret
    exact ⟨congrArg (fun n => Ending.returned (.int .i64 n)) (by rw [R.out, e.out]; simp), Fl.step _ _ _ (Fl.step _ _ _ hb1 hb2) hb3⟩
  · have e : Hid (capC c = c % 16) := Lib.hid (by unfold capC; rw [if_neg h])
    have c1 : decide (c < 0) = false := by simpa using h
    have h : 0 ≤ c := by omega
    go_enter Try.func13, Try.ntmps13
    go_wp2_with fail
    refine (O1 _).mono ?_
    rintro e w1 ⟨rfl, hb1⟩
    go_wp2_with fail
    refine (O4 _).mono ?_
    rintro e w2 ⟨rfl, hb2⟩
    go_wp2_with fail
    refine (O7 _).mono ?_
    rintro e w3 ⟨rfl, hb3⟩
    go_wp2_with fail
    go_ret
    exact ⟨congrArg (fun n => Ending.returned (.int .i64 n)) (by rw [R.out, e.out]), Fl.step _ _ _ (Fl.step _ _ _ hb1 hb2) hb3⟩

end Go.Proofs.Ytpekoponfahliaa.Fs
