/- The contracts of the reference of package edns: Record, Limit and Code. -/
import Derived.Test.YtnbngkecabacaaaEv
import Derived.WalkKit
import Derived.Below
import Derived.KernelRfl
import Derived.LoopTactic
import Derived.LoopN
import Derived.Outline
import Derived.Deep.RegionHeld3
import Derived.Lib.Hide
import Derived.Laws.Tables
import Derived.Laws.Rows
namespace Go.Proofs.Ytnbngkecabacaaa.Ex
open Go.RowKit Go.Proofs.Ytnbngkecabacaaa.Fb Go.Proofs.Ytnbngkecabacaaa.Fl Go.Proofs.Ytnbngkecabacaaa.Fr Go.Proofs.Ytnbngkecabacaaa.Ed
set_option linter.unusedVariables false
open Go.Proofs.Ytnbngkecabacaaa.Ef
open Go.Proofs.Ytnbngkecabacaaa.Eg
open Go.Proofs.Ytnbngkecabacaaa.Ev

set_option maxHeartbeats 1000000 in
theorem rr_no (s x v : Int) (d : Bool) (w : World)   :
    Calls Try.prog 13 #[.agg #[.bool false, .int .i64 s, .int .i64 x, .int .i64 v, .bool d]] w fun e w' => e = .returned (.tuple #[.agg #[.string ⟨#[]⟩, .int .i64 0, .int .i64 0, .int .i64 0, .string ⟨#[]⟩], .bool false]) ∧ Below w.heap.size w w' := by
  go_enter Try.func13, Try.ntmps13
  go_wp2
  exact bodyPost_ret (v := .tuple #[.agg #[.string ⟨#[]⟩, .int .i64 0, .int .i64 0, .int .i64 0, .string ⟨#[]⟩], .bool false]) (by simp [results, Try.results13, go_sem, *]) rfl ⟨rfl, ((Below.refl _ _).alloc (Nat.le_refl _) _).alloc (by simp) _⟩

set_option maxHeartbeats 1000000 in
theorem rr_1 (s x v : Int) (d : Bool) (w : World) (k1 : s < 0)  :
    Calls Try.prog 13 #[.agg #[.bool true, .int .i64 s, .int .i64 x, .int .i64 v, .bool d]] w fun e w' => e = .returned (.tuple #[.agg #[.string ⟨#[]⟩, .int .i64 0, .int .i64 0, .int .i64 0, .string ⟨#[]⟩], .bool false]) ∧ Below w.heap.size w w' := by
  have c1 : decide (s < 0) = true := by simp; omega
  go_enter Try.func13, Try.ntmps13
  go_wp2
  exact bodyPost_ret (v := .tuple #[.agg #[.string ⟨#[]⟩, .int .i64 0, .int .i64 0, .int .i64 0, .string ⟨#[]⟩], .bool false]) (by simp [results, Try.results13, go_sem, *]) rfl ⟨rfl, ((Below.refl _ _).alloc (Nat.le_refl _) _).alloc (by simp) _⟩

set_option maxHeartbeats 1000000 in
theorem rr_2 (s x v : Int) (d : Bool) (w : World) (k1 : ¬ s < 0) (k2 : 65535 < s)  :
    Calls Try.prog 13 #[.agg #[.bool true, .int .i64 s, .int .i64 x, .int .i64 v, .bool d]] w fun e w' => e = .returned (.tuple #[.agg #[.string ⟨#[]⟩, .int .i64 0, .int .i64 0, .int .i64 0, .string ⟨#[]⟩], .bool false]) ∧ Below w.heap.size w w' := by
  have c1 : decide (s < 0) = false := by simp; omega
  have c2 : decide (65535 < s) = true := by simp; omega
  go_enter Try.func13, Try.ntmps13
  go_wp2
  exact bodyPost_ret (v := .tuple #[.agg #[.string ⟨#[]⟩, .int .i64 0, .int .i64 0, .int .i64 0, .string ⟨#[]⟩], .bool false]) (by simp [results, Try.results13, go_sem, *]) rfl ⟨rfl, ((Below.refl _ _).alloc (Nat.le_refl _) _).alloc (by simp) _⟩

set_option maxHeartbeats 1000000 in
theorem rr_3 (s x v : Int) (d : Bool) (w : World) (k1 : ¬ s < 0) (k2 : ¬ 65535 < s) (k3 : x < 0)  :
    Calls Try.prog 13 #[.agg #[.bool true, .int .i64 s, .int .i64 x, .int .i64 v, .bool d]] w fun e w' => e = .returned (.tuple #[.agg #[.string ⟨#[]⟩, .int .i64 0, .int .i64 0, .int .i64 0, .string ⟨#[]⟩], .bool false]) ∧ Below w.heap.size w w' := by
  have c1 : decide (s < 0) = false := by simp; omega
  have c2 : decide (65535 < s) = false := by simp; omega
  have c3 : decide (x < 0) = true := by simp; omega
  go_enter Try.func13, Try.ntmps13
  go_wp2
  exact bodyPost_ret (v := .tuple #[.agg #[.string ⟨#[]⟩, .int .i64 0, .int .i64 0, .int .i64 0, .string ⟨#[]⟩], .bool false]) (by simp [results, Try.results13, go_sem, *]) rfl ⟨rfl, ((Below.refl _ _).alloc (Nat.le_refl _) _).alloc (by simp) _⟩

set_option maxHeartbeats 1000000 in
theorem rr_4 (s x v : Int) (d : Bool) (w : World) (k1 : ¬ s < 0) (k2 : ¬ 65535 < s) (k3 : ¬ x < 0) (k4 : 127 < x)  :
    Calls Try.prog 13 #[.agg #[.bool true, .int .i64 s, .int .i64 x, .int .i64 v, .bool d]] w fun e w' => e = .returned (.tuple #[.agg #[.string ⟨#[]⟩, .int .i64 0, .int .i64 0, .int .i64 0, .string ⟨#[]⟩], .bool false]) ∧ Below w.heap.size w w' := by
  have c1 : decide (s < 0) = false := by simp; omega
  have c2 : decide (65535 < s) = false := by simp; omega
  have c3 : decide (x < 0) = false := by simp; omega
  have c4 : decide (127 < x) = true := by simp; omega
  go_enter Try.func13, Try.ntmps13
  go_wp2
  exact bodyPost_ret (v := .tuple #[.agg #[.string ⟨#[]⟩, .int .i64 0, .int .i64 0, .int .i64 0, .string ⟨#[]⟩], .bool false]) (by simp [results, Try.results13, go_sem, *]) rfl ⟨rfl, ((Below.refl _ _).alloc (Nat.le_refl _) _).alloc (by simp) _⟩

set_option maxHeartbeats 1000000 in
theorem rr_5 (s x v : Int) (d : Bool) (w : World) (k1 : ¬ s < 0) (k2 : ¬ 65535 < s) (k3 : ¬ x < 0) (k4 : ¬ 127 < x) (k5 : v < 0)  :
    Calls Try.prog 13 #[.agg #[.bool true, .int .i64 s, .int .i64 x, .int .i64 v, .bool d]] w fun e w' => e = .returned (.tuple #[.agg #[.string ⟨#[]⟩, .int .i64 0, .int .i64 0, .int .i64 0, .string ⟨#[]⟩], .bool false]) ∧ Below w.heap.size w w' := by
  have c1 : decide (s < 0) = false := by simp; omega
  have c2 : decide (65535 < s) = false := by simp; omega
  have c3 : decide (x < 0) = false := by simp; omega
  have c4 : decide (127 < x) = false := by simp; omega
  have c5 : decide (v < 0) = true := by simp; omega
  go_enter Try.func13, Try.ntmps13
  go_wp2
  exact bodyPost_ret (v := .tuple #[.agg #[.string ⟨#[]⟩, .int .i64 0, .int .i64 0, .int .i64 0, .string ⟨#[]⟩], .bool false]) (by simp [results, Try.results13, go_sem, *]) rfl ⟨rfl, ((Below.refl _ _).alloc (Nat.le_refl _) _).alloc (by simp) _⟩

set_option maxHeartbeats 1000000 in
theorem rr_6 (s x v : Int) (d : Bool) (w : World) (k1 : ¬ s < 0) (k2 : ¬ 65535 < s) (k3 : ¬ x < 0) (k4 : ¬ 127 < x) (k5 : ¬ v < 0) (k6 : 255 < v)  :
    Calls Try.prog 13 #[.agg #[.bool true, .int .i64 s, .int .i64 x, .int .i64 v, .bool d]] w fun e w' => e = .returned (.tuple #[.agg #[.string ⟨#[]⟩, .int .i64 0, .int .i64 0, .int .i64 0, .string ⟨#[]⟩], .bool false]) ∧ Below w.heap.size w w' := by
  have c1 : decide (s < 0) = false := by simp; omega
  have c2 : decide (65535 < s) = false := by simp; omega
  have c3 : decide (x < 0) = false := by simp; omega
  have c4 : decide (127 < x) = false := by simp; omega
  have c5 : decide (v < 0) = false := by simp; omega
  have c6 : decide (255 < v) = true := by simp; omega
  go_enter Try.func13, Try.ntmps13
  go_wp2
  exact bodyPost_ret (v := .tuple #[.agg #[.string ⟨#[]⟩, .int .i64 0, .int .i64 0, .int .i64 0, .string ⟨#[]⟩], .bool false]) (by simp [results, Try.results13, go_sem, *]) rfl ⟨rfl, ((Below.refl _ _).alloc (Nat.le_refl _) _).alloc (by simp) _⟩

set_option maxHeartbeats 1000000 in
theorem rr_true (s x v : Int)  (w : World) (k1 : 0 ≤ s) (k2 : s ≤ 65535) (k3 : 0 ≤ x) (k4 : x ≤ 127) (k5 : 0 ≤ v) (k6 : v ≤ 255)  :
    Calls Try.prog 13 #[.agg #[.bool true, .int .i64 s, .int .i64 x, .int .i64 v, .bool true]] w fun e w' => e = .returned (.tuple #[.agg #[.string ⟨#[0]⟩, .int .i64 41, .int .i64 s, .int .i64 (x * 16777216 + v * 65536 + 32768), .string ⟨#[]⟩], .bool true]) ∧ Below w.heap.size w w' := by
  have c1 : decide (s < 0) = false := by simp; omega
  have c2 : decide (65535 < s) = false := by simp; omega
  have c3 : decide (x < 0) = false := by simp; omega
  have c4 : decide (127 < x) = false := by simp; omega
  have c5 : decide (v < 0) = false := by simp; omega
  have c6 : decide (255 < v) = false := by simp; omega
  go_enter Try.func13, Try.ntmps13
  go_wp2
  exact bodyPost_ret (v := .tuple #[.agg #[.string ⟨#[0]⟩, .int .i64 41, .int .i64 s, .int .i64 (x * 16777216 + v * 65536 + 32768), .string ⟨#[]⟩], .bool true]) (by simp [results, Try.results13, go_sem, *]) rfl ⟨rfl, ((Below.refl _ _).alloc (Nat.le_refl _) _).alloc (by simp) _⟩

set_option maxHeartbeats 1000000 in
theorem rr_false (s x v : Int)  (w : World) (k1 : 0 ≤ s) (k2 : s ≤ 65535) (k3 : 0 ≤ x) (k4 : x ≤ 127) (k5 : 0 ≤ v) (k6 : v ≤ 255)  :
    Calls Try.prog 13 #[.agg #[.bool true, .int .i64 s, .int .i64 x, .int .i64 v, .bool false]] w fun e w' => e = .returned (.tuple #[.agg #[.string ⟨#[0]⟩, .int .i64 41, .int .i64 s, .int .i64 (x * 16777216 + v * 65536), .string ⟨#[]⟩], .bool true]) ∧ Below w.heap.size w w' := by
  have c1 : decide (s < 0) = false := by simp; omega
  have c2 : decide (65535 < s) = false := by simp; omega
  have c3 : decide (x < 0) = false := by simp; omega
  have c4 : decide (127 < x) = false := by simp; omega
  have c5 : decide (v < 0) = false := by simp; omega
  have c6 : decide (255 < v) = false := by simp; omega
  go_enter Try.func13, Try.ntmps13
  go_wp2
  exact bodyPost_ret (v := .tuple #[.agg #[.string ⟨#[0]⟩, .int .i64 41, .int .i64 s, .int .i64 (x * 16777216 + v * 65536), .string ⟨#[]⟩], .bool true]) (by simp [results, Try.results13, go_sem, *]) rfl ⟨rfl, ((Below.refl _ _).alloc (Nat.le_refl _) _).alloc (by simp) _⟩

theorem rrecord_any (o : OV) (w : World) : Calls Try.prog 13 #[o.agg] w fun e w' => e = .returned (.tuple #[(recS o).agg, .bool (okO o)]) ∧ Below w.heap.size w w' := by
  obtain ⟨h, s, x, v, d⟩ := o
  have no : okO ⟨h, s, x, v, d⟩ = false → recS ⟨h, s, x, v, d⟩ = ⟨⟨#[]⟩, 0, 0, 0⟩ := fun e => by unfold recS; rw [e]; rfl
  cases h
  · have e : okO ⟨false, s, x, v, d⟩ = false := rfl
    rw [no e, e]; exact rr_no s x v d w
  · have bad : (s < 0 ∨ 65535 < s ∨ x < 0 ∨ 127 < x ∨ v < 0 ∨ 255 < v) → okO ⟨true, s, x, v, d⟩ = false := fun hb => by
      unfold okO inB
      simp only [Bool.true_and]
      rcases Bool.eq_false_or_eq_true (decide (0 ≤ s ∧ s ≤ 65535) && decide (0 ≤ x ∧ x ≤ 127) && decide (0 ≤ v ∧ v ≤ 255)) with h1 | h1
      · simp only [Bool.and_eq_true, decide_eq_true_eq] at h1; omega
      · exact h1
    by_cases k1 : s < 0
    · have e := bad (by omega); rw [no e, e]; exact rr_1 s x v d w k1
    by_cases k2 : 65535 < s
    · have e := bad (by omega); rw [no e, e]; exact rr_2 s x v d w k1 k2
    by_cases k3 : x < 0
    · have e := bad (by omega); rw [no e, e]; exact rr_3 s x v d w k1 k2 k3
    by_cases k4 : 127 < x
    · have e := bad (by omega); rw [no e, e]; exact rr_4 s x v d w k1 k2 k3 k4
    by_cases k5 : v < 0
    · have e := bad (by omega); rw [no e, e]; exact rr_5 s x v d w k1 k2 k3 k4 k5
    by_cases k6 : 255 < v
    · have e := bad (by omega); rw [no e, e]; exact rr_6 s x v d w k1 k2 k3 k4 k5 k6
    have e : okO ⟨true, s, x, v, d⟩ = true := by unfold okO inB; simp; omega
    have e2 : recS ⟨true, s, x, v, d⟩ = ⟨⟨#[0]⟩, 41, s, ttlO ⟨true, s, x, v, d⟩⟩ := by unfold recS; rw [e]; rfl
    rw [e, e2]
    unfold ttlO RecOut.agg
    dsimp only
    cases d
    · have := rr_false s x v w (by omega) (by omega) (by omega) (by omega) (by omega) (by omega)
      have e3 : x * 16777216 + v * 65536 + (if false = true then (32768 : Int) else 0) = x * 16777216 + v * 65536 := by simp
      rw [e3]; exact this
    · exact rr_true s x v w (by omega) (by omega) (by omega) (by omega) (by omega) (by omega)

theorem rlimit_any (o : OV) (w : World) : Calls Try.prog 15 #[o.agg] w fun e w' => e = .returned (.int .i64 (limO o)) ∧ Below w.heap.size w w' := by
  obtain ⟨h, s, x, v, d⟩ := o
  unfold OV.agg limO
  dsimp only
  cases h
  · rw [if_neg (by simp)]
    go_enter Try.func15, Try.ntmps15
    go_wp2
    go_ret
    exact ⟨rfl, (Below.refl _ _).alloc (Nat.le_refl _) _⟩
  · rw [if_pos rfl]
    by_cases h1 : s < 512
    · rw [if_pos h1]
      have c1 : decide (s < 512) = true := by simpa using h1
      clear h1
      go_enter Try.func15, Try.ntmps15
      go_wp2
      go_ret
      exact ⟨rfl, (Below.refl _ _).alloc (Nat.le_refl _) _⟩
    · rw [if_neg h1]
      have c1 : decide (s < 512) = false := by simpa using h1
      by_cases h2 : 4096 < s
      · rw [if_pos h2]
        go_enter Try.func15, Try.ntmps15
        go_wp2
        go_ret
        exact ⟨rfl, (Below.refl _ _).alloc (Nat.le_refl _) _⟩
      · rw [if_neg h2]
        have h2' : s ≤ 4096 := by omega
        go_enter Try.func15, Try.ntmps15
        go_wp2
        go_ret
        exact ⟨rfl, (Below.refl _ _).alloc (Nat.le_refl _) _⟩

theorem rcode_any (b : Int) (o : OV) (w : World) : Calls Try.prog 17 #[.int .i64 b, o.agg] w fun e w' => e = .returned (.int .i64 (codeO b o)) ∧ Below w.heap.size w w' := by
  obtain ⟨h, s, x, v, d⟩ := o
  unfold OV.agg codeO
  dsimp only
  have O := rof8_any b
  generalize rcOf b = c at *
  cases h
  · rw [if_neg (by simp)]
    go_enter Try.func17, Try.ntmps17
    go_wp2_with fail
    refine (O _).mono ?_
    rintro e w1 ⟨rfl, hb⟩
    obtain ⟨q1, f1⟩ := bcell hb
    have z1 : w.heap.size < w1.heap.size := by have := hb.size; simp at this; omega
    go_wp2_with fail
    go_ret
    exact ⟨rfl, ((Below.refl _ _).alloc (Nat.le_refl _) _).trans (hb.mono (by simp))⟩
  · rw [if_pos rfl]
    go_enter Try.func17, Try.ntmps17
    go_wp2_with fail
    refine (O _).mono ?_
    rintro e w1 ⟨rfl, hb⟩
    obtain ⟨q1, f1⟩ := bcell hb
    have z1 : w.heap.size < w1.heap.size := by have := hb.size; simp at this; omega
    go_wp2_with fail
    go_ret
    exact ⟨rfl, ((Below.refl _ _).alloc (Nat.le_refl _) _).trans (hb.mono (by simp))⟩

end Go.Proofs.Ytnbngkecabacaaa.Ex
