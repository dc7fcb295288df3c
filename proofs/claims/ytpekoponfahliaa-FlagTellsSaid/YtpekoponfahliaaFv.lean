/- The law's file's own answers stand: live tells true. -/
import Derived.Test.YtpekoponfahliaaProg
import Derived.WalkKit
import Derived.Below
import Derived.KernelRfl
import Derived.Outline
import Derived.Laws.Tables
import Derived.Laws.Rows
import Derived.Deep.RegionHeld3
import Derived.Test.YtpekoponfahliaaFp
import Derived.LoopTactic
import Derived.LoopN
namespace Go.Proofs.Ytpekoponfahliaa
open Go.RowKit
open Go.Proofs.Ytpekoponfahliaa.Fb Go.Proofs.Ytpekoponfahliaa.Fl Go.Proofs.Ytpekoponfahliaa.Fm Go.Proofs.Ytpekoponfahliaa.Fp
set_option linter.unusedVariables false

namespace Fv
theorem live_any (w : World) : Calls Try.prog 14 #[] w fun e w' => e = .returned (.bool true) ∧ Below w.heap.size w w' := by
  have w0 : ∀ w : World, Calls Try.prog 8 #[.int .i64 1, .int .i64 33152, .int .i64 5] w fun e w' => e = .returned (.tuple #[.int .i64 43392, .bool true]) ∧ Below w.heap.size w w' := with_any 1 33152 5
  have w1 : ∀ w : World, Calls Try.prog 8 #[.int .i64 0, .int .i64 0, .int .i64 2] w fun e w' => e = .returned (.tuple #[.int .i64 0, .bool false]) ∧ Below w.heap.size w w' := with_any 0 0 2
  have o0 : ∀ w : World, Calls Try.prog 10 #[.int .i64 0, .int .i64 33152] w fun e w' => e = .returned (.int .i64 1) ∧ Below w.heap.size w w' := of_any 0 33152
  have o1 : ∀ w : World, Calls Try.prog 10 #[.int .i64 4, .int .i64 33152] w fun e w' => e = .returned (.int .i64 1) ∧ Below w.heap.size w w' := of_any 4 33152
  have o2 : ∀ w : World, Calls Try.prog 10 #[.int .i64 8, .int .i64 33155] w fun e w' => e = .returned (.int .i64 3) ∧ Below w.heap.size w w' := of_any 8 33155
  have o3 : ∀ w : World, Calls Try.prog 10 #[.int .i64 1, .int .i64 30720] w fun e w' => e = .returned (.int .i64 15) ∧ Below w.heap.size w w' := of_any 1 30720
  have a0 : ∀ w : World, Calls Try.prog 12 #[.int .i64 272, .int .i64 3] w fun e w' => e = .returned (.int .i64 33171) ∧ Below w.heap.size w w' := ans_any 272 3 (by omega)
  have a1 : ∀ w : World, Calls Try.prog 12 #[.int .i64 (-1), .int .i64 18] w fun e w' => e = .returned (.int .i64 32898) ∧ Below w.heap.size w w' := ans_any (-1) 18 (by omega)
  have o4 : ∀ w : World, Calls Try.prog 10 #[.int .i64 9, .int .i64 65535] w fun e w' => e = .returned (.int .i64 0) ∧ Below w.heap.size w w' := of_any 9 65535
  have o5 : ∀ w : World, Calls Try.prog 10 #[.int .i64 6, .int .i64 32] w fun e w' => e = .returned (.int .i64 1) ∧ Below w.heap.size w w' := of_any 6 32
  go_enter Try.func14, Try.ntmps14
  go_wp2_with fail
  refine (w0 _).mono ?_
  rintro e W1 ⟨rfl, b1⟩
  go_wp2_with fail
  refine (w1 _).mono ?_
  rintro e W2 ⟨rfl, b2⟩
  go_wp2_with fail
  refine (o0 _).mono ?_
  rintro e W3 ⟨rfl, b3⟩
  go_wp2_with fail
  refine (o1 _).mono ?_
  rintro e W4 ⟨rfl, b4⟩
  go_wp2_with fail
  refine (o2 _).mono ?_
  rintro e W5 ⟨rfl, b5⟩
  go_wp2_with fail
  refine (o3 _).mono ?_
  rintro e W6 ⟨rfl, b6⟩
  go_wp2_with fail
  refine (a0 _).mono ?_
  rintro e W7 ⟨rfl, b7⟩
  go_wp2_with fail
  refine (a1 _).mono ?_
  rintro e W8 ⟨rfl, b8⟩
  go_wp2_with fail
  refine (o4 _).mono ?_
  rintro e W9 ⟨rfl, b9⟩
  go_wp2_with fail
  refine (o5 _).mono ?_
  rintro e W10 ⟨rfl, b10⟩
  go_wp2_with fail
  go_ret
  exact ⟨rfl, (Fl.step _ _ _ (Fl.step _ _ _ (Fl.step _ _ _ (Fl.step _ _ _ (Fl.step _ _ _ (Fl.step _ _ _ (Fl.step _ _ _ (Fl.step _ _ _ (Fl.step _ _ _ b1 b2) b3) b4) b5) b6) b7) b8) b9) b10)⟩
end Fv
end Go.Proofs.Ytpekoponfahliaa
