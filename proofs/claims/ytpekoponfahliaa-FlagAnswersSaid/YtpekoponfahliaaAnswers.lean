/- An answer is one, to what was asked, with its Opcode, RD and CD, and an answer to it has the same: the law's function tells true at every two whole numbers; no condition. -/
import Derived.Test.YtpekoponfahliaaRows
import Derived.WalkKit
import Derived.ProofKit
import Derived.OpenShut
import Derived.ShutString
import Derived.ChangeOld
import Derived.Below
import Derived.SizedLaws
import Derived.Carry
import Derived.Test.YtpekoponfahliaaFp
import Derived.Test.YtpekoponfahliaaFv
import Derived.LoopTactic
namespace Go.Proofs.Ytpekoponfahliaa.Answers
open Go.ChangeShapes Go.WideShapes Go.ChangeAt Go.RowKit
open Go.ChangeMaps (open_string shut_string)
set_option linter.unusedVariables false
open Go.Proofs.Ytpekoponfahliaa.Fb Go.Proofs.Ytpekoponfahliaa.Fl Go.Proofs.Ytpekoponfahliaa.Fm Go.Proofs.Ytpekoponfahliaa.Fp Go.Proofs.Ytpekoponfahliaa.Fv


set_option maxHeartbeats 800000 in
theorem neg (a c n x y z : Int) (w : World) (h : c < 0) (n0 : 0 ≤ n) (n1 : n ≤ 65535) (A : ∀ w : World, Calls Try.prog 12 #[.int .i64 a, .int .i64 c] w fun e w' => e = .returned (.int .i64 n) ∧ Below w.heap.size w w') (O0 : ∀ w : World, Calls Try.prog 10 #[.int .i64 0, .int .i64 n] w fun e w' => e = .returned (.int .i64 1) ∧ Below w.heap.size w w') (O5 : ∀ w : World, Calls Try.prog 10 #[.int .i64 5, .int .i64 n] w fun e w' => e = .returned (.int .i64 1) ∧ Below w.heap.size w w') (O2 : ∀ w : World, Calls Try.prog 10 #[.int .i64 2, .int .i64 n] w fun e w' => e = .returned (.int .i64 0) ∧ Below w.heap.size w w') (O3 : ∀ w : World, Calls Try.prog 10 #[.int .i64 3, .int .i64 n] w fun e w' => e = .returned (.int .i64 0) ∧ Below w.heap.size w w') (O6 : ∀ w : World, Calls Try.prog 10 #[.int .i64 6, .int .i64 n] w fun e w' => e = .returned (.int .i64 0) ∧ Below w.heap.size w w') (P1 : ∀ w : World, Calls Try.prog 10 #[.int .i64 1, .int .i64 n] w fun e w' => e = .returned (.int .i64 x) ∧ Below w.heap.size w w') (Q1 : ∀ w : World, Calls Try.prog 10 #[.int .i64 1, .int .i64 a] w fun e w' => e = .returned (.int .i64 x) ∧ Below w.heap.size w w') (P4 : ∀ w : World, Calls Try.prog 10 #[.int .i64 4, .int .i64 n] w fun e w' => e = .returned (.int .i64 y) ∧ Below w.heap.size w w') (Q4 : ∀ w : World, Calls Try.prog 10 #[.int .i64 4, .int .i64 a] w fun e w' => e = .returned (.int .i64 y) ∧ Below w.heap.size w w') (P7 : ∀ w : World, Calls Try.prog 10 #[.int .i64 7, .int .i64 n] w fun e w' => e = .returned (.int .i64 z) ∧ Below w.heap.size w w') (Q7 : ∀ w : World, Calls Try.prog 10 #[.int .i64 7, .int .i64 a] w fun e w' => e = .returned (.int .i64 z) ∧ Below w.heap.size w w') (B : ∀ w : World, Calls Try.prog 12 #[.int .i64 n, .int .i64 c] w fun e w' => e = .returned (.int .i64 n) ∧ Below w.heap.size w w') (P8 : ∀ w : World, Calls Try.prog 10 #[.int .i64 8, .int .i64 n] w fun e w' => e = .returned (.int .i64 0) ∧ Below w.heap.size w w') :
    Calls Try.prog 5 #[.int .i64 a, .int .i64 c] w fun e w' => e = .returned (.bool true) ∧ Below w.heap.size w w' := by
  have c1 : decide (n < 0) = false := by simp; omega
  have c2 : decide (65535 < n) = false := by simp; omega
  clear n0 n1
  go_enter Try.func5, Try.ntmps5
  go_wp2_with fail
  refine (A _).mono ?_
  rintro e W1 ⟨rfl, b1⟩
  go_wp2_with fail
  refine (O0 _).mono ?_
  rintro e W2 ⟨rfl, b2⟩
  go_wp2_with fail
  refine (O5 _).mono ?_
  rintro e W3 ⟨rfl, b3⟩
  go_wp2_with fail
  refine (O2 _).mono ?_
  rintro e W4 ⟨rfl, b4⟩
  go_wp2_with fail
  refine (O3 _).mono ?_
  rintro e W5 ⟨rfl, b5⟩
  go_wp2_with fail
  refine (O6 _).mono ?_
  rintro e W6 ⟨rfl, b6⟩
  go_wp2_with fail
  refine (P1 _).mono ?_
  rintro e W7 ⟨rfl, b7⟩
  go_wp2_with fail
  refine (Q1 _).mono ?_
  rintro e W8 ⟨rfl, b8⟩
  go_wp2_with fail
  refine (P4 _).mono ?_
  rintro e W9 ⟨rfl, b9⟩
  go_wp2_with fail
  refine (Q4 _).mono ?_
  rintro e W10 ⟨rfl, b10⟩
  go_wp2_with fail
  refine (P7 _).mono ?_
  rintro e W11 ⟨rfl, b11⟩
  go_wp2_with fail
  refine (Q7 _).mono ?_
  rintro e W12 ⟨rfl, b12⟩
  go_wp2_with fail
  refine (P8 _).mono ?_
  rintro e W13 ⟨rfl, b13⟩
  go_wp2_with fail
  refine (B _).mono ?_
  rintro e W14 ⟨rfl, b14⟩
  go_wp2_with fail
  refine (live_any _).mono ?_
  rintro e W15 ⟨rfl, b15⟩
  go_wp2_with fail
  go_ret
  exact ⟨rfl, (Fl.step _ _ _ (Fl.step _ _ _ (Fl.step _ _ _ (Fl.step _ _ _ (Fl.step _ _ _ (Fl.step _ _ _ (Fl.step _ _ _ (Fl.step _ _ _ (Fl.step _ _ _ (Fl.step _ _ _ (Fl.step _ _ _ (Fl.step _ _ _ (Fl.step _ _ _ (Fl.step _ _ _ b1 b2) b3) b4) b5) b6) b7) b8) b9) b10) b11) b12) b13) b14) b15)⟩

set_option maxHeartbeats 800000 in
theorem pos (a c n x y z : Int) (w : World) (h : 0 ≤ c) (n0 : 0 ≤ n) (n1 : n ≤ 65535) (A : ∀ w : World, Calls Try.prog 12 #[.int .i64 a, .int .i64 c] w fun e w' => e = .returned (.int .i64 n) ∧ Below w.heap.size w w') (O0 : ∀ w : World, Calls Try.prog 10 #[.int .i64 0, .int .i64 n] w fun e w' => e = .returned (.int .i64 1) ∧ Below w.heap.size w w') (O5 : ∀ w : World, Calls Try.prog 10 #[.int .i64 5, .int .i64 n] w fun e w' => e = .returned (.int .i64 1) ∧ Below w.heap.size w w') (O2 : ∀ w : World, Calls Try.prog 10 #[.int .i64 2, .int .i64 n] w fun e w' => e = .returned (.int .i64 0) ∧ Below w.heap.size w w') (O3 : ∀ w : World, Calls Try.prog 10 #[.int .i64 3, .int .i64 n] w fun e w' => e = .returned (.int .i64 0) ∧ Below w.heap.size w w') (O6 : ∀ w : World, Calls Try.prog 10 #[.int .i64 6, .int .i64 n] w fun e w' => e = .returned (.int .i64 0) ∧ Below w.heap.size w w') (P1 : ∀ w : World, Calls Try.prog 10 #[.int .i64 1, .int .i64 n] w fun e w' => e = .returned (.int .i64 x) ∧ Below w.heap.size w w') (Q1 : ∀ w : World, Calls Try.prog 10 #[.int .i64 1, .int .i64 a] w fun e w' => e = .returned (.int .i64 x) ∧ Below w.heap.size w w') (P4 : ∀ w : World, Calls Try.prog 10 #[.int .i64 4, .int .i64 n] w fun e w' => e = .returned (.int .i64 y) ∧ Below w.heap.size w w') (Q4 : ∀ w : World, Calls Try.prog 10 #[.int .i64 4, .int .i64 a] w fun e w' => e = .returned (.int .i64 y) ∧ Below w.heap.size w w') (P7 : ∀ w : World, Calls Try.prog 10 #[.int .i64 7, .int .i64 n] w fun e w' => e = .returned (.int .i64 z) ∧ Below w.heap.size w w') (Q7 : ∀ w : World, Calls Try.prog 10 #[.int .i64 7, .int .i64 a] w fun e w' => e = .returned (.int .i64 z) ∧ Below w.heap.size w w') (B : ∀ w : World, Calls Try.prog 12 #[.int .i64 n, .int .i64 c] w fun e w' => e = .returned (.int .i64 n) ∧ Below w.heap.size w w') (P8 : ∀ w : World, Calls Try.prog 10 #[.int .i64 8, .int .i64 n] w fun e w' => e = .returned (.int .i64 (c % 16)) ∧ Below w.heap.size w w') :
    Calls Try.prog 5 #[.int .i64 a, .int .i64 c] w fun e w' => e = .returned (.bool true) ∧ Below w.heap.size w w' := by
  have c1 : decide (n < 0) = false := by simp; omega
  have c2 : decide (65535 < n) = false := by simp; omega
  clear n0 n1
  go_enter Try.func5, Try.ntmps5
  go_wp2_with fail
  refine (A _).mono ?_
  rintro e W1 ⟨rfl, b1⟩
  go_wp2_with fail
  refine (O0 _).mono ?_
  rintro e W2 ⟨rfl, b2⟩
  go_wp2_with fail
  refine (O5 _).mono ?_
  rintro e W3 ⟨rfl, b3⟩
  go_wp2_with fail
  refine (O2 _).mono ?_
  rintro e W4 ⟨rfl, b4⟩
  go_wp2_with fail
  refine (O3 _).mono ?_
  rintro e W5 ⟨rfl, b5⟩
  go_wp2_with fail
  refine (O6 _).mono ?_
  rintro e W6 ⟨rfl, b6⟩
  go_wp2_with fail
  refine (P1 _).mono ?_
  rintro e W7 ⟨rfl, b7⟩
  go_wp2_with fail
  refine (Q1 _).mono ?_
  rintro e W8 ⟨rfl, b8⟩
  go_wp2_with fail
  refine (P4 _).mono ?_
  rintro e W9 ⟨rfl, b9⟩
  go_wp2_with fail
  refine (Q4 _).mono ?_
  rintro e W10 ⟨rfl, b10⟩
  go_wp2_with fail
  refine (P7 _).mono ?_
  rintro e W11 ⟨rfl, b11⟩
  go_wp2_with fail
  refine (Q7 _).mono ?_
  rintro e W12 ⟨rfl, b12⟩
  go_wp2_with fail
  refine (P8 _).mono ?_
  rintro e W13 ⟨rfl, b13⟩
  go_wp2_with fail
  refine (B _).mono ?_
  rintro e W14 ⟨rfl, b14⟩
  go_wp2_with fail
  refine (live_any _).mono ?_
  rintro e W15 ⟨rfl, b15⟩
  go_wp2_with fail
  go_ret
  exact ⟨rfl, (Fl.step _ _ _ (Fl.step _ _ _ (Fl.step _ _ _ (Fl.step _ _ _ (Fl.step _ _ _ (Fl.step _ _ _ (Fl.step _ _ _ (Fl.step _ _ _ (Fl.step _ _ _ (Fl.step _ _ _ (Fl.step _ _ _ (Fl.step _ _ _ (Fl.step _ _ _ (Fl.step _ _ _ b1 b2) b3) b4) b5) b6) b7) b8) b9) b10) b11) b12) b13) b14) b15)⟩

theorem ofv {f b x : Int} (h : ofF f b = x) : ∀ w : World, Calls Try.prog 10 #[.int .i64 f, .int .i64 b] w fun e w' => e = .returned (.int .i64 x) ∧ Below w.heap.size w w' := by
  rw [← h]; exact of_any f b
theorem answers_any (a c : Int) (w1 : (Lit.int .i64 c).wf = true) (w : World) : Calls Try.prog 5 #[.int .i64 a, .int .i64 c] w fun e w' => e = .returned (.bool true) ∧ Below w.heap.size w w' := by
  have hw : c ≤ 9223372036854775807 := by simp [Lit.wf] at w1; exact w1.2
  obtain ⟨f0, f5, f2, f3, f6, f1, f4, f7, f8⟩ := ans_fields a c
  have hb := ans_bd a c
  have A := ans_any a c hw
  have B := ans_any (ans3 a c) c hw
  rw [ans_again] at B
  by_cases h : c < 0
  · have e8 : capC c = 0 := by unfold capC; rw [if_pos h]
    exact neg a c _ _ _ _ w h hb.1 hb.2 A (ofv f0) (ofv f5) (ofv f2) (ofv f3) (ofv f6) (ofv f1) (of_any 1 a) (ofv f4) (of_any 4 a) (ofv f7) (of_any 7 a) B (ofv (f8.trans e8))
  · have e8 : capC c = c % 16 := by unfold capC; rw [if_neg h]
    exact pos a c _ _ _ _ w (by omega) hb.1 hb.2 A (ofv f0) (ofv f5) (ofv f2) (ofv f3) (ofv f6) (ofv f1) (of_any 1 a) (ofv f4) (of_any 4 a) (ofv f7) (of_any 7 a) B (ofv (f8.trans e8))

theorem own : ownKnob Try.prog.godebug = none := by kernel_rfl
theorem laidOut : laidOutB Try.prog = true := by kernel_rfl
set_option maxRecDepth 100000 in
theorem lifted (os : Os) (started : os.Started) (H : Type) (enc : TypeId × Value → H) :
    ReturnsInHanded {} Try.checked os 5 .any (Rows.flagAnswersSpec.pre6 enc Try.prog Try.f5 Rows.flagAnswersRow.domain false) (Rows.flagAnswersSpec.post enc Try.prog Try.f5 false true false false) := by
  refine returnsInHanded_of_change_sized (C := Try.checked) own started (by kernel_rfl) Try.func5
    (ChangeSpec.witness6 (enc := enc) (C := Try.checked) false ⟨#[], #[.int .i64 0, .int .i64 0], []⟩ 8 (by kernel_rfl) (by kernel_rfl) (by kernel_rfl) (by kernel_rfl)) ?_
  intro W base args ds gs before hval0 hW hcnd hsz0 _
  have hsz : (DataW.weightsEach Try.prog (Try.f5.params.toList ++ Rows.flagAnswersSpec.plain.varTypes Try.prog) (ds ++ gs)).all (· ≤ reachBytes) = true := hsz0
  have hval : ∀ (j : Nat) t v, Try.f5.params[j]? = some t → args[j]? = some v → Value.okWide Try.prog W .any base t v := hval0
  have hW' := hW
  obtain ⟨p, q, hA0, hV, rfl, hfz, hnd⟩ := hW
  have hA : DataW.TrodAll enc Try.prog W 0 (fun _ => true) true Try.f5.params.toList args.toList ds p := hA0
  rw [Try.params5] at hA hval hsz
  obtain ⟨v0, vs0, d0, ds0, p0, q0, hargs, rfl, rfl, h0, r0⟩ := trodAll_cons hA
  obtain ⟨v1, vs1, d1, ds1, p1, q1, rfl, rfl, rfl, h1, r1⟩ := trodAll_cons r0
  obtain ⟨rfl, rfl, rfl⟩ := trodAll_nil r1
  obtain rfl : args = #[v0, v1] := by cases args; simp_all
  obtain ⟨rfl, rfl⟩ := trodVars_none hV
  obtain ⟨a0, rfl, rfl, rfl, w0⟩ := open_int Try.underlying3 (hval 0 3 v0 rfl rfl) h0
  obtain ⟨a1, rfl, rfl, rfl, w1⟩ := open_int Try.underlying3 (hval 1 3 v1 rfl rfl) h1
  refine (answers_any a0 a1 w1 W).mono fun e W' ⟨he, bel⟩ => ?_
  subst he
  exact ⟨_, rfl, _, _, _, [], _, [], hW', trodAll_mk1 (shut_bool Try.underlying4 _), (trodAll_cons_mk (shut_int Try.underlying3 w0) (trodAll_cons_mk (shut_int Try.underlying3 w1) trodAll_mk0)), rfl, bel.frame _, fun h => by cases h⟩
theorem over : Rows.flagAnswersRow.holds Try.pinned (OpenSpec.ofChange Rows.flagAnswersSpec) :=
  OpenClaim.holds_of_wide 5 Try.f5 rfl rfl rfl rfl rfl rfl rfl ⟨rfl, rfl, rfl, rfl, rfl⟩ rfl rfl rfl rfl rfl (by kernel_rfl) Try.func5 (by kernel_rfl)
    (of_decide_eq_true (by kernel_rfl)) (by unfold Func.isWrapper; first | (rw [if_pos (by decide +kernel)]; kernel_rfl) | (rw [if_neg (by decide +kernel)]; exact ⟨rfl, rfl⟩))
    (fun os started H enc _ => lifted os started H enc)
theorem proved : Rows.FlagAnswersSaid := over

end Go.Proofs.Ytpekoponfahliaa.Answers
namespace Go.Proofs.Ytpekoponfahliaa
/-- The row, under a short name, for the claim. -/
theorem flagAnswers_holds : Rows.FlagAnswersSaid := Answers.proved
end Go.Proofs.Ytpekoponfahliaa
