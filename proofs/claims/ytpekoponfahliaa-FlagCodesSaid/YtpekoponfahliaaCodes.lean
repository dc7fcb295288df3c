/- Of an answer to anything the code is told as it was laid, modulo 16, and other codes change nothing else: the law's function tells true at every three whole numbers; no condition. -/
import Derived.Test.YtpekoponfahliaaRows
import Derived.WalkKit
import Derived.ProofKit
import Derived.OpenShut
import Derived.ShutString
import Derived.ChangeOld
import Derived.Below
import Derived.SizedLaws
import Derived.Carry
import Derived.Test.YtpekoponfahliaaFp
import Derived.Test.YtpekoponfahliaaFv
import Derived.LoopTactic
namespace Go.Proofs.Ytpekoponfahliaa.Codes
open Go.ChangeShapes Go.WideShapes Go.ChangeAt Go.RowKit
open Go.ChangeMaps (open_string shut_string)
set_option linter.unusedVariables false
open Go.Proofs.Ytpekoponfahliaa.Fb Go.Proofs.Ytpekoponfahliaa.Fl Go.Proofs.Ytpekoponfahliaa.Fm Go.Proofs.Ytpekoponfahliaa.Fp Go.Proofs.Ytpekoponfahliaa.Fv


set_option maxHeartbeats 800000 in
theorem nn (a p q x y o : Int) (w : World) (hp : p < 0) (hq : q < 0) (heq : (x == y) = (0 == 0)) (A : ∀ w : World, Calls Try.prog 12 #[.int .i64 a, .int .i64 p] w fun e w' => e = .returned (.int .i64 x) ∧ Below w.heap.size w w') (B : ∀ w : World, Calls Try.prog 12 #[.int .i64 a, .int .i64 q] w fun e w' => e = .returned (.int .i64 y) ∧ Below w.heap.size w w') (O : ∀ w : World, Calls Try.prog 10 #[.int .i64 8, .int .i64 y] w fun e w' => e = .returned (.int .i64 o) ∧ Below w.heap.size w w') (L : ∀ w : World, Calls Try.prog 8 #[.int .i64 8, .int .i64 x, .int .i64 o] w fun e w' => e = .returned (.tuple #[.int .i64 y, .bool true]) ∧ Below w.heap.size w w') :
    Calls Try.prog 6 #[.int .i64 a, .int .i64 p, .int .i64 q] w fun e w' => e = .returned (.bool true) ∧ Below w.heap.size w w' := by
  go_enter Try.func6, Try.ntmps6
  go_wp2_with fail
  refine (A _).mono ?_
  rintro e W1 ⟨rfl, b1⟩
  go_wp2_with fail
  refine (B _).mono ?_
  rintro e W2 ⟨rfl, b2⟩
  go_wp2_with fail
  refine (O _).mono ?_
  rintro e W3 ⟨rfl, b3⟩
  go_wp2_with fail
  refine (L _).mono ?_
  rintro e W4 ⟨rfl, b4⟩
  go_wp2_with fail
  refine (live_any _).mono ?_
  rintro e W5 ⟨rfl, b5⟩
  go_wp2_with fail
  go_ret
  exact ⟨rfl, (Fl.step _ _ _ (Fl.step _ _ _ (Fl.step _ _ _ (Fl.step _ _ _ b1 b2) b3) b4) b5)⟩

set_option maxHeartbeats 800000 in
theorem np (a p q x y o : Int) (w : World) (hp : p < 0) (hq : 0 ≤ q) (heq : (x == y) = (0 == q % 16)) (A : ∀ w : World, Calls Try.prog 12 #[.int .i64 a, .int .i64 p] w fun e w' => e = .returned (.int .i64 x) ∧ Below w.heap.size w w') (B : ∀ w : World, Calls Try.prog 12 #[.int .i64 a, .int .i64 q] w fun e w' => e = .returned (.int .i64 y) ∧ Below w.heap.size w w') (O : ∀ w : World, Calls Try.prog 10 #[.int .i64 8, .int .i64 y] w fun e w' => e = .returned (.int .i64 o) ∧ Below w.heap.size w w') (L : ∀ w : World, Calls Try.prog 8 #[.int .i64 8, .int .i64 x, .int .i64 o] w fun e w' => e = .returned (.tuple #[.int .i64 y, .bool true]) ∧ Below w.heap.size w w') :
    Calls Try.prog 6 #[.int .i64 a, .int .i64 p, .int .i64 q] w fun e w' => e = .returned (.bool true) ∧ Below w.heap.size w w' := by
  go_enter Try.func6, Try.ntmps6
  go_wp2_with fail
  refine (A _).mono ?_
  rintro e W1 ⟨rfl, b1⟩
  go_wp2_with fail
  refine (B _).mono ?_
  rintro e W2 ⟨rfl, b2⟩
  go_wp2_with fail
  refine (O _).mono ?_
  rintro e W3 ⟨rfl, b3⟩
  go_wp2_with fail
  refine (L _).mono ?_
  rintro e W4 ⟨rfl, b4⟩
  go_wp2_with fail
  refine (live_any _).mono ?_
  rintro e W5 ⟨rfl, b5⟩
  go_wp2_with fail
  go_ret
  exact ⟨rfl, (Fl.step _ _ _ (Fl.step _ _ _ (Fl.step _ _ _ (Fl.step _ _ _ b1 b2) b3) b4) b5)⟩

set_option maxHeartbeats 800000 in
theorem pn (a p q x y o : Int) (w : World) (hp : 0 ≤ p) (hq : q < 0) (heq : (x == y) = (p % 16 == 0)) (A : ∀ w : World, Calls Try.prog 12 #[.int .i64 a, .int .i64 p] w fun e w' => e = .returned (.int .i64 x) ∧ Below w.heap.size w w') (B : ∀ w : World, Calls Try.prog 12 #[.int .i64 a, .int .i64 q] w fun e w' => e = .returned (.int .i64 y) ∧ Below w.heap.size w w') (O : ∀ w : World, Calls Try.prog 10 #[.int .i64 8, .int .i64 y] w fun e w' => e = .returned (.int .i64 o) ∧ Below w.heap.size w w') (L : ∀ w : World, Calls Try.prog 8 #[.int .i64 8, .int .i64 x, .int .i64 o] w fun e w' => e = .returned (.tuple #[.int .i64 y, .bool true]) ∧ Below w.heap.size w w') :
    Calls Try.prog 6 #[.int .i64 a, .int .i64 p, .int .i64 q] w fun e w' => e = .returned (.bool true) ∧ Below w.heap.size w w' := by
  go_enter Try.func6, Try.ntmps6
  go_wp2_with fail
  refine (A _).mono ?_
  rintro e W1 ⟨rfl, b1⟩
  go_wp2_with fail
  refine (B _).mono ?_
  rintro e W2 ⟨rfl, b2⟩
  go_wp2_with fail
  refine (O _).mono ?_
  rintro e W3 ⟨rfl, b3⟩
  go_wp2_with fail
  refine (L _).mono ?_
  rintro e W4 ⟨rfl, b4⟩
  go_wp2_with fail
  refine (live_any _).mono ?_
  rintro e W5 ⟨rfl, b5⟩
  go_wp2_with fail
  go_ret
  exact ⟨rfl, (Fl.step _ _ _ (Fl.step _ _ _ (Fl.step _ _ _ (Fl.step _ _ _ b1 b2) b3) b4) b5)⟩

set_option maxHeartbeats 800000 in
theorem pp (a p q x y o : Int) (w : World) (hp : 0 ≤ p) (hq : 0 ≤ q) (heq : (x == y) = (p % 16 == q % 16)) (A : ∀ w : World, Calls Try.prog 12 #[.int .i64 a, .int .i64 p] w fun e w' => e = .returned (.int .i64 x) ∧ Below w.heap.size w w') (B : ∀ w : World, Calls Try.prog 12 #[.int .i64 a, .int .i64 q] w fun e w' => e = .returned (.int .i64 y) ∧ Below w.heap.size w w') (O : ∀ w : World, Calls Try.prog 10 #[.int .i64 8, .int .i64 y] w fun e w' => e = .returned (.int .i64 o) ∧ Below w.heap.size w w') (L : ∀ w : World, Calls Try.prog 8 #[.int .i64 8, .int .i64 x, .int .i64 o] w fun e w' => e = .returned (.tuple #[.int .i64 y, .bool true]) ∧ Below w.heap.size w w') :
    Calls Try.prog 6 #[.int .i64 a, .int .i64 p, .int .i64 q] w fun e w' => e = .returned (.bool true) ∧ Below w.heap.size w w' := by
  go_enter Try.func6, Try.ntmps6
  go_wp2_with fail
  refine (A _).mono ?_
  rintro e W1 ⟨rfl, b1⟩
  go_wp2_with fail
  refine (B _).mono ?_
  rintro e W2 ⟨rfl, b2⟩
  go_wp2_with fail
  refine (O _).mono ?_
  rintro e W3 ⟨rfl, b3⟩
  go_wp2_with fail
  refine (L _).mono ?_
  rintro e W4 ⟨rfl, b4⟩
  go_wp2_with fail
  refine (live_any _).mono ?_
  rintro e W5 ⟨rfl, b5⟩
  go_wp2_with fail
  go_ret
  exact ⟨rfl, (Fl.step _ _ _ (Fl.step _ _ _ (Fl.step _ _ _ (Fl.step _ _ _ b1 b2) b3) b4) b5)⟩

theorem codes_any (a p q : Int) (w1 : (Lit.int .i64 p).wf = true) (w2 : (Lit.int .i64 q).wf = true) (w : World) : Calls Try.prog 6 #[.int .i64 a, .int .i64 p, .int .i64 q] w fun e w' => e = .returned (.bool true) ∧ Below w.heap.size w w' := by
  have hp : p ≤ 9223372036854775807 := by simp [Lit.wf] at w1; exact w1.2
  have hq : q ≤ 9223372036854775807 := by simp [Lit.wf] at w2; exact w2.2
  have A := ans_any a p hp
  have B := ans_any a q hq
  have f8 : ofF 8 (ans3 a q) = capC q := (ans_fields a q).2.2.2.2.2.2.2.2
  have O := of_any 8 (ans3 a q)
  have bp := ans_bd a p
  have cq := capC_bd q
  have cp := capC_bd p
  have L := with_any 8 (ans3 a p) (ofF 8 (ans3 a q))
  have e1 : withF 8 (ans3 a p) (ofF 8 (ans3 a q)) = ans3 a q := by
    rw [f8, with8_eq _ _ bp.1 bp.2 cq.1 cq.2]
    have h8 : ans3 a p / 1 % 16 = capC p := by rw [← of8_eq _ bp.1 bp.2]; exact (ans_fields a p).2.2.2.2.2.2.2.2
    rw [h8, ans_eq a p, ans_eq a q]; omega
  have e2 : okB 8 (ans3 a p) (ofF 8 (ans3 a q)) = true := by
    unfold okB
    rw [(may_iff 8 _).2 ⟨bp.1, bp.2, by omega, by omega⟩, f8]
    have e : wid 8 = 16 := rfl
    rw [e]; simp; omega
  rw [e1, e2] at L
  have heq : (ans3 a p == ans3 a q) = (capC p == capC q) := by
    rw [ans_eq a p, ans_eq a q]
    by_cases h : capC p = capC q
    · rw [h]; simp
    · have h2 : ¬ (32896 + capC p + ofF 1 a * 2048 + ofF 4 a * 256 + ofF 7 a * 16 = 32896 + capC q + ofF 1 a * 2048 + ofF 4 a * 256 + ofF 7 a * 16) := by omega
      rw [beq_eq_false_iff_ne.2 h, beq_eq_false_iff_ne.2 h2]
  have cpn : p < 0 → capC p = 0 := fun h => by unfold capC; rw [if_pos h]
  have cpp : ¬ p < 0 → capC p = p % 16 := fun h => by unfold capC; rw [if_neg h]
  have cqn : q < 0 → capC q = 0 := fun h => by unfold capC; rw [if_pos h]
  have cqp : ¬ q < 0 → capC q = q % 16 := fun h => by unfold capC; rw [if_neg h]
  by_cases h : p < 0 <;> by_cases k : q < 0
  · rw [cpn h, cqn k] at heq; exact nn a p q _ _ _ w h k heq A B O L
  · rw [cpn h, cqp k] at heq; exact np a p q _ _ _ w h (by omega) heq A B O L
  · rw [cpp h, cqn k] at heq; exact pn a p q _ _ _ w (by omega) k heq A B O L
  · rw [cpp h, cqp k] at heq; exact pp a p q _ _ _ w (by omega) (by omega) heq A B O L

theorem own : ownKnob Try.prog.godebug = none := by kernel_rfl
theorem laidOut : laidOutB Try.prog = true := by kernel_rfl
set_option maxRecDepth 100000 in
theorem lifted (os : Os) (started : os.Started) (H : Type) (enc : TypeId × Value → H) :
    ReturnsInHanded {} Try.checked os 6 .any (Rows.flagCodesSpec.pre6 enc Try.prog Try.f6 Rows.flagCodesRow.domain false) (Rows.flagCodesSpec.post enc Try.prog Try.f6 false true false false) := by
  refine returnsInHanded_of_change_sized (C := Try.checked) own started (by kernel_rfl) Try.func6
    (ChangeSpec.witness6 (enc := enc) (C := Try.checked) false ⟨#[], #[.int .i64 0, .int .i64 0, .int .i64 0], []⟩ 8 (by kernel_rfl) (by kernel_rfl) (by kernel_rfl) (by kernel_rfl)) ?_
  intro W base args ds gs before hval0 hW hcnd hsz0 _
  have hsz : (DataW.weightsEach Try.prog (Try.f6.params.toList ++ Rows.flagCodesSpec.plain.varTypes Try.prog) (ds ++ gs)).all (· ≤ reachBytes) = true := hsz0
  have hval : ∀ (j : Nat) t v, Try.f6.params[j]? = some t → args[j]? = some v → Value.okWide Try.prog W .any base t v := hval0
  have hW' := hW
  obtain ⟨p, q, hA0, hV, rfl, hfz, hnd⟩ := hW
  have hA : DataW.TrodAll enc Try.prog W 0 (fun _ => true) true Try.f6.params.toList args.toList ds p := hA0
  rw [Try.params6] at hA hval hsz
  obtain ⟨v0, vs0, d0, ds0, p0, q0, hargs, rfl, rfl, h0, r0⟩ := trodAll_cons hA
  obtain ⟨v1, vs1, d1, ds1, p1, q1, rfl, rfl, rfl, h1, r1⟩ := trodAll_cons r0
  obtain ⟨v2, vs2, d2, ds2, p2, q2, rfl, rfl, rfl, h2, r2⟩ := trodAll_cons r1
  obtain ⟨rfl, rfl, rfl⟩ := trodAll_nil r2
  obtain rfl : args = #[v0, v1, v2] := by cases args; simp_all
  obtain ⟨rfl, rfl⟩ := trodVars_none hV
  obtain ⟨a0, rfl, rfl, rfl, w0⟩ := open_int Try.underlying3 (hval 0 3 v0 rfl rfl) h0
  obtain ⟨a1, rfl, rfl, rfl, w1⟩ := open_int Try.underlying3 (hval 1 3 v1 rfl rfl) h1
  obtain ⟨a2, rfl, rfl, rfl, w2⟩ := open_int Try.underlying3 (hval 2 3 v2 rfl rfl) h2
  refine (codes_any a0 a1 a2 w1 w2 W).mono fun e W' ⟨he, bel⟩ => ?_
  subst he
  exact ⟨_, rfl, _, _, _, [], _, [], hW', trodAll_mk1 (shut_bool Try.underlying4 _), (trodAll_cons_mk (shut_int Try.underlying3 w0) (trodAll_cons_mk (shut_int Try.underlying3 w1) (trodAll_cons_mk (shut_int Try.underlying3 w2) trodAll_mk0))), rfl, bel.frame _, fun h => by cases h⟩
theorem over : Rows.flagCodesRow.holds Try.pinned (OpenSpec.ofChange Rows.flagCodesSpec) :=
  OpenClaim.holds_of_wide 6 Try.f6 rfl rfl rfl rfl rfl rfl rfl ⟨rfl, rfl, rfl, rfl, rfl⟩ rfl rfl rfl rfl rfl (by kernel_rfl) Try.func6 (by kernel_rfl)
    (of_decide_eq_true (by kernel_rfl)) (by unfold Func.isWrapper; first | (rw [if_pos (by decide +kernel)]; kernel_rfl) | (rw [if_neg (by decide +kernel)]; exact ⟨rfl, rfl⟩))
    (fun os started H enc _ => lifted os started H enc)
theorem proved : Rows.FlagCodesSaid := over

end Go.Proofs.Ytpekoponfahliaa.Codes
namespace Go.Proofs.Ytpekoponfahliaa
/-- The row, under a short name, for the claim. -/
theorem flagCodes_holds : Rows.FlagCodesSaid := Codes.proved
end Go.Proofs.Ytpekoponfahliaa
