/- Who can take more is told more, as far as 4096, and who tells no size is told 512: the law's function tells true at every two whole numbers; no condition. -/
import Derived.Test.YtnbngkecabacaaaRows
import Derived.WalkKit
import Derived.ProofKit
import Derived.OpenShut
import Derived.ShutString
import Derived.ChangeOld
import Derived.Below
import Derived.SizedLaws
import Derived.Carry
import Derived.Test.YtnbngkecabacaaaEv
import Derived.Lib.Hide
import Derived.Deep.RegionHeld3
namespace Go.Proofs.Ytnbngkecabacaaa.Limits
open Go.ChangeShapes Go.WideShapes Go.ChangeAt Go.RowKit
open Go.ChangeMaps (open_string shut_string)
set_option linter.unusedVariables false
open Go.Proofs.Ytnbngkecabacaaa.Fb Go.Proofs.Ytnbngkecabacaaa.Fl Go.Proofs.Ytnbngkecabacaaa.Fr Go.Proofs.Ytnbngkecabacaaa.Ed Go.Proofs.Ytnbngkecabacaaa.Ef Go.Proofs.Ytnbngkecabacaaa.Eg Go.Proofs.Ytnbngkecabacaaa.Ev


theorem lim_le_in (a b x y : Int) (w : World) (k : a ≤ b) (h : 512 ≤ a ∧ a ≤ 4096) (hxy : x ≤ y) (hxa : x = a)
    (X : ∀ w : World, Calls Try.prog 14 #[.agg #[.bool true, .int .i64 a, .int .i64 0, .int .i64 0, .bool false]] w fun e w' => e = .returned (.int .i64 x) ∧ Below w.heap.size w w')
    (Y : ∀ w : World, Calls Try.prog 14 #[.agg #[.bool true, .int .i64 b, .int .i64 0, .int .i64 0, .bool false]] w fun e w' => e = .returned (.int .i64 y) ∧ Below w.heap.size w w')
    (Z : ∀ w : World, Calls Try.prog 14 #[.agg #[.bool false, .int .i64 a, .int .i64 0, .int .i64 0, .bool false]] w fun e w' => e = .returned (.int .i64 512) ∧ Below w.heap.size w w') :
    Calls Try.prog 6 #[.int .i64 a, .int .i64 b] w fun e w' => e = .returned (.bool true) ∧ Below w.heap.size w w' := by
  have c0 : decide (a ≤ b) = true := by simp; omega
  have c1 : decide (y < x) = false := by simp; omega
  have c2 : decide (512 ≤ a) = true := by simp; omega
  have c3 : decide (a ≤ 4096) = true := by simp; omega
  have c4 : (x != a) = false := by simp; omega
  clear hxa
  go_enter Try.func6, Try.ntmps6
  go_wp2_with fail
  refine (X _).mono ?_
  rintro e w1 ⟨rfl, b1⟩
  go_wp2_with fail
  refine (Y _).mono ?_
  rintro e w2 ⟨rfl, b2⟩
  go_wp2_with fail
  refine (Z _).mono ?_
  rintro e w3 ⟨rfl, b3⟩
  go_wp2_with fail
  refine (live_any _).mono ?_
  rintro e w4 ⟨rfl, b4⟩
  go_wp2_with fail
  go_ret
  exact ⟨rfl, Ed.step _ _ _ (Ed.step _ _ _ (Ed.step _ _ _ b1 b2) b3) b4⟩

theorem lim_le_lo (a b x y : Int) (w : World) (k : a ≤ b) (h : a < 512) (hxy : x ≤ y) 
    (X : ∀ w : World, Calls Try.prog 14 #[.agg #[.bool true, .int .i64 a, .int .i64 0, .int .i64 0, .bool false]] w fun e w' => e = .returned (.int .i64 x) ∧ Below w.heap.size w w')
    (Y : ∀ w : World, Calls Try.prog 14 #[.agg #[.bool true, .int .i64 b, .int .i64 0, .int .i64 0, .bool false]] w fun e w' => e = .returned (.int .i64 y) ∧ Below w.heap.size w w')
    (Z : ∀ w : World, Calls Try.prog 14 #[.agg #[.bool false, .int .i64 a, .int .i64 0, .int .i64 0, .bool false]] w fun e w' => e = .returned (.int .i64 512) ∧ Below w.heap.size w w') :
    Calls Try.prog 6 #[.int .i64 a, .int .i64 b] w fun e w' => e = .returned (.bool true) ∧ Below w.heap.size w w' := by
  have c0 : decide (a ≤ b) = true := by simp; omega
  have c1 : decide (y < x) = false := by simp; omega
  have c2 : decide (512 ≤ a) = false := by simp; omega
  clear h
  go_enter Try.func6, Try.ntmps6
  go_wp2_with fail
  refine (X _).mono ?_
  rintro e w1 ⟨rfl, b1⟩
  go_wp2_with fail
  refine (Y _).mono ?_
  rintro e w2 ⟨rfl, b2⟩
  go_wp2_with fail
  refine (Z _).mono ?_
  rintro e w3 ⟨rfl, b3⟩
  go_wp2_with fail
  refine (live_any _).mono ?_
  rintro e w4 ⟨rfl, b4⟩
  go_wp2_with fail
  go_ret
  exact ⟨rfl, Ed.step _ _ _ (Ed.step _ _ _ (Ed.step _ _ _ b1 b2) b3) b4⟩

theorem lim_le_hi (a b x y : Int) (w : World) (k : a ≤ b) (h : 4096 < a) (hxy : x ≤ y) 
    (X : ∀ w : World, Calls Try.prog 14 #[.agg #[.bool true, .int .i64 a, .int .i64 0, .int .i64 0, .bool false]] w fun e w' => e = .returned (.int .i64 x) ∧ Below w.heap.size w w')
    (Y : ∀ w : World, Calls Try.prog 14 #[.agg #[.bool true, .int .i64 b, .int .i64 0, .int .i64 0, .bool false]] w fun e w' => e = .returned (.int .i64 y) ∧ Below w.heap.size w w')
    (Z : ∀ w : World, Calls Try.prog 14 #[.agg #[.bool false, .int .i64 a, .int .i64 0, .int .i64 0, .bool false]] w fun e w' => e = .returned (.int .i64 512) ∧ Below w.heap.size w w') :
    Calls Try.prog 6 #[.int .i64 a, .int .i64 b] w fun e w' => e = .returned (.bool true) ∧ Below w.heap.size w w' := by
  have c0 : decide (a ≤ b) = true := by simp; omega
  have c1 : decide (y < x) = false := by simp; omega
  have c2 : decide (512 ≤ a) = true := by simp; omega
  have c3 : decide (a ≤ 4096) = false := by simp; omega
  clear h
  go_enter Try.func6, Try.ntmps6
  go_wp2_with fail
  refine (X _).mono ?_
  rintro e w1 ⟨rfl, b1⟩
  go_wp2_with fail
  refine (Y _).mono ?_
  rintro e w2 ⟨rfl, b2⟩
  go_wp2_with fail
  refine (Z _).mono ?_
  rintro e w3 ⟨rfl, b3⟩
  go_wp2_with fail
  refine (live_any _).mono ?_
  rintro e w4 ⟨rfl, b4⟩
  go_wp2_with fail
  go_ret
  exact ⟨rfl, Ed.step _ _ _ (Ed.step _ _ _ (Ed.step _ _ _ b1 b2) b3) b4⟩

theorem lim_gt_in (a b x y : Int) (w : World) (k : ¬ a ≤ b) (h : 512 ≤ a ∧ a ≤ 4096)  (hxa : x = a)
    (X : ∀ w : World, Calls Try.prog 14 #[.agg #[.bool true, .int .i64 a, .int .i64 0, .int .i64 0, .bool false]] w fun e w' => e = .returned (.int .i64 x) ∧ Below w.heap.size w w')
    (Y : ∀ w : World, Calls Try.prog 14 #[.agg #[.bool true, .int .i64 b, .int .i64 0, .int .i64 0, .bool false]] w fun e w' => e = .returned (.int .i64 y) ∧ Below w.heap.size w w')
    (Z : ∀ w : World, Calls Try.prog 14 #[.agg #[.bool false, .int .i64 a, .int .i64 0, .int .i64 0, .bool false]] w fun e w' => e = .returned (.int .i64 512) ∧ Below w.heap.size w w') :
    Calls Try.prog 6 #[.int .i64 a, .int .i64 b] w fun e w' => e = .returned (.bool true) ∧ Below w.heap.size w w' := by
  have c0 : decide (a ≤ b) = false := by simp; omega
  have c1 : decide (512 ≤ a) = true := by simp; omega
  have c2 : decide (a ≤ 4096) = true := by simp; omega
  have c3 : (x != a) = false := by simp; omega
  clear hxa
  go_enter Try.func6, Try.ntmps6
  go_wp2_with fail
  refine (X _).mono ?_
  rintro e w1 ⟨rfl, b1⟩
  go_wp2_with fail
  refine (Y _).mono ?_
  rintro e w2 ⟨rfl, b2⟩
  go_wp2_with fail
  refine (Z _).mono ?_
  rintro e w3 ⟨rfl, b3⟩
  go_wp2_with fail
  refine (live_any _).mono ?_
  rintro e w4 ⟨rfl, b4⟩
  go_wp2_with fail
  go_ret
  exact ⟨rfl, Ed.step _ _ _ (Ed.step _ _ _ (Ed.step _ _ _ b1 b2) b3) b4⟩

theorem lim_gt_lo (a b x y : Int) (w : World) (k : ¬ a ≤ b) (h : a < 512)  
    (X : ∀ w : World, Calls Try.prog 14 #[.agg #[.bool true, .int .i64 a, .int .i64 0, .int .i64 0, .bool false]] w fun e w' => e = .returned (.int .i64 x) ∧ Below w.heap.size w w')
    (Y : ∀ w : World, Calls Try.prog 14 #[.agg #[.bool true, .int .i64 b, .int .i64 0, .int .i64 0, .bool false]] w fun e w' => e = .returned (.int .i64 y) ∧ Below w.heap.size w w')
    (Z : ∀ w : World, Calls Try.prog 14 #[.agg #[.bool false, .int .i64 a, .int .i64 0, .int .i64 0, .bool false]] w fun e w' => e = .returned (.int .i64 512) ∧ Below w.heap.size w w') :
    Calls Try.prog 6 #[.int .i64 a, .int .i64 b] w fun e w' => e = .returned (.bool true) ∧ Below w.heap.size w w' := by
  have c0 : decide (a ≤ b) = false := by simp; omega
  have c1 : decide (512 ≤ a) = false := by simp; omega
  clear h
  go_enter Try.func6, Try.ntmps6
  go_wp2_with fail
  refine (X _).mono ?_
  rintro e w1 ⟨rfl, b1⟩
  go_wp2_with fail
  refine (Y _).mono ?_
  rintro e w2 ⟨rfl, b2⟩
  go_wp2_with fail
  refine (Z _).mono ?_
  rintro e w3 ⟨rfl, b3⟩
  go_wp2_with fail
  refine (live_any _).mono ?_
  rintro e w4 ⟨rfl, b4⟩
  go_wp2_with fail
  go_ret
  exact ⟨rfl, Ed.step _ _ _ (Ed.step _ _ _ (Ed.step _ _ _ b1 b2) b3) b4⟩

theorem lim_gt_hi (a b x y : Int) (w : World) (k : ¬ a ≤ b) (h : 4096 < a)  
    (X : ∀ w : World, Calls Try.prog 14 #[.agg #[.bool true, .int .i64 a, .int .i64 0, .int .i64 0, .bool false]] w fun e w' => e = .returned (.int .i64 x) ∧ Below w.heap.size w w')
    (Y : ∀ w : World, Calls Try.prog 14 #[.agg #[.bool true, .int .i64 b, .int .i64 0, .int .i64 0, .bool false]] w fun e w' => e = .returned (.int .i64 y) ∧ Below w.heap.size w w')
    (Z : ∀ w : World, Calls Try.prog 14 #[.agg #[.bool false, .int .i64 a, .int .i64 0, .int .i64 0, .bool false]] w fun e w' => e = .returned (.int .i64 512) ∧ Below w.heap.size w w') :
    Calls Try.prog 6 #[.int .i64 a, .int .i64 b] w fun e w' => e = .returned (.bool true) ∧ Below w.heap.size w w' := by
  have c0 : decide (a ≤ b) = false := by simp; omega
  have c1 : decide (512 ≤ a) = true := by simp; omega
  have c2 : decide (a ≤ 4096) = false := by simp; omega
  clear h
  go_enter Try.func6, Try.ntmps6
  go_wp2_with fail
  refine (X _).mono ?_
  rintro e w1 ⟨rfl, b1⟩
  go_wp2_with fail
  refine (Y _).mono ?_
  rintro e w2 ⟨rfl, b2⟩
  go_wp2_with fail
  refine (Z _).mono ?_
  rintro e w3 ⟨rfl, b3⟩
  go_wp2_with fail
  refine (live_any _).mono ?_
  rintro e w4 ⟨rfl, b4⟩
  go_wp2_with fail
  go_ret
  exact ⟨rfl, Ed.step _ _ _ (Ed.step _ _ _ (Ed.step _ _ _ b1 b2) b3) b4⟩

theorem limits_any (a b : Int) (w : World) : Calls Try.prog 6 #[.int .i64 a, .int .i64 b] w fun e w' => e = .returned (.bool true) ∧ Below w.heap.size w w' := by
  have X := limit_any ⟨true, a, 0, 0, false⟩
  have Y := limit_any ⟨true, b, 0, 0, false⟩
  have Z := limit_any ⟨false, a, 0, 0, false⟩
  have hm : a ≤ b → limO ⟨true, a, 0, 0, false⟩ ≤ limO ⟨true, b, 0, 0, false⟩ := fun h => by unfold limO; simp; (repeat' split) <;> omega
  have ha : 512 ≤ a ∧ a ≤ 4096 → limO ⟨true, a, 0, 0, false⟩ = a := fun h => by unfold limO; simp; (repeat' split) <;> omega
  by_cases k : a ≤ b
  · by_cases h1 : a < 512
    · exact lim_le_lo a b _ _ w k h1 (hm k) X Y Z
    · by_cases h2 : 4096 < a
      · exact lim_le_hi a b _ _ w k h2 (hm k) X Y Z
      · exact lim_le_in a b _ _ w k (by omega) (hm k) (ha (by omega)) X Y Z
  · by_cases h1 : a < 512
    · exact lim_gt_lo a b _ _ w k h1 X Y Z
    · by_cases h2 : 4096 < a
      · exact lim_gt_hi a b _ _ w k h2 X Y Z
      · exact lim_gt_in a b _ _ w k (by omega) (ha (by omega)) X Y Z

theorem own : ownKnob Try.prog.godebug = none := by kernel_rfl
theorem laidOut : laidOutB Try.prog = true := by kernel_rfl
set_option maxRecDepth 100000 in
theorem lifted (os : Os) (started : os.Started) (H : Type) (enc : TypeId × Value → H) :
    ReturnsInHanded {} Try.checked os 6 .any (Rows.ednsLimitsSpec.pre6 enc Try.prog Try.f6 Rows.ednsLimitsRow.domain false) (Rows.ednsLimitsSpec.post enc Try.prog Try.f6 false true false false) := by
  refine returnsInHanded_of_change_sized (C := Try.checked) own started (by kernel_rfl) Try.func6
    (ChangeSpec.witness6 (enc := enc) (C := Try.checked) false ⟨#[], #[.int .i64 0, .int .i64 0], []⟩ 8 (by kernel_rfl) (by kernel_rfl) (by kernel_rfl) (by kernel_rfl)) ?_
  intro W base args ds gs before hval0 hW hcnd hsz0 _
  have hsz : (DataW.weightsEach Try.prog (Try.f6.params.toList ++ Rows.ednsLimitsSpec.plain.varTypes Try.prog) (ds ++ gs)).all (· ≤ reachBytes) = true := hsz0
  have hval : ∀ (j : Nat) t v, Try.f6.params[j]? = some t → args[j]? = some v → Value.okWide Try.prog W .any base t v := hval0
  have hW' := hW
  obtain ⟨p, q, hA0, hV, rfl, hfz, hnd⟩ := hW
  have hA : DataW.TrodAll enc Try.prog W 0 (fun _ => true) true Try.f6.params.toList args.toList ds p := hA0
  rw [Try.params6] at hA hval hsz
  obtain ⟨v0, vs0, d0, ds0, p0, q0, hargs, rfl, rfl, h0, r0⟩ := trodAll_cons hA
  obtain ⟨v1, vs1, d1, ds1, p1, q1, rfl, rfl, rfl, h1, r1⟩ := trodAll_cons r0
  obtain ⟨rfl, rfl, rfl⟩ := trodAll_nil r1
  obtain rfl : args = #[v0, v1] := by cases args; simp_all
  obtain ⟨rfl, rfl⟩ := trodVars_none hV
  obtain ⟨a0, rfl, rfl, rfl, w0⟩ := open_int Try.underlying3 (hval 0 3 v0 rfl rfl) h0
  obtain ⟨a1, rfl, rfl, rfl, w1⟩ := open_int Try.underlying3 (hval 1 3 v1 rfl rfl) h1
  refine (limits_any a0 a1 W).mono fun e W' ⟨he, bel⟩ => ?_
  subst he
  exact ⟨_, rfl, _, _, _, [], _, [], hW', trodAll_mk1 (shut_bool Try.underlying4 _), (trodAll_cons_mk (shut_int Try.underlying3 w0) (trodAll_cons_mk (shut_int Try.underlying3 w1) trodAll_mk0)), rfl, bel.frame _, fun h => by cases h⟩
theorem over : Rows.ednsLimitsRow.holds Try.pinned (OpenSpec.ofChange Rows.ednsLimitsSpec) :=
  OpenClaim.holds_of_wide 6 Try.f6 rfl rfl rfl rfl rfl rfl rfl ⟨rfl, rfl, rfl, rfl, rfl⟩ rfl rfl rfl rfl rfl (by kernel_rfl) Try.func6 (by kernel_rfl)
    (of_decide_eq_true (by kernel_rfl)) (by unfold Func.isWrapper; first | (rw [if_pos (by decide +kernel)]; kernel_rfl) | (rw [if_neg (by decide +kernel)]; exact ⟨rfl, rfl⟩))
    (fun os started H enc _ => lifted os started H enc)
theorem proved : Rows.EdnsLimitsSaid := over

end Go.Proofs.Ytnbngkecabacaaa.Limits
namespace Go.Proofs.Ytnbngkecabacaaa
/-- The row, under a short name, for the claim. -/
theorem ednsLimits_holds : Rows.EdnsLimitsSaid := Limits.proved
end Go.Proofs.Ytnbngkecabacaaa
