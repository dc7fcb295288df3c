/- Over what is not live everything that has a rank goes, and what has none goes over nothing: the law's function tells true at every two whole numbers and either bool; no condition. -/
import Derived.Test.YtggpdlbffhoogaaRows
import Derived.WalkKit
import Derived.ProofKit
import Derived.OpenShut
import Derived.ShutString
import Derived.ChangeOld
import Derived.Below
import Derived.SizedLaws
import Derived.Carry
import Derived.Test.YtggpdlbffhoogaaRk
import Derived.Outline
namespace Go.Proofs.Ytggpdlbffhoogaa.Dead
open Go.ChangeShapes Go.WideShapes Go.ChangeAt Go.RowKit
open Go.ChangeMaps (open_string shut_string)
set_option linter.unusedVariables false
open Go.Proofs.Ytggpdlbffhoogaa.Rk


theorem ov {o n : Int} {l r : Bool} (h : overB o l n = r) (w : World) : Calls Try.prog 8 #[.int .i64 o, .bool l, .int .i64 n] w fun e w' => e = .returned (.bool r) ∧ w = w' := by
  rw [← h]; exact over_any o n l w

theorem dead_ge (o n : Int) (l : Bool) (w : World) (h : 1 ≤ n ∧ n ≤ 5) (k : o ≤ n) : Calls Try.prog 5 #[.int .i64 o, .int .i64 n, .bool l] w fun e w' => e = .returned (.bool true) ∧ Below w.heap.size w w' := by
  have c1 : decide (1 ≤ n) = true := by simp; omega
  have c2 : decide (n ≤ 5) = true := by simp; omega
  have H1 := ov (o := o) (n := n) (l := false) (r := true) (by unfold overB; simp; omega)
  have H2 := ov (o := o) (n := n) (l := true) (r := true) (by unfold overB; simp; omega)
  clear h k
  go_enter Try.func5, Try.ntmps5
  go_wp2_with fail
  refine (H1 _).mono ?_
  rintro e w' ⟨rfl, rfl⟩
  go_wp2_with fail
  refine (H2 _).mono ?_
  rintro e w' ⟨rfl, rfl⟩
  go_wp2_with fail
  refine (H1 _).mono ?_
  rintro e w' ⟨rfl, rfl⟩
  go_wp2_with fail
  refine (live_any _).mono ?_
  rintro e w1 ⟨rfl, hb⟩
  go_wp2_with fail
  go_ret
  exact ⟨rfl, hb⟩

theorem dead_lt (o n : Int) (l : Bool) (w : World) (h : 1 ≤ n ∧ n ≤ 5) (k : ¬ o ≤ n) : Calls Try.prog 5 #[.int .i64 o, .int .i64 n, .bool l] w fun e w' => e = .returned (.bool true) ∧ Below w.heap.size w w' := by
  have c1 : decide (1 ≤ n) = true := by simp; omega
  have c2 : decide (n ≤ 5) = true := by simp; omega
  have H1 := ov (o := o) (n := n) (l := false) (r := true) (by unfold overB; simp; omega)
  have H2 := ov (o := o) (n := n) (l := true) (r := false) (by unfold overB; simp; omega)
  clear h k
  go_enter Try.func5, Try.ntmps5
  go_wp2_with fail
  refine (H1 _).mono ?_
  rintro e w' ⟨rfl, rfl⟩
  go_wp2_with fail
  refine (H2 _).mono ?_
  rintro e w' ⟨rfl, rfl⟩
  go_wp2_with fail
  refine (live_any _).mono ?_
  rintro e w1 ⟨rfl, hb⟩
  go_wp2_with fail
  go_ret
  exact ⟨rfl, hb⟩

theorem dead_no1 (o n : Int) (l : Bool) (w : World) (h : n < 1) : Calls Try.prog 5 #[.int .i64 o, .int .i64 n, .bool l] w fun e w' => e = .returned (.bool true) ∧ Below w.heap.size w w' := by
  have c1 : decide (1 ≤ n) = false := by simp; omega
  have H : ∀ x, overB o x n = false := by intro x; unfold overB; simp; omega
  have H1 := ov (H false)
  have H2 := ov (H l)
  have H3 := ov (H true)
  clear H h
  go_enter Try.func5, Try.ntmps5
  go_wp2_with fail
  refine (H1 _).mono ?_
  rintro e w' ⟨rfl, rfl⟩
  go_wp2_with fail
  refine (H2 _).mono ?_
  rintro e w' ⟨rfl, rfl⟩
  go_wp2_with fail
  refine (H3 _).mono ?_
  rintro e w' ⟨rfl, rfl⟩
  go_wp2_with fail
  refine (live_any _).mono ?_
  rintro e w1 ⟨rfl, hb⟩
  go_wp2_with fail
  go_ret
  exact ⟨rfl, hb⟩

theorem dead_no2 (o n : Int) (l : Bool) (w : World) (h : 5 < n) : Calls Try.prog 5 #[.int .i64 o, .int .i64 n, .bool l] w fun e w' => e = .returned (.bool true) ∧ Below w.heap.size w w' := by
  have c1 : decide (1 ≤ n) = true := by simp; omega
  have c2 : decide (n ≤ 5) = false := by simp; omega
  have H : ∀ x, overB o x n = false := by intro x; unfold overB; simp; omega
  have H1 := ov (H false)
  have H2 := ov (H l)
  have H3 := ov (H true)
  clear H h
  go_enter Try.func5, Try.ntmps5
  go_wp2_with fail
  refine (H1 _).mono ?_
  rintro e w' ⟨rfl, rfl⟩
  go_wp2_with fail
  refine (H2 _).mono ?_
  rintro e w' ⟨rfl, rfl⟩
  go_wp2_with fail
  refine (H3 _).mono ?_
  rintro e w' ⟨rfl, rfl⟩
  go_wp2_with fail
  refine (live_any _).mono ?_
  rintro e w1 ⟨rfl, hb⟩
  go_wp2_with fail
  go_ret
  exact ⟨rfl, hb⟩

theorem dead_any (o n : Int) (l : Bool) (w : World) : Calls Try.prog 5 #[.int .i64 o, .int .i64 n, .bool l] w fun e w' => e = .returned (.bool true) ∧ Below w.heap.size w w' := by
  by_cases h : 1 ≤ n ∧ n ≤ 5
  · by_cases k : o ≤ n
    · exact dead_ge o n l w h k
    · exact dead_lt o n l w h k
  · by_cases k : n < 1
    · exact dead_no1 o n l w k
    · exact dead_no2 o n l w (by omega)

theorem own : ownKnob Try.prog.godebug = none := by kernel_rfl
theorem laidOut : laidOutB Try.prog = true := by kernel_rfl
set_option maxRecDepth 100000 in
theorem lifted (os : Os) (started : os.Started) (H : Type) (enc : TypeId × Value → H) :
    ReturnsInHanded {} Try.checked os 5 .any (Rows.rankDeadSpec.pre6 enc Try.prog Try.f5 Rows.rankDeadRow.domain false) (Rows.rankDeadSpec.post enc Try.prog Try.f5 false true false false) := by
  refine returnsInHanded_of_change_sized (C := Try.checked) own started (by kernel_rfl) Try.func5
    (ChangeSpec.witness6 (enc := enc) (C := Try.checked) false ⟨#[], #[.int .i64 0, .int .i64 0, .bool false], []⟩ 8 (by kernel_rfl) (by kernel_rfl) (by kernel_rfl) (by kernel_rfl)) ?_
  intro W base args ds gs before hval0 hW hcnd hsz0 _
  have hsz : (DataW.weightsEach Try.prog (Try.f5.params.toList ++ Rows.rankDeadSpec.plain.varTypes Try.prog) (ds ++ gs)).all (· ≤ reachBytes) = true := hsz0
  have hval : ∀ (j : Nat) t v, Try.f5.params[j]? = some t → args[j]? = some v → Value.okWide Try.prog W .any base t v := hval0
  have hW' := hW
  obtain ⟨p, q, hA0, hV, rfl, hfz, hnd⟩ := hW
  have hA : DataW.TrodAll enc Try.prog W 0 (fun _ => true) true Try.f5.params.toList args.toList ds p := hA0
  rw [Try.params5] at hA hval hsz
  obtain ⟨v0, vs0, d0, ds0, p0, q0, hargs, rfl, rfl, h0, r0⟩ := trodAll_cons hA
  obtain ⟨v1, vs1, d1, ds1, p1, q1, rfl, rfl, rfl, h1, r1⟩ := trodAll_cons r0
  obtain ⟨v2, vs2, d2, ds2, p2, q2, rfl, rfl, rfl, h2, r2⟩ := trodAll_cons r1
  obtain ⟨rfl, rfl, rfl⟩ := trodAll_nil r2
  obtain rfl : args = #[v0, v1, v2] := by cases args; simp_all
  obtain ⟨rfl, rfl⟩ := trodVars_none hV
  obtain ⟨a0, rfl, rfl, rfl, w0⟩ := open_int Try.underlying3 (hval 0 3 v0 rfl rfl) h0
  obtain ⟨a1, rfl, rfl, rfl, w1⟩ := open_int Try.underlying3 (hval 1 3 v1 rfl rfl) h1
  obtain ⟨a2, rfl, rfl, rfl⟩ := open_bool Try.underlying4 (hval 2 4 v2 rfl rfl) h2
  refine (dead_any a0 a1 a2 W).mono fun e W' ⟨he, bel⟩ => ?_
  subst he
  exact ⟨_, rfl, _, _, _, [], _, [], hW', trodAll_mk1 (shut_bool Try.underlying4 _), (trodAll_cons_mk (shut_int Try.underlying3 w0) (trodAll_cons_mk (shut_int Try.underlying3 w1) (trodAll_cons_mk (shut_bool Try.underlying4 _) trodAll_mk0))), rfl, bel.frame _, fun h => by cases h⟩
theorem over : Rows.rankDeadRow.holds Try.pinned (OpenSpec.ofChange Rows.rankDeadSpec) :=
  OpenClaim.holds_of_wide 5 Try.f5 rfl rfl rfl rfl rfl rfl rfl ⟨rfl, rfl, rfl, rfl, rfl⟩ rfl rfl rfl rfl rfl (by kernel_rfl) Try.func5 (by kernel_rfl)
    (of_decide_eq_true (by kernel_rfl)) (by unfold Func.isWrapper; first | (rw [if_pos (by decide +kernel)]; kernel_rfl) | (rw [if_neg (by decide +kernel)]; exact ⟨rfl, rfl⟩))
    (fun os started H enc _ => lifted os started H enc)
theorem proved : Rows.RankDeadSaid := over

end Go.Proofs.Ytggpdlbffhoogaa.Dead
namespace Go.Proofs.Ytggpdlbffhoogaa
/-- The row, under a short name, for the claim. -/
theorem rankDead_holds : Rows.RankDeadSaid := Dead.proved
end Go.Proofs.Ytggpdlbffhoogaa
