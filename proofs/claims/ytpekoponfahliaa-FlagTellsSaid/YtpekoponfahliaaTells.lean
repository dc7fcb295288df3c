/- Any field of any bits, with any number laid, and the bits of any answer, are what the document's answer says: the law's function tells true at every three whole numbers; no condition. -/
import Derived.Test.YtpekoponfahliaaRows
import Derived.WalkKit
import Derived.ProofKit
import Derived.OpenShut
import Derived.ShutString
import Derived.ChangeOld
import Derived.Below
import Derived.SizedLaws
import Derived.Carry
import Derived.Test.YtpekoponfahliaaFq
import Derived.Test.YtpekoponfahliaaFv
import Derived.LoopTactic
import Derived.Test.YtpekoponfahliaaFs
namespace Go.Proofs.Ytpekoponfahliaa.Tells
open Go.ChangeShapes Go.WideShapes Go.ChangeAt Go.RowKit
open Go.ChangeMaps (open_string shut_string)
set_option linter.unusedVariables false
open Go.Proofs.Ytpekoponfahliaa.Fq
open Go.Proofs.Ytpekoponfahliaa.Fb Go.Proofs.Ytpekoponfahliaa.Fl Go.Proofs.Ytpekoponfahliaa.Fm Go.Proofs.Ytpekoponfahliaa.Fp Go.Proofs.Ytpekoponfahliaa.Fv


theorem tells_any (f b v : Int) (w2 : (Lit.int .i64 v).wf = true) (w : World) : Calls Try.prog 3 #[.int .i64 f, .int .i64 b, .int .i64 v] w fun e w' => e = .returned (.bool true) ∧ Below w.heap.size w w' := by
  have hv : v ≤ 9223372036854775807 := by simp [Lit.wf] at w2; exact w2.2
  have A := with_any f b v
  have B := Fs.rwith_any f b v
  have O := of_any f b
  have RO := Fs.rof_any f b
  have N := ans_any b v hv
  have RN := Fs.rans_any b v
  clear w2 hv
  generalize withF f b v = x at *
  generalize okB f b v = k at *
  generalize ofF f b = y at *
  generalize ans3 b v = z at *
  go_enter Try.func3, Try.ntmps3
  go_wp2_with fail
  refine (A _).mono ?_
  rintro e W1 ⟨rfl, b1⟩
  go_wp2_with fail
  refine (B _).mono ?_
  rintro e W2 ⟨rfl, b2⟩
  go_wp2_with fail
  refine (O _).mono ?_
  rintro e W3 ⟨rfl, b3⟩
  go_wp2_with fail
  refine (RO _).mono ?_
  rintro e W4 ⟨rfl, b4⟩
  go_wp2_with fail
  refine (N _).mono ?_
  rintro e W5 ⟨rfl, b5⟩
  go_wp2_with fail
  refine (RN _).mono ?_
  rintro e W6 ⟨rfl, b6⟩
  go_wp2_with fail
  refine (live_any _).mono ?_
  rintro e W7 ⟨rfl, b7⟩
  go_wp2_with fail
  go_ret
  exact ⟨rfl, (Fl.step _ _ _ (Fl.step _ _ _ (Fl.step _ _ _ (Fl.step _ _ _ (Fl.step _ _ _ (Fl.step _ _ _ b1 b2) b3) b4) b5) b6) b7)⟩

theorem own : ownKnob Try.prog.godebug = none := by kernel_rfl
theorem laidOut : laidOutB Try.prog = true := by kernel_rfl
set_option maxRecDepth 100000 in
theorem lifted (os : Os) (started : os.Started) (H : Type) (enc : TypeId × Value → H) :
    ReturnsInHanded {} Try.checked os 3 .any (Rows.flagTellsSpec.pre6 enc Try.prog Try.f3 Rows.flagTellsRow.domain false) (Rows.flagTellsSpec.post enc Try.prog Try.f3 false true false false) := by
  refine returnsInHanded_of_change_sized (C := Try.checked) own started (by kernel_rfl) Try.func3
    (ChangeSpec.witness6 (enc := enc) (C := Try.checked) false ⟨#[], #[.int .i64 0, .int .i64 0, .int .i64 0], []⟩ 8 (by kernel_rfl) (by kernel_rfl) (by kernel_rfl) (by kernel_rfl)) ?_
  intro W base args ds gs before hval0 hW hcnd hsz0 _
  have hsz : (DataW.weightsEach Try.prog (Try.f3.params.toList ++ Rows.flagTellsSpec.plain.varTypes Try.prog) (ds ++ gs)).all (· ≤ reachBytes) = true := hsz0
  have hval : ∀ (j : Nat) t v, Try.f3.params[j]? = some t → args[j]? = some v → Value.okWide Try.prog W .any base t v := hval0
  have hW' := hW
  obtain ⟨p, q, hA0, hV, rfl, hfz, hnd⟩ := hW
  have hA : DataW.TrodAll enc Try.prog W 0 (fun _ => true) true Try.f3.params.toList args.toList ds p := hA0
  rw [Try.params3] at hA hval hsz
  obtain ⟨v0, vs0, d0, ds0, p0, q0, hargs, rfl, rfl, h0, r0⟩ := trodAll_cons hA
  obtain ⟨v1, vs1, d1, ds1, p1, q1, rfl, rfl, rfl, h1, r1⟩ := trodAll_cons r0
  obtain ⟨v2, vs2, d2, ds2, p2, q2, rfl, rfl, rfl, h2, r2⟩ := trodAll_cons r1
  obtain ⟨rfl, rfl, rfl⟩ := trodAll_nil r2
  obtain rfl : args = #[v0, v1, v2] := by cases args; simp_all
  obtain ⟨rfl, rfl⟩ := trodVars_none hV
  obtain ⟨a0, rfl, rfl, rfl, w0⟩ := open_int Try.underlying3 (hval 0 3 v0 rfl rfl) h0
  obtain ⟨a1, rfl, rfl, rfl, w1⟩ := open_int Try.underlying3 (hval 1 3 v1 rfl rfl) h1
  obtain ⟨a2, rfl, rfl, rfl, w2⟩ := open_int Try.underlying3 (hval 2 3 v2 rfl rfl) h2
  refine (tells_any a0 a1 a2 w2 W).mono fun e W' ⟨he, bel⟩ => ?_
  subst he
  exact ⟨_, rfl, _, _, _, [], _, [], hW', trodAll_mk1 (shut_bool Try.underlying4 _), (trodAll_cons_mk (shut_int Try.underlying3 w0) (trodAll_cons_mk (shut_int Try.underlying3 w1) (trodAll_cons_mk (shut_int Try.underlying3 w2) trodAll_mk0))), rfl, bel.frame _, fun h => by cases h⟩
theorem over : Rows.flagTellsRow.holds Try.pinned (OpenSpec.ofChange Rows.flagTellsSpec) :=
  OpenClaim.holds_of_wide 3 Try.f3 rfl rfl rfl rfl rfl rfl rfl ⟨rfl, rfl, rfl, rfl, rfl⟩ rfl rfl rfl rfl rfl (by kernel_rfl) Try.func3 (by kernel_rfl)
    (of_decide_eq_true (by kernel_rfl)) (by unfold Func.isWrapper; first | (rw [if_pos (by decide +kernel)]; kernel_rfl) | (rw [if_neg (by decide +kernel)]; exact ⟨rfl, rfl⟩))
    (fun os started H enc _ => lifted os started H enc)
theorem proved : Rows.FlagTellsSaid := over

end Go.Proofs.Ytpekoponfahliaa.Tells
namespace Go.Proofs.Ytpekoponfahliaa
/-- The row, under a short name, for the claim. -/
theorem flagTells_holds : Rows.FlagTellsSaid := Tells.proved
end Go.Proofs.Ytpekoponfahliaa
