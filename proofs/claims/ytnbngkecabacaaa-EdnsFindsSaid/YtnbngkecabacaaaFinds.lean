/- What any message's OPT record says is what the document's answer says: the law's function tells true at every message; no condition. -/
import Derived.Test.YtnbngkecabacaaaRows
import Derived.WalkKit
import Derived.ProofKit
import Derived.OpenShut
import Derived.ShutString
import Derived.ChangeOld
import Derived.Below
import Derived.SizedLaws
import Derived.Carry
import Derived.Test.YtnbngkecabacaaaEv
import Derived.Lib.Hide
import Derived.Deep.RegionHeld3
import Derived.Test.YtnbngkecabacaaaEx
import Derived.Lib.SmallJoins
import Derived.Test.YtnbngkecabacaaaEt
import Derived.Test.YtnbngkecabacaaaEm
namespace Go.Proofs.Ytnbngkecabacaaa.Finds
open Go.ChangeShapes Go.WideShapes Go.ChangeAt Go.RowKit
open Go.ChangeMaps (open_string shut_string)
set_option linter.unusedVariables false
open Go.Proofs.Ytnbngkecabacaaa.Fb Go.Proofs.Ytnbngkecabacaaa.Fl Go.Proofs.Ytnbngkecabacaaa.Fr Go.Proofs.Ytnbngkecabacaaa.Ed Go.Proofs.Ytnbngkecabacaaa.Ef Go.Proofs.Ytnbngkecabacaaa.Eg Go.Proofs.Ytnbngkecabacaaa.Ev
open Go.Proofs.Ytnbngkecabacaaa.Ex
open Go.Joins Go.Deep
open Go.Proofs.Ytnbngkecabacaaa.Ey Go.Proofs.Ytnbngkecabacaaa.Ez Go.Proofs.Ytnbngkecabacaaa.Eu Go.Proofs.Ytnbngkecabacaaa.Et
open Go.Proofs.Ytnbngkecabacaaa.Em


theorem own : ownKnob Try.prog.godebug = none := by kernel_rfl
theorem laidOut : laidOutB Try.prog = true := by kernel_rfl
set_option maxRecDepth 100000 in
theorem lifted (os : Os) (started : os.Started) (H : Type) (enc : TypeId × Value → H) :
    ReturnsInHanded {} Try.checked os 3 .any (Rows.ednsFindsSpec.pre6 enc Try.prog Try.f3 Rows.ednsFindsRow.domain false) (Rows.ednsFindsSpec.post enc Try.prog Try.f3 false true false false) := by
  refine returnsInHanded_of_change_sized (C := Try.checked) own started (by kernel_rfl) Try.func3
    (ChangeSpec.witness6 (enc := enc) (C := Try.checked) false ⟨#[], #[.agg #[.int .i64 0, .int .i64 0, .slice none 0 0, .slice none 0 0, .slice none 0 0, .slice none 0 0]], []⟩ 8 (by kernel_rfl) (by kernel_rfl) (by kernel_rfl) (by kernel_rfl)) ?_
  intro W base args ds gs before hval0 hW hcnd hsz0 _
  have hsz : (DataW.weightsEach Try.prog (Try.f3.params.toList ++ Rows.ednsFindsSpec.plain.varTypes Try.prog) (ds ++ gs)).all (· ≤ reachBytes) = true := hsz0
  have hval : ∀ (j : Nat) t v, Try.f3.params[j]? = some t → args[j]? = some v → Value.okWide Try.prog W .any base t v := hval0
  have hW' := hW
  obtain ⟨p, q, hA0, hV, rfl, hfz, hnd⟩ := hW
  have hA : DataW.TrodAll enc Try.prog W 0 (fun _ => true) true Try.f3.params.toList args.toList ds p := hA0
  rw [Try.params3] at hA hval hsz
  obtain ⟨v0, vs0, d0, ds0, p0, q0, hargs, rfl, rfl, h0, r0⟩ := trodAll_cons hA
  obtain ⟨rfl, rfl, rfl⟩ := trodAll_nil r0
  obtain rfl : args = #[v0] := by cases args; simp_all
  obtain ⟨rfl, rfl⟩ := trodVars_none hV
  have h0k := h0
  have hlt0 : ∀ x ∈ p0, x.block < W.heap.size := fun x hx => hW'.lt x (by simp [hx])
  obtain ⟨id, bits, Q, A1, A2, A3, qn, qc, n1, c1, n2, c2, n3, c3, an, ns, ar, rfl, q, s1, s2, s3⟩ := open_msg (hval 0 25 v0 rfl rfl) h0 (fun n hn => by
    have := List.all_eq_true.1 hsz n (DataW.weights_mem_each (j := 0) (t := 25) (d := d0) rfl rfl n hn)
    simpa using this)
  refine (finds_any id bits Q A1 A2 A3 qn qc n1 c1 n2 c2 n3 c3 an ns ar W q s1 s2 s3).mono fun e W' ⟨he, bel⟩ => ?_
  subst he
  exact ⟨_, rfl, _, _, _, [], _, [], hW', trodAll_mk1 (shut_bool Try.underlying4 _), (trodAll_cons_mk (Below.trod laidOut (by kernel_rfl) (of_decide_eq_true (by kernel_rfl)) h0k bel hlt0) trodAll_mk0), rfl, bel.frame _, fun h => by cases h⟩
theorem over : Rows.ednsFindsRow.holds Try.pinned (OpenSpec.ofChange Rows.ednsFindsSpec) :=
  OpenClaim.holds_of_wide 3 Try.f3 rfl rfl rfl rfl rfl rfl rfl ⟨rfl, rfl, rfl, rfl, rfl⟩ rfl rfl rfl rfl rfl (by kernel_rfl) Try.func3 (by kernel_rfl)
    (of_decide_eq_true (by kernel_rfl)) (by unfold Func.isWrapper; first | (rw [if_pos (by decide +kernel)]; kernel_rfl) | (rw [if_neg (by decide +kernel)]; exact ⟨rfl, rfl⟩))
    (fun os started H enc _ => lifted os started H enc)
theorem proved : Rows.EdnsFindsSaid := over

end Go.Proofs.Ytnbngkecabacaaa.Finds
namespace Go.Proofs.Ytnbngkecabacaaa
/-- The row, under a short name, for the claim. -/
theorem ednsFinds_holds : Rows.EdnsFindsSaid := Finds.proved
end Go.Proofs.Ytnbngkecabacaaa
