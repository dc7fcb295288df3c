/- What a record says is found, whatever stands beside it that is no OPT record: the law's function tells true at everything that can be said and every message; no condition. -/
import Derived.Test.YtnbngkecabacaaaRows
import Derived.WalkKit
import Derived.ProofKit
import Derived.OpenShut
import Derived.ShutString
import Derived.ChangeOld
import Derived.Below
import Derived.SizedLaws
import Derived.Carry
import Derived.Test.YtnbngkecabacaaaEv
import Derived.Lib.Hide
import Derived.Deep.RegionHeld3
import Derived.Test.YtnbngkecabacaaaEx
import Derived.Lib.SmallJoins
import Derived.Test.YtnbngkecabacaaaEt
import Derived.Test.YtnbngkecabacaaaEm
import Derived.Test.YtnbngkecabacaaaEb
namespace Go.Proofs.Ytnbngkecabacaaa.Back
open Go.ChangeShapes Go.WideShapes Go.ChangeAt Go.RowKit
open Go.ChangeMaps (open_string shut_string)
set_option linter.unusedVariables false
open Go.Proofs.Ytnbngkecabacaaa.Fb Go.Proofs.Ytnbngkecabacaaa.Fl Go.Proofs.Ytnbngkecabacaaa.Fr Go.Proofs.Ytnbngkecabacaaa.Ed Go.Proofs.Ytnbngkecabacaaa.Ef Go.Proofs.Ytnbngkecabacaaa.Eg Go.Proofs.Ytnbngkecabacaaa.Ev
open Go.Proofs.Ytnbngkecabacaaa.Ex
open Go.Joins Go.Deep
open Go.Proofs.Ytnbngkecabacaaa.Ey Go.Proofs.Ytnbngkecabacaaa.Ez Go.Proofs.Ytnbngkecabacaaa.Eu Go.Proofs.Ytnbngkecabacaaa.Et
open Go.Proofs.Ytnbngkecabacaaa.Em
open Go.Proofs.Ytnbngkecabacaaa.Eb

theorem open_opt {H : Type} {enc : TypeId × Value → H} {P : Program} {W : World} {base : Nat} {sp : Nat → Bool} {held : Bool} {r : Reach} {b0 : Nat} {t ti tb : TypeId} {f0 f1 f2 f3 f4 : Field} {vv : Value} {dd : DataW H} {p : List MemPlace}
    (hs : P.underlying t = some (.struct #[f0, f1, f2, f3, f4])) (hone : oneCellFields P #[f0, f1, f2, f3, f4] = true) (hC : P.cellsOf t = 5)
    (e0 : P.underlying f0.type = some .bool) (e1 : P.underlying f1.type = some (.int .i64)) (e2 : P.underlying f2.type = some (.int .i64)) (e3 : P.underlying f3.type = some (.int .i64)) (e4 : P.underlying f4.type = some .bool)
    (hv : Value.okWide P W r b0 t vv) (hd : DataW.Trod enc P W base sp held t vv dd p) :
    ∃ (h : Bool) (s x v : Int) (d : Bool), vv = .agg #[.bool h, .int .i64 s, .int .i64 x, .int .i64 v, .bool d] := by
  obtain ⟨cs, rfl, hsz⟩ := okWide_struct hs hv
  obtain ⟨l⟩ := cs
  match l, hsz.trans hC with
  | [c0, c1, c2, c3, c4], _ =>
    obtain ⟨fuel, hf⟩ := hd
    obtain ⟨xs, n, _, hx, _, hlen, hg⟩ := DataW.trod_struct hs hf
    obtain ⟨o0, k0⟩ := hone_of hone 0 f0 rfl
    obtain ⟨o1, k1⟩ := hone_of hone 1 f1 rfl
    obtain ⟨o2, k2⟩ := hone_of hone 2 f2 rfl
    obtain ⟨o3, k3⟩ := hone_of hone 3 f3 rfl
    obtain ⟨o4, k4⟩ := hone_of hone 4 f4 rfl
    match xs, hlen with
    | [y0, y1, y2, y3, y4], _ =>
      have t0 : DataW.trod enc P W base sp held n f0.type [c0] = some y0 := by simpa [Value.cells, o0, k0] using hg 0 f0 rfl
      have t1 : DataW.trod enc P W base sp held n f1.type [c1] = some y1 := by simpa [Value.cells, o1, k1] using hg 1 f1 rfl
      have t2 : DataW.trod enc P W base sp held n f2.type [c2] = some y2 := by simpa [Value.cells, o2, k2] using hg 2 f2 rfl
      have t3 : DataW.trod enc P W base sp held n f3.type [c3] = some y3 := by simpa [Value.cells, o3, k3] using hg 3 f3 rfl
      have t4 : DataW.trod enc P W base sp held n f4.type [c4] = some y4 := by simpa [Value.cells, o4, k4] using hg 4 f4 rfl
      obtain ⟨h, a0, _⟩ := DataW.trod_bool e0 t0
      obtain ⟨s, a1, _, _⟩ := DataW.trod_int e1 t1
      obtain ⟨x, a2, _, _⟩ := DataW.trod_int e2 t2
      obtain ⟨v, a3, _, _⟩ := DataW.trod_int e3 t3
      obtain ⟨d, a4, _⟩ := DataW.trod_bool e4 t4
      simp at a0 a1 a2 a3 a4
      subst a0 a1 a2 a3 a4
      exact ⟨h, s, x, v, d, rfl⟩


theorem own : ownKnob Try.prog.godebug = none := by kernel_rfl
theorem laidOut : laidOutB Try.prog = true := by kernel_rfl
set_option maxRecDepth 100000 in
theorem lifted (os : Os) (started : os.Started) (H : Type) (enc : TypeId × Value → H) :
    ReturnsInHanded {} Try.checked os 5 .any (Rows.ednsBackSpec.pre6 enc Try.prog Try.f5 Rows.ednsBackRow.domain false) (Rows.ednsBackSpec.post enc Try.prog Try.f5 false true false false) := by
  refine returnsInHanded_of_change_sized (C := Try.checked) own started (by kernel_rfl) Try.func5
    (ChangeSpec.witness6 (enc := enc) (C := Try.checked) false ⟨#[], #[.agg #[.bool false, .int .i64 0, .int .i64 0, .int .i64 0, .bool false], .agg #[.int .i64 0, .int .i64 0, .slice none 0 0, .slice none 0 0, .slice none 0 0, .slice none 0 0]], []⟩ 8 (by kernel_rfl) (by kernel_rfl) (by kernel_rfl) (by kernel_rfl)) ?_
  intro W base args ds gs before hval0 hW hcnd hsz0 _
  have hsz : (DataW.weightsEach Try.prog (Try.f5.params.toList ++ Rows.ednsBackSpec.plain.varTypes Try.prog) (ds ++ gs)).all (· ≤ reachBytes) = true := hsz0
  have hval : ∀ (j : Nat) t v, Try.f5.params[j]? = some t → args[j]? = some v → Value.okWide Try.prog W .any base t v := hval0
  have hW' := hW
  obtain ⟨p, q, hA0, hV, rfl, hfz, hnd⟩ := hW
  have hA : DataW.TrodAll enc Try.prog W 0 (fun _ => true) true Try.f5.params.toList args.toList ds p := hA0
  rw [Try.params5] at hA hval hsz
  obtain ⟨v0, vs0, d0, ds0, p0, q0, hargs, rfl, rfl, h0, r0⟩ := trodAll_cons hA
  obtain ⟨v1, vs1, d1, ds1, p1, q1, rfl, rfl, rfl, h1, r1⟩ := trodAll_cons r0
  obtain ⟨rfl, rfl, rfl⟩ := trodAll_nil r1
  obtain rfl : args = #[v0, v1] := by cases args; simp_all
  obtain ⟨rfl, rfl⟩ := trodVars_none hV
  have h0k := h0
  have hlt0 : ∀ x ∈ p0, x.block < W.heap.size := fun x hx => hW'.lt x (by simp [hx])
  have h1k := h1
  have hlt1 : ∀ x ∈ p1, x.block < W.heap.size := fun x hx => hW'.lt x (by simp [hx])
  obtain ⟨hh, ss, xx, vv, dd, rfl⟩ := open_opt (ti := 3) (tb := 4) Try.underlying33 (by kernel_rfl) (by kernel_rfl) Try.underlying4 Try.underlying3 Try.underlying3 Try.underlying3 Try.underlying4 (hval 0 33 v0 rfl rfl) h0
  obtain ⟨id, bits, Q, A1, A2, A3, qn, qc, n1, c1, n2, c2, n3, c3, an, ns, ar, rfl, q, s1, s2, s3, b3⟩ := open_msg (hval 1 25 v1 rfl rfl) h1 (fun n hn => by
    have := List.all_eq_true.1 hsz n (DataW.weights_mem_each (ts := [33, 25] ++ []) (j := 1) (t := 25) (d := d1) rfl rfl n hn)
    simpa using this)
  refine (back_any ⟨hh, ss, xx, vv, dd⟩ id bits Q A1 A2 A3 qn qc n1 c1 n2 c2 n3 c3 an ns ar W q s1 s2 s3 b3).mono fun e W' ⟨he, bel⟩ => ?_
  subst he
  exact ⟨_, rfl, _, _, _, [], _, [], hW', trodAll_mk1 (shut_bool Try.underlying4 _), (trodAll_cons_mk (Below.trod laidOut (by kernel_rfl) (of_decide_eq_true (by kernel_rfl)) h0k bel hlt0) (trodAll_cons_mk (Below.trod laidOut (by kernel_rfl) (of_decide_eq_true (by kernel_rfl)) h1k bel hlt1) trodAll_mk0)), rfl, bel.frame _, fun h => by cases h⟩
theorem over : Rows.ednsBackRow.holds Try.pinned (OpenSpec.ofChange Rows.ednsBackSpec) :=
  OpenClaim.holds_of_wide 5 Try.f5 rfl rfl rfl rfl rfl rfl rfl ⟨rfl, rfl, rfl, rfl, rfl⟩ rfl rfl rfl rfl rfl (by kernel_rfl) Try.func5 (by kernel_rfl)
    (of_decide_eq_true (by kernel_rfl)) (by unfold Func.isWrapper; first | (rw [if_pos (by decide +kernel)]; kernel_rfl) | (rw [if_neg (by decide +kernel)]; exact ⟨rfl, rfl⟩))
    (fun os started H enc _ => lifted os started H enc)
theorem proved : Rows.EdnsBackSaid := over

end Go.Proofs.Ytnbngkecabacaaa.Back
namespace Go.Proofs.Ytnbngkecabacaaa
/-- The row, under a short name, for the claim. -/
theorem ednsBack_holds : Rows.EdnsBackSaid := Back.proved
end Go.Proofs.Ytnbngkecabacaaa
