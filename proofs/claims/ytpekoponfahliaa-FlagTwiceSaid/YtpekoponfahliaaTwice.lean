/- Fields are laid in any order; laid twice, the last one counts: the law's function tells true at every pair of fields, bits and pair of numbers; no condition. -/
import Derived.Test.YtpekoponfahliaaRows
import Derived.WalkKit
import Derived.ProofKit
import Derived.OpenShut
import Derived.ShutString
import Derived.ChangeOld
import Derived.Below
import Derived.SizedLaws
import Derived.Carry
import Derived.Test.YtpekoponfahliaaFq
import Derived.Test.YtpekoponfahliaaFv
import Derived.LoopTactic
namespace Go.Proofs.Ytpekoponfahliaa.Twice
open Go.ChangeShapes Go.WideShapes Go.ChangeAt Go.RowKit
open Go.ChangeMaps (open_string shut_string)
set_option linter.unusedVariables false
open Go.Proofs.Ytpekoponfahliaa.Fq
open Go.Proofs.Ytpekoponfahliaa.Fb Go.Proofs.Ytpekoponfahliaa.Fl Go.Proofs.Ytpekoponfahliaa.Fm Go.Proofs.Ytpekoponfahliaa.Fp Go.Proofs.Ytpekoponfahliaa.Fv


theorem okWide_arr2 {P : Program} {W : World} {r : Reach} {b0 : Nat} {t e : TypeId} {v : Value} (hu : P.underlying t = some (.array 2 e)) (hc : P.cellsOf t = 2) (h : Value.okWide P W r b0 t v) : ∃ x y : Value, v = .agg #[x, y] := by
  simp only [Value.okWide, hu] at h
  obtain ⟨cs, h1, h2, _⟩ := h
  obtain ⟨l⟩ := cs
  match l, h2.trans hc with
  | [x, y], _ => exact ⟨x, y, h1⟩

/-- An array of two whole numbers, opened. -/
theorem open_arr2 {H : Type} {enc : TypeId × Value → H} {P : Program} {W : World} {base : Nat} {sp : Nat → Bool} {held : Bool} {r : Reach} {b0 : Nat} {t e : TypeId} {k : IntKind} {v : Value} {d : DataW H} {ps : List MemPlace}
    (hu : P.underlying t = some (.array 2 e)) (hc : P.cellsOf t = 2) (he : P.underlying e = some (.int k)) (hce : P.cellsOf e = 1) (h : Value.okWide P W r b0 t v) (hd : DataW.Trod enc P W base sp held t v d ps) :
    ∃ x y : Int, v = .agg #[.int k x, .int k y] ∧ (Lit.int k x).wf = true ∧ (Lit.int k y).wf = true := by
  obtain ⟨vx, vy, rfl⟩ := okWide_arr2 hu hc h
  obtain ⟨fuel, hf⟩ := hd
  obtain ⟨ys, m, _, _, _, hl, hg⟩ := DataW.trod_array hu hf
  match ys, hl with
  | [y0, y1], _ =>
    have g0 := hg 0 (by omega)
    have g1 := hg 1 (by omega)
    simp [hce, Value.cells] at g0 g1
    obtain ⟨x, e0, _, wx⟩ := DataW.trod_int he g0
    obtain ⟨y, e1, _, wy⟩ := DataW.trod_int he g1
    simp at e0 e1
    subst e0 e1
    exact ⟨x, y, rfl, wx, wy⟩

theorem cells4 (w w' : World) (f0 f1 v0 v1 : Int) (h : Below ((w.alloc (.cells #[.int .i64 f0, .int .i64 f1] 31)).alloc (.cells #[.int .i64 v0, .int .i64 v1] 31)).heap.size ((w.alloc (.cells #[.int .i64 f0, .int .i64 f1] 31)).alloc (.cells #[.int .i64 v0, .int .i64 v1] 31)) w') :
    w'.cell? ⟨w.heap.size, 0, none⟩ = some (.int .i64 f0) ∧ w'.cell? ⟨w.heap.size, 1, none⟩ = some (.int .i64 f1) ∧ w'.cell? ⟨w.heap.size + 1, 0, none⟩ = some (.int .i64 v0) ∧ w'.cell? ⟨w.heap.size + 1, 1, none⟩ = some (.int .i64 v1) := by
  have hs : w.heap.size + 1 < ((w.alloc (.cells #[.int .i64 f0, .int .i64 f1] 31)).alloc (.cells #[.int .i64 v0, .int .i64 v1] 31)).heap.size := by simp
  exact ⟨(h.cell (p := ⟨w.heap.size, 0, none⟩) (Nat.lt_of_succ_lt hs)).trans (by simp), (h.cell (p := ⟨w.heap.size, 1, none⟩) (Nat.lt_of_succ_lt hs)).trans (by simp), (h.cell (p := ⟨w.heap.size + 1, 0, none⟩) hs).trans (by simp), (h.cell (p := ⟨w.heap.size + 1, 1, none⟩) hs).trans (by simp)⟩
theorem fin (w w' : World) (A B : Obj) (h : Below ((w.alloc A).alloc B).heap.size ((w.alloc A).alloc B) w') : Below w.heap.size w w' :=
  (((Below.refl _ _).alloc (Nat.le_refl _) A).alloc (by simp) B).trans (h.mono (by simp; omega))

set_option maxHeartbeats 1000000 in
theorem no1 (f0 f1 b v0 v1 : Int) (r0 r1 : Int) (o : Bool) (w : World) (A : ∀ w : World, Calls Try.prog 8 #[.int .i64 f0, .int .i64 b, .int .i64 v0] w fun e w' => e = .returned (.tuple #[.int .i64 r0, .bool false]) ∧ Below w.heap.size w w') (B : ∀ w : World, Calls Try.prog 8 #[.int .i64 f1, .int .i64 b, .int .i64 v1] w fun e w' => e = .returned (.tuple #[.int .i64 r1, .bool o]) ∧ Below w.heap.size w w') :
    Calls Try.prog 7 #[.agg #[.int .i64 f0, .int .i64 f1], .int .i64 b, .agg #[.int .i64 v0, .int .i64 v1]] w fun e w' => e = .returned (.bool true) ∧ Below w.heap.size w w' := by
  go_enter Try.func7, Try.ntmps7
  go_wp2_with fail
  refine (A _).mono ?_
  rintro e W1 ⟨rfl, b1⟩
  obtain ⟨q0a, q0b, q0c, q0d⟩ := cells4 _ _ _ _ _ _ b1
  go_wp2_with fail
  refine (B _).mono ?_
  rintro e W2 ⟨rfl, b2⟩
  obtain ⟨q1a, q1b, q1c, q1d⟩ := cells4 _ _ _ _ _ _ (Fl.step _ _ _ b1 b2)
  go_wp2_with fail
  refine (live_any _).mono ?_
  rintro e W3 ⟨rfl, b3⟩
  go_wp2_with fail
  go_ret
  exact ⟨rfl, fin _ _ _ _ (Fl.step _ _ _ (Fl.step _ _ _ b1 b2) b3)⟩

set_option maxHeartbeats 1000000 in
theorem no2 (f0 f1 b v0 v1 : Int) (r0 r1 : Int) (w : World) (A : ∀ w : World, Calls Try.prog 8 #[.int .i64 f0, .int .i64 b, .int .i64 v0] w fun e w' => e = .returned (.tuple #[.int .i64 r0, .bool true]) ∧ Below w.heap.size w w') (B : ∀ w : World, Calls Try.prog 8 #[.int .i64 f1, .int .i64 b, .int .i64 v1] w fun e w' => e = .returned (.tuple #[.int .i64 r1, .bool false]) ∧ Below w.heap.size w w') :
    Calls Try.prog 7 #[.agg #[.int .i64 f0, .int .i64 f1], .int .i64 b, .agg #[.int .i64 v0, .int .i64 v1]] w fun e w' => e = .returned (.bool true) ∧ Below w.heap.size w w' := by
  go_enter Try.func7, Try.ntmps7
  go_wp2_with fail
  refine (A _).mono ?_
  rintro e W1 ⟨rfl, b1⟩
  obtain ⟨q0a, q0b, q0c, q0d⟩ := cells4 _ _ _ _ _ _ b1
  go_wp2_with fail
  refine (B _).mono ?_
  rintro e W2 ⟨rfl, b2⟩
  obtain ⟨q1a, q1b, q1c, q1d⟩ := cells4 _ _ _ _ _ _ (Fl.step _ _ _ b1 b2)
  go_wp2_with fail
  refine (live_any _).mono ?_
  rintro e W3 ⟨rfl, b3⟩
  go_wp2_with fail
  go_ret
  exact ⟨rfl, fin _ _ _ _ (Fl.step _ _ _ (Fl.step _ _ _ b1 b2) b3)⟩

set_option maxHeartbeats 1000000 in
theorem same (f0 f1 b v0 v1 : Int) (r0 r1 : Int) (w : World) (e01 : (f0 == f1) = true) (A : ∀ w : World, Calls Try.prog 8 #[.int .i64 f0, .int .i64 b, .int .i64 v0] w fun e w' => e = .returned (.tuple #[.int .i64 r0, .bool true]) ∧ Below w.heap.size w w') (B : ∀ w : World, Calls Try.prog 8 #[.int .i64 f1, .int .i64 b, .int .i64 v1] w fun e w' => e = .returned (.tuple #[.int .i64 r1, .bool true]) ∧ Below w.heap.size w w') (D : ∀ w : World, Calls Try.prog 8 #[.int .i64 f1, .int .i64 r0, .int .i64 v1] w fun e w' => e = .returned (.tuple #[.int .i64 r1, .bool true]) ∧ Below w.heap.size w w') (E : ∀ w : World, Calls Try.prog 8 #[.int .i64 f0, .int .i64 r1, .int .i64 v0] w fun e w' => e = .returned (.tuple #[.int .i64 r0, .bool true]) ∧ Below w.heap.size w w') :
    Calls Try.prog 7 #[.agg #[.int .i64 f0, .int .i64 f1], .int .i64 b, .agg #[.int .i64 v0, .int .i64 v1]] w fun e w' => e = .returned (.bool true) ∧ Below w.heap.size w w' := by
  go_enter Try.func7, Try.ntmps7
  go_wp2_with fail
  refine (A _).mono ?_
  rintro e W1 ⟨rfl, b1⟩
  obtain ⟨q0a, q0b, q0c, q0d⟩ := cells4 _ _ _ _ _ _ b1
  go_wp2_with fail
  refine (B _).mono ?_
  rintro e W2 ⟨rfl, b2⟩
  obtain ⟨q1a, q1b, q1c, q1d⟩ := cells4 _ _ _ _ _ _ (Fl.step _ _ _ b1 b2)
  go_wp2_with fail
  refine (D _).mono ?_
  rintro e W3 ⟨rfl, b3⟩
  obtain ⟨q2a, q2b, q2c, q2d⟩ := cells4 _ _ _ _ _ _ (Fl.step _ _ _ (Fl.step _ _ _ b1 b2) b3)
  go_wp2_with fail
  refine (E _).mono ?_
  rintro e W4 ⟨rfl, b4⟩
  obtain ⟨q3a, q3b, q3c, q3d⟩ := cells4 _ _ _ _ _ _ (Fl.step _ _ _ (Fl.step _ _ _ (Fl.step _ _ _ b1 b2) b3) b4)
  go_wp2_with fail
  refine (live_any _).mono ?_
  rintro e W5 ⟨rfl, b5⟩
  go_wp2_with fail
  go_ret
  exact ⟨rfl, fin _ _ _ _ (Fl.step _ _ _ (Fl.step _ _ _ (Fl.step _ _ _ (Fl.step _ _ _ b1 b2) b3) b4) b5)⟩

set_option maxHeartbeats 1000000 in
theorem other (f0 f1 b v0 v1 : Int) (r0 r1 c : Int) (w : World) (e01 : (f0 == f1) = false) (A : ∀ w : World, Calls Try.prog 8 #[.int .i64 f0, .int .i64 b, .int .i64 v0] w fun e w' => e = .returned (.tuple #[.int .i64 r0, .bool true]) ∧ Below w.heap.size w w') (B : ∀ w : World, Calls Try.prog 8 #[.int .i64 f1, .int .i64 b, .int .i64 v1] w fun e w' => e = .returned (.tuple #[.int .i64 r1, .bool true]) ∧ Below w.heap.size w w') (D : ∀ w : World, Calls Try.prog 8 #[.int .i64 f1, .int .i64 r0, .int .i64 v1] w fun e w' => e = .returned (.tuple #[.int .i64 c, .bool true]) ∧ Below w.heap.size w w') (E : ∀ w : World, Calls Try.prog 8 #[.int .i64 f0, .int .i64 r1, .int .i64 v0] w fun e w' => e = .returned (.tuple #[.int .i64 c, .bool true]) ∧ Below w.heap.size w w') :
    Calls Try.prog 7 #[.agg #[.int .i64 f0, .int .i64 f1], .int .i64 b, .agg #[.int .i64 v0, .int .i64 v1]] w fun e w' => e = .returned (.bool true) ∧ Below w.heap.size w w' := by
  go_enter Try.func7, Try.ntmps7
  go_wp2_with fail
  refine (A _).mono ?_
  rintro e W1 ⟨rfl, b1⟩
  obtain ⟨q0a, q0b, q0c, q0d⟩ := cells4 _ _ _ _ _ _ b1
  go_wp2_with fail
  refine (B _).mono ?_
  rintro e W2 ⟨rfl, b2⟩
  obtain ⟨q1a, q1b, q1c, q1d⟩ := cells4 _ _ _ _ _ _ (Fl.step _ _ _ b1 b2)
  go_wp2_with fail
  refine (D _).mono ?_
  rintro e W3 ⟨rfl, b3⟩
  obtain ⟨q2a, q2b, q2c, q2d⟩ := cells4 _ _ _ _ _ _ (Fl.step _ _ _ (Fl.step _ _ _ b1 b2) b3)
  go_wp2_with fail
  refine (E _).mono ?_
  rintro e W4 ⟨rfl, b4⟩
  obtain ⟨q3a, q3b, q3c, q3d⟩ := cells4 _ _ _ _ _ _ (Fl.step _ _ _ (Fl.step _ _ _ (Fl.step _ _ _ b1 b2) b3) b4)
  go_wp2_with fail
  refine (live_any _).mono ?_
  rintro e W5 ⟨rfl, b5⟩
  go_wp2_with fail
  go_ret
  exact ⟨rfl, fin _ _ _ _ (Fl.step _ _ _ (Fl.step _ _ _ (Fl.step _ _ _ (Fl.step _ _ _ b1 b2) b3) b4) b5)⟩

theorem twice_any (f0 f1 b v0 v1 : Int) (w : World) : Calls Try.prog 7 #[.agg #[.int .i64 f0, .int .i64 f1], .int .i64 b, .agg #[.int .i64 v0, .int .i64 v1]] w fun e w' => e = .returned (.bool true) ∧ Below w.heap.size w w' := by
  have A := with_any f0 b v0
  have B := with_any f1 b v1
  by_cases h : okB f0 b v0 = true
  · rw [h] at A
    by_cases k : okB f1 b v1 = true
    · rw [k] at B
      have D := with_any f1 (withF f0 b v0) v1
      have E := with_any f0 (withF f1 b v1) v0
      rw [twice_ok f0 f1 b v0 v1 h k] at D
      rw [twice_ok f1 f0 b v1 v0 k h] at E
      by_cases e : f0 = f1
      · subst e
        rw [twice_same f0 b v0 v1 h k] at D
        rw [twice_same f0 b v1 v0 k h] at E
        exact same f0 f0 b v0 v1 _ _ w (by simp) A B D E
      · rw [twice_other f0 f1 b v0 v1 h k e] at D
        exact other f0 f1 b v0 v1 _ _ _ w (by simpa using e) A B D E
    · rw [(by simpa using k : okB f1 b v1 = false)] at B
      exact no2 f0 f1 b v0 v1 _ _ w A B
  · rw [(by simpa using h : okB f0 b v0 = false)] at A
    exact no1 f0 f1 b v0 v1 _ _ _ w A B

theorem own : ownKnob Try.prog.godebug = none := by kernel_rfl
theorem laidOut : laidOutB Try.prog = true := by kernel_rfl
set_option maxRecDepth 100000 in
theorem lifted (os : Os) (started : os.Started) (H : Type) (enc : TypeId × Value → H) :
    ReturnsInHanded {} Try.checked os 7 .any (Rows.flagTwiceSpec.pre6 enc Try.prog Try.f7 Rows.flagTwiceRow.domain false) (Rows.flagTwiceSpec.post enc Try.prog Try.f7 false true false false) := by
  refine returnsInHanded_of_change_sized (C := Try.checked) own started (by kernel_rfl) Try.func7
    (ChangeSpec.witness6 (enc := enc) (C := Try.checked) false ⟨#[], #[.agg #[.int .i64 0, .int .i64 0], .int .i64 0, .agg #[.int .i64 0, .int .i64 0]], []⟩ 8 (by kernel_rfl) (by kernel_rfl) (by kernel_rfl) (by kernel_rfl)) ?_
  intro W base args ds gs before hval0 hW hcnd hsz0 _
  have hsz : (DataW.weightsEach Try.prog (Try.f7.params.toList ++ Rows.flagTwiceSpec.plain.varTypes Try.prog) (ds ++ gs)).all (· ≤ reachBytes) = true := hsz0
  have hval : ∀ (j : Nat) t v, Try.f7.params[j]? = some t → args[j]? = some v → Value.okWide Try.prog W .any base t v := hval0
  have hW' := hW
  obtain ⟨p, q, hA0, hV, rfl, hfz, hnd⟩ := hW
  have hA : DataW.TrodAll enc Try.prog W 0 (fun _ => true) true Try.f7.params.toList args.toList ds p := hA0
  rw [Try.params7] at hA hval hsz
  obtain ⟨v0, vs0, d0, ds0, p0, q0, hargs, rfl, rfl, h0, r0⟩ := trodAll_cons hA
  obtain ⟨v1, vs1, d1, ds1, p1, q1, rfl, rfl, rfl, h1, r1⟩ := trodAll_cons r0
  obtain ⟨v2, vs2, d2, ds2, p2, q2, rfl, rfl, rfl, h2, r2⟩ := trodAll_cons r1
  obtain ⟨rfl, rfl, rfl⟩ := trodAll_nil r2
  obtain rfl : args = #[v0, v1, v2] := by cases args; simp_all
  obtain ⟨rfl, rfl⟩ := trodVars_none hV
  have h0k := h0
  have hlt0 : ∀ x ∈ p0, x.block < W.heap.size := fun x hx => hW'.lt x (by simp [hx])
  have h2k := h2
  have hlt2 : ∀ x ∈ p2, x.block < W.heap.size := fun x hx => hW'.lt x (by simp [hx])
  obtain ⟨x0, y0, rfl, wx0, wy0⟩ := open_arr2 Try.underlying31 (by kernel_rfl) Try.underlying3 (by kernel_rfl) (hval 0 31 v0 rfl rfl) h0
  obtain ⟨a1, rfl, rfl, rfl, w1⟩ := open_int Try.underlying3 (hval 1 3 v1 rfl rfl) h1
  obtain ⟨x2, y2, rfl, wx2, wy2⟩ := open_arr2 Try.underlying31 (by kernel_rfl) Try.underlying3 (by kernel_rfl) (hval 2 31 v2 rfl rfl) h2
  refine (twice_any x0 y0 a1 x2 y2 W).mono fun e W' ⟨he, bel⟩ => ?_
  subst he
  exact ⟨_, rfl, _, _, _, [], _, [], hW', trodAll_mk1 (shut_bool Try.underlying4 _), (trodAll_cons_mk (Below.trod laidOut (by kernel_rfl) (of_decide_eq_true (by kernel_rfl)) h0k bel hlt0) (trodAll_cons_mk (shut_int Try.underlying3 w1) (trodAll_cons_mk (Below.trod laidOut (by kernel_rfl) (of_decide_eq_true (by kernel_rfl)) h2k bel hlt2) trodAll_mk0))), rfl, bel.frame _, fun h => by cases h⟩
theorem over : Rows.flagTwiceRow.holds Try.pinned (OpenSpec.ofChange Rows.flagTwiceSpec) :=
  OpenClaim.holds_of_wide 7 Try.f7 rfl rfl rfl rfl rfl rfl rfl ⟨rfl, rfl, rfl, rfl, rfl⟩ rfl rfl rfl rfl rfl (by kernel_rfl) Try.func7 (by kernel_rfl)
    (of_decide_eq_true (by kernel_rfl)) (by unfold Func.isWrapper; first | (rw [if_pos (by decide +kernel)]; kernel_rfl) | (rw [if_neg (by decide +kernel)]; exact ⟨rfl, rfl⟩))
    (fun os started H enc _ => lifted os started H enc)
theorem proved : Rows.FlagTwiceSaid := over

end Go.Proofs.Ytpekoponfahliaa.Twice
namespace Go.Proofs.Ytpekoponfahliaa
/-- The row, under a short name, for the claim. -/
theorem flagTwice_holds : Rows.FlagTwiceSaid := Twice.proved
end Go.Proofs.Ytpekoponfahliaa
