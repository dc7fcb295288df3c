/- A field that is laid is told, and no other one is another; laid as it was, nothing changes; all fields, and bit 6, together are the bits: the law's function tells true at every three whole numbers; no condition. -/
import Derived.Test.YtpekoponfahliaaRows
import Derived.WalkKit
import Derived.ProofKit
import Derived.OpenShut
import Derived.ShutString
import Derived.ChangeOld
import Derived.Below
import Derived.SizedLaws
import Derived.Carry
import Derived.Test.YtpekoponfahliaaFq
import Derived.Test.YtpekoponfahliaaFv
import Derived.LoopTactic
import Derived.Lib.Hide
namespace Go.Proofs.Ytpekoponfahliaa.Apart
open Go.ChangeShapes Go.WideShapes Go.ChangeAt Go.RowKit
open Go.ChangeMaps (open_string shut_string)
set_option linter.unusedVariables false
open Go.Proofs.Ytpekoponfahliaa.Fq
open Go.Proofs.Ytpekoponfahliaa.Fb Go.Proofs.Ytpekoponfahliaa.Fl Go.Proofs.Ytpekoponfahliaa.Fm Go.Proofs.Ytpekoponfahliaa.Fp Go.Proofs.Ytpekoponfahliaa.Fv


theorem ofv {f b x : Int} (h : ofF f b = x) : ∀ w : World, Calls Try.prog 10 #[.int .i64 f, .int .i64 b] w fun e w' => e = .returned (.int .i64 x) ∧ Below w.heap.size w w' := by
  rw [← h]; exact of_any f b
theorem withv {f b v x : Int} (o : okB f b v = true) (h : withF f b v = x) : ∀ w : World, Calls Try.prog 8 #[.int .i64 f, .int .i64 b, .int .i64 v] w fun e w' => e = .returned (.tuple #[.int .i64 x, .bool true]) ∧ Below w.heap.size w w' := by
  rw [← h, ← o]; exact with_any f b v
/-- What is told of every field of bits that were laid. -/
def Tells (f b v n : Int) : Prop := ∀ k : Int, 0 ≤ k → k < 9 → ofF k n = if k = f then v else ofF k b
/-- Each next sum is made by laying the next field. -/
def Steps9 (b : Int) : Prop := ∀ k : Int, 0 ≤ k → k < 9 → okB k (sumTo b k) (ofF k b) = true ∧ withF k (sumTo b k) (ofF k b) = sumTo b (k + 1)

def Loop2 (w : World) (b : Int) (all g : Value) (wr : World) : Prop := ∃ k : Int, 0 ≤ k ∧ k ≤ 9 ∧ g = .int .i64 k ∧ all = .int .i64 (sumTo b k) ∧ Below w.heap.size w wr

set_option maxHeartbeats 2000000 in
theorem no_out (f b v r : Int) (w : World) (h : b < 0 ∨ 65535 < b) (A : ∀ w : World, Calls Try.prog 8 #[.int .i64 f, .int .i64 b, .int .i64 v] w fun e w' => e = .returned (.tuple #[.int .i64 r, .bool false]) ∧ Below w.heap.size w w') :
    Calls Try.prog 4 #[.int .i64 f, .int .i64 b, .int .i64 v] w fun e w' => e = .returned (.bool true) ∧ Below w.heap.size w w' := by
  by_cases h0 : b < 0
  · have c1 : decide (b < 0) = true := by simpa using h0
    clear h h0
    go_enter Try.func4, Try.ntmps4
    go_wp2_with fail
    refine (A _).mono ?_
    rintro e W1 ⟨rfl, b1⟩
    go_wp2_with fail
    refine (live_any _).mono ?_
    rintro e W2 ⟨rfl, b2⟩
    go_wp2_with fail
    go_ret
    exact ⟨rfl, (Fl.step _ _ _ b1 b2)⟩
  · have c1 : decide (b < 0) = false := by simpa using h0
    have c2 : decide (65535 < b) = true := by simp; omega
    clear h h0
    go_enter Try.func4, Try.ntmps4
    go_wp2_with fail
    refine (A _).mono ?_
    rintro e W1 ⟨rfl, b1⟩
    go_wp2_with fail
    refine (live_any _).mono ?_
    rintro e W2 ⟨rfl, b2⟩
    go_wp2_with fail
    go_ret
    exact ⟨rfl, (Fl.step _ _ _ b1 b2)⟩

set_option maxHeartbeats 2000000 in
theorem no_in (f b v r : Int) (w : World) (H0 : 0 ≤ b) (H1 : b ≤ 65535) (HP : Hid (Steps9 b)) (A : ∀ w : World, Calls Try.prog 8 #[.int .i64 f, .int .i64 b, .int .i64 v] w fun e w' => e = .returned (.tuple #[.int .i64 r, .bool false]) ∧ Below w.heap.size w w') :
    Calls Try.prog 4 #[.int .i64 f, .int .i64 b, .int .i64 v] w fun e w' => e = .returned (.bool true) ∧ Below w.heap.size w w' := by
  have c1 : decide (b < 0) = false := by simp; omega
  have c2 : decide (65535 < b) = false := by simp; omega
  have c3 := six_eq b H0 H1
  generalize hs : six b = z at c3
  have HS := Lib.hid hs
  clear hs
  go_enter Try.func4, Try.ntmps4
  go_wp2_with fail
  refine (A _).mono ?_
  rintro e W1 ⟨rfl, b1⟩
  go_wp2_with fail
  go_loopw [13, 14, 15, 16] (fun all g _ _ wr => Loop2 w b all g wr) (fun _ g _ _ _ => (9 - intOf g).toNat)
  case atStart => exact ⟨0, by omega, by omega, rfl, by rw [sum_0, HS.out], b1⟩
  case round =>
    obtain ⟨k, hk0, hk1, rfl, rfl, hbr⟩ := hrel
    by_cases hk : k < 9
    · have c9 : decide (k < 9) = true := by simpa using hk
      obtain ⟨p1, p2⟩ := HP.out k hk0 hk
      have O := of_any k b
      have Wt := withv p1 p2
      clear p1 p2
      generalize sumTo b k = s at *
      have HZ := Lib.hid (show sumTo b (k + 1) = sumTo b (k + 1) from rfl)
      generalize hq : sumTo b (k + 1) = s' at Wt
      have HQ := Lib.hid hq
      clear hq HZ
      generalize ofF k b = o at *
      go_wp2_with fail
      refine (O _).mono ?_
      rintro e x1 ⟨rfl, xb1⟩
      go_wp2_with fail
      refine (Wt _).mono ?_
      rintro e x2 ⟨rfl, xb2⟩
      go_wp2_with fail
      go_roundw
      case rel => exact ⟨k + 1, by omega, by omega, rfl, by rw [HQ.out], Fl.step _ _ _ (Fl.step _ _ _ hbr xb1) xb2⟩
      case measure => simp [intOf]; omega
    · have c9 : decide (k < 9) = false := by simpa using hk
      obtain rfl : k = 9 := by omega
      have e9 := Lib.hid (sum_9 b H0 H1)
      generalize sumTo b 9 = s at *
      have ee : (s == b) = true := by rw [e9.out]; simp
      clear e9
      go_wp2_with fail
      refine (live_any _).mono ?_
      rintro e x1 ⟨rfl, xb1⟩
      go_wp2_with fail
      go_ret
      exact ⟨rfl, Fl.step _ _ _ hbr xb1⟩

set_option maxHeartbeats 4000000 in
theorem yes_in (f b v n fo z : Int) (w : World) (H0 : 0 ≤ b) (H1 : b ≤ 65535) (N0 : 0 ≤ n) (N1 : n ≤ 65535) (HP : Hid (Steps9 b)) (HT : Hid (Tells f b v n)) (c3 : bits .and .i64 b 64 = z) (c4 : bits .and .i64 n 64 = z) (HS : Hid (six b = z)) (A : ∀ w : World, Calls Try.prog 8 #[.int .i64 f, .int .i64 b, .int .i64 v] w fun e w' => e = .returned (.tuple #[.int .i64 n, .bool true]) ∧ Below w.heap.size w w') (OF : ∀ w : World, Calls Try.prog 10 #[.int .i64 f, .int .i64 b] w fun e w' => e = .returned (.int .i64 fo) ∧ Below w.heap.size w w') (BK : ∀ w : World, Calls Try.prog 8 #[.int .i64 f, .int .i64 n, .int .i64 fo] w fun e w' => e = .returned (.tuple #[.int .i64 b, .bool true]) ∧ Below w.heap.size w w') :
    Calls Try.prog 4 #[.int .i64 f, .int .i64 b, .int .i64 v] w fun e w' => e = .returned (.bool true) ∧ Below w.heap.size w w' := by
  have c1 : decide (b < 0) = false := by simp; omega
  have c2 : decide (65535 < b) = false := by simp; omega
  have d1 : decide (n < 0) = false := by simp; omega
  have d2 : decide (65535 < n) = false := by simp; omega
  go_enter Try.func4, Try.ntmps4
  go_wp2_with fail
  refine (A _).mono ?_
  rintro e W1 ⟨rfl, b1⟩
  go_wp2_with fail
  go_loopw [9, 10] (fun g _ wr => ∃ k : Int, 0 ≤ k ∧ k ≤ 9 ∧ g = .int .i64 k ∧ Below w.heap.size w wr) (fun g _ _ => (9 - intOf g).toNat)
  case atStart => exact ⟨0, by omega, by omega, rfl, b1⟩
  case round =>
    obtain ⟨k, hk0, hk1, rfl, hbr⟩ := hrel
    by_cases hk : k < 9
    · have c9 : decide (k < 9) = true := by simpa using hk
      have t := HT.out k hk0 hk
      by_cases hf : k = f
      · have e1 : (k == f) = true := by simpa using hf
        rw [if_pos hf] at t
        have O1 := of_any k b
        have O2 := ofv t
        clear t hf
        generalize ofF k b = o at O1
        go_wp2_with fail
        refine (O1 _).mono ?_
        rintro e x1 ⟨rfl, xb1⟩
        go_wp2_with fail
        refine (O2 _).mono ?_
        rintro e x2 ⟨rfl, xb2⟩
        go_wp2_with fail
        go_roundw
        case rel => exact ⟨k + 1, by omega, by omega, rfl, Fl.step _ _ _ (Fl.step _ _ _ hbr xb1) xb2⟩
        case measure => simp [intOf]; omega
      · have e1 : (k == f) = false := by simpa using hf
        rw [if_neg hf] at t
        have O1 := of_any k b
        have O2 := ofv t
        clear t hf
        generalize ofF k b = o at O1 O2
        go_wp2_with fail
        refine (O1 _).mono ?_
        rintro e x1 ⟨rfl, xb1⟩
        go_wp2_with fail
        refine (O2 _).mono ?_
        rintro e x2 ⟨rfl, xb2⟩
        go_wp2_with fail
        go_roundw
        case rel => exact ⟨k + 1, by omega, by omega, rfl, Fl.step _ _ _ (Fl.step _ _ _ hbr xb1) xb2⟩
        case measure => simp [intOf]; omega
    · have c9 : decide (k < 9) = false := by simpa using hk
      go_wp2_with fail
      refine (OF _).mono ?_
      rintro e x1 ⟨rfl, xb1⟩
      go_wp2_with fail
      refine (BK _).mono ?_
      rintro e x2 ⟨rfl, xb2⟩
      have hb2 := Fl.step _ _ _ (Fl.step _ _ _ hbr xb1) xb2
      go_wp2_with fail
      go_loopw [13, 14, 15, 16] (fun all g _ _ wr => Loop2 w b all g wr) (fun _ g _ _ _ => (9 - intOf g).toNat)
      case atStart => exact ⟨0, by omega, by omega, rfl, by rw [sum_0, HS.out], hb2⟩
      case round =>
        obtain ⟨k, jk0, jk1, rfl, rfl, hbs⟩ := hrel
        by_cases jk : k < 9
        · have c8 : decide (k < 9) = true := by simpa using jk
          obtain ⟨p1, p2⟩ := HP.out k jk0 jk
          have O := of_any k b
          have Wt := withv p1 p2
          clear p1 p2
          generalize sumTo b k = s at *
          have HZ := Lib.hid (show sumTo b (k + 1) = sumTo b (k + 1) from rfl)
          generalize hq : sumTo b (k + 1) = s' at Wt
          have HQ := Lib.hid hq
          clear hq HZ
          generalize ofF k b = o at *
          go_wp2_with fail
          refine (O _).mono ?_
          rintro e x1 ⟨rfl, xb1⟩
          go_wp2_with fail
          refine (Wt _).mono ?_
          rintro e x2 ⟨rfl, xb2⟩
          go_wp2_with fail
          go_roundw
          case rel => exact ⟨k + 1, by omega, by omega, rfl, by rw [HQ.out], Fl.step _ _ _ (Fl.step _ _ _ hbs xb1) xb2⟩
          case measure => simp [intOf]; omega
        · have c8 : decide (k < 9) = false := by simpa using jk
          obtain rfl : k = 9 := by omega
          have e9 := Lib.hid (sum_9 b H0 H1)
          generalize sumTo b 9 = s at *
          have ee : (s == b) = true := by rw [e9.out]; simp
          clear e9
          go_wp2_with fail
          refine (live_any _).mono ?_
          rintro e x1 ⟨rfl, xb1⟩
          go_wp2_with fail
          go_ret
          exact ⟨rfl, Fl.step _ _ _ hbs xb1⟩

theorem apart_any (f b v : Int) (w : World) : Calls Try.prog 4 #[.int .i64 f, .int .i64 b, .int .i64 v] w fun e w' => e = .returned (.bool true) ∧ Below w.heap.size w w' := by
  have A := with_any f b v
  by_cases h : okB f b v = true
  · rw [h] at A
    obtain ⟨⟨h0, h1, h2, h3⟩, v0, v1⟩ := (ok_iff f b v).1 h
    have hb := with_bd f b v h
    obtain ⟨k1, k2⟩ := back f b v h
    exact yes_in f b v _ _ _ w h0 h1 hb.1 hb.2 (Lib.hid fun k a c => sum_step b k h0 h1 a c) (Lib.hid fun k a c => told f k b v h a c) (six_eq b h0 h1) ((six_eq _ hb.1 hb.2).trans (six_with f b v h)) (Lib.hid rfl) A (of_any f b) (withv k1 k2)
  · rw [(by simpa using h : okB f b v = false)] at A
    by_cases h0 : b < 0
    · exact no_out f b v _ w (.inl h0) A
    · by_cases h1 : 65535 < b
      · exact no_out f b v _ w (.inr h1) A
      · exact no_in f b v _ w (by omega) (by omega) (Lib.hid fun k a c => sum_step b k (by omega) (by omega) a c) A

theorem own : ownKnob Try.prog.godebug = none := by kernel_rfl
theorem laidOut : laidOutB Try.prog = true := by kernel_rfl
set_option maxRecDepth 100000 in
theorem lifted (os : Os) (started : os.Started) (H : Type) (enc : TypeId × Value → H) :
    ReturnsInHanded {} Try.checked os 4 .any (Rows.flagApartSpec.pre6 enc Try.prog Try.f4 Rows.flagApartRow.domain false) (Rows.flagApartSpec.post enc Try.prog Try.f4 false true false false) := by
  refine returnsInHanded_of_change_sized (C := Try.checked) own started (by kernel_rfl) Try.func4
    (ChangeSpec.witness6 (enc := enc) (C := Try.checked) false ⟨#[], #[.int .i64 0, .int .i64 0, .int .i64 0], []⟩ 8 (by kernel_rfl) (by kernel_rfl) (by kernel_rfl) (by kernel_rfl)) ?_
  intro W base args ds gs before hval0 hW hcnd hsz0 _
  have hsz : (DataW.weightsEach Try.prog (Try.f4.params.toList ++ Rows.flagApartSpec.plain.varTypes Try.prog) (ds ++ gs)).all (· ≤ reachBytes) = true := hsz0
  have hval : ∀ (j : Nat) t v, Try.f4.params[j]? = some t → args[j]? = some v → Value.okWide Try.prog W .any base t v := hval0
  have hW' := hW
  obtain ⟨p, q, hA0, hV, rfl, hfz, hnd⟩ := hW
  have hA : DataW.TrodAll enc Try.prog W 0 (fun _ => true) true Try.f4.params.toList args.toList ds p := hA0
  rw [Try.params4] at hA hval hsz
  obtain ⟨v0, vs0, d0, ds0, p0, q0, hargs, rfl, rfl, h0, r0⟩ := trodAll_cons hA
  obtain ⟨v1, vs1, d1, ds1, p1, q1, rfl, rfl, rfl, h1, r1⟩ := trodAll_cons r0
  obtain ⟨v2, vs2, d2, ds2, p2, q2, rfl, rfl, rfl, h2, r2⟩ := trodAll_cons r1
  obtain ⟨rfl, rfl, rfl⟩ := trodAll_nil r2
  obtain rfl : args = #[v0, v1, v2] := by cases args; simp_all
  obtain ⟨rfl, rfl⟩ := trodVars_none hV
  obtain ⟨a0, rfl, rfl, rfl, w0⟩ := open_int Try.underlying3 (hval 0 3 v0 rfl rfl) h0
  obtain ⟨a1, rfl, rfl, rfl, w1⟩ := open_int Try.underlying3 (hval 1 3 v1 rfl rfl) h1
  obtain ⟨a2, rfl, rfl, rfl, w2⟩ := open_int Try.underlying3 (hval 2 3 v2 rfl rfl) h2
  refine (apart_any a0 a1 a2 W).mono fun e W' ⟨he, bel⟩ => ?_
  subst he
  exact ⟨_, rfl, _, _, _, [], _, [], hW', trodAll_mk1 (shut_bool Try.underlying4 _), (trodAll_cons_mk (shut_int Try.underlying3 w0) (trodAll_cons_mk (shut_int Try.underlying3 w1) (trodAll_cons_mk (shut_int Try.underlying3 w2) trodAll_mk0))), rfl, bel.frame _, fun h => by cases h⟩
theorem over : Rows.flagApartRow.holds Try.pinned (OpenSpec.ofChange Rows.flagApartSpec) :=
  OpenClaim.holds_of_wide 4 Try.f4 rfl rfl rfl rfl rfl rfl rfl ⟨rfl, rfl, rfl, rfl, rfl⟩ rfl rfl rfl rfl rfl (by kernel_rfl) Try.func4 (by kernel_rfl)
    (of_decide_eq_true (by kernel_rfl)) (by unfold Func.isWrapper; first | (rw [if_pos (by decide +kernel)]; kernel_rfl) | (rw [if_neg (by decide +kernel)]; exact ⟨rfl, rfl⟩))
    (fun os started H enc _ => lifted os started H enc)
theorem proved : Rows.FlagApartSaid := over

end Go.Proofs.Ytpekoponfahliaa.Apart
namespace Go.Proofs.Ytpekoponfahliaa
/-- The row, under a short name, for the claim. -/
theorem flagApart_holds : Rows.FlagApartSaid := Apart.proved
end Go.Proofs.Ytpekoponfahliaa
