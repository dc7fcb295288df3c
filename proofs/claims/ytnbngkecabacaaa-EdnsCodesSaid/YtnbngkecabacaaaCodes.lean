/- Of a code of 0 to 2047, laid as Ext and Rcode, the code is told: the law's function tells true at every two whole numbers; no condition. -/
import Derived.Test.YtnbngkecabacaaaRows
import Derived.WalkKit
import Derived.ProofKit
import Derived.OpenShut
import Derived.ShutString
import Derived.ChangeOld
import Derived.Below
import Derived.SizedLaws
import Derived.Carry
import Derived.Test.YtnbngkecabacaaaEv
import Derived.Lib.Hide
import Derived.Deep.RegionHeld3
namespace Go.Proofs.Ytnbngkecabacaaa.Codes
open Go.ChangeShapes Go.WideShapes Go.ChangeAt Go.RowKit
open Go.ChangeMaps (open_string shut_string)
set_option linter.unusedVariables false
open Go.Proofs.Ytnbngkecabacaaa.Fb Go.Proofs.Ytnbngkecabacaaa.Fl Go.Proofs.Ytnbngkecabacaaa.Fr Go.Proofs.Ytnbngkecabacaaa.Ed Go.Proofs.Ytnbngkecabacaaa.Ef Go.Proofs.Ytnbngkecabacaaa.Eg Go.Proofs.Ytnbngkecabacaaa.Ev


theorem out1 (c b : Int) (w : World) (h : c < 0) : Calls Try.prog 7 #[.int .i64 c, .int .i64 b] w fun e w' => e = .returned (.bool true) ∧ Below w.heap.size w w' := by
  have c1 : decide (c < 0) = true := by simpa using h
  clear h
  go_enter Try.func7, Try.ntmps7
  go_wp2_with fail
  refine (live_any _).mono ?_
  rintro e w1 ⟨rfl, b1⟩
  go_wp2_with fail
  go_ret
  exact ⟨rfl, b1⟩

theorem out2 (c b : Int) (w : World) (h : 2047 < c) : Calls Try.prog 7 #[.int .i64 c, .int .i64 b] w fun e w' => e = .returned (.bool true) ∧ Below w.heap.size w w' := by
  have c1 : decide (c < 0) = false := by simp; omega
  have c2 : decide (2047 < c) = true := by simpa using h
  clear h
  go_enter Try.func7, Try.ntmps7
  go_wp2_with fail
  refine (live_any _).mono ?_
  rintro e w1 ⟨rfl, b1⟩
  go_wp2_with fail
  go_ret
  exact ⟨rfl, b1⟩

theorem out3 (c b : Int) (w : World) (h0 : 0 ≤ c) (h1 : c ≤ 2047) (W : ∀ w : World, Calls Try.prog 18 #[.int .i64 8, .int .i64 b, .int .i64 (c % 16)] w fun e w' => e = .returned (.tuple #[.int .i64 0, .bool false]) ∧ Below w.heap.size w w') :
    Calls Try.prog 7 #[.int .i64 c, .int .i64 b] w fun e w' => e = .returned (.bool true) ∧ Below w.heap.size w w' := by
  have c1 : decide (c < 0) = false := by simp; omega
  have c2 : decide (2047 < c) = false := by simp; omega
  go_enter Try.func7, Try.ntmps7
  go_wp2_with fail
  refine (W _).mono ?_
  rintro e w0 ⟨rfl, b0⟩
  go_wp2_with fail
  refine (live_any _).mono ?_
  rintro e w1 ⟨rfl, b1⟩
  go_wp2_with fail
  go_ret
  exact ⟨rfl, Ed.step _ _ _ b0 b1⟩

def recX (t : Int) : RV := ⟨⟨#[0]⟩, 41, 512, t, ⟨#[]⟩⟩
theorem findX (x : Int) (x0 : 0 ≤ x) (x1 : x ≤ 127) : findS [] [] [recX (x * 16777216)] = (⟨true, 512, x, 0, false⟩, 0) := by
  have e1 : idx [recX (x * 16777216)] = 0 := by simp [idx, recX]
  have e2 : goodR (recX (x * 16777216)) = true := by
    unfold goodR inB recX
    simp; omega
  unfold findS
  rw [if_neg (by simp [idx]), if_neg (by simp [idx]), e1, if_neg (by omega)]
  have e3 : [recX (x * 16777216)][(0 : Int).toNat]? = some (recX (x * 16777216)) := rfl
  have e4 : ([recX (x * 16777216)].drop ((0 : Int).toNat + 1)) = [] := rfl
  rw [e3, e4]
  unfold pick
  simp only [e2]
  rw [if_pos (by decide)]
  unfold optOf recX
  have d1 : x * 16777216 / 16777216 = x := by omega
  have d2 : x * 16777216 / 65536 % 256 = 0 := by omega
  have d3 : ¬ (x * 16777216 / 32768 % 2 = 1) := by omega
  simp [d1, d2, d3]
theorem find_x (w : World) (n : Nat) (hn : n = w.heap.size) (x t : Int) (ht : t = x * 16777216) (x0 : 0 ≤ x) (x1 : x ≤ 127) : Calls Try.prog 10 #[.agg #[.int .i64 0, .int .i64 0, .slice none 0 0, .slice none 0 0, .slice none 0 0, .slice (some ⟨n, 0, none⟩) 1 1]] (w.alloc (.cells #[.string ⟨#[0]⟩, .int .i64 41, .int .i64 512, .int .i64 t, .string ⟨#[]⟩] 37)) fun e w' => e = .returned (.tuple #[.agg #[.bool true, .int .i64 512, .int .i64 x, .int .i64 0, .bool false], .int .i64 0]) ∧ Below (w.alloc (.cells #[.string ⟨#[0]⟩, .int .i64 41, .int .i64 512, .int .i64 t, .string ⟨#[]⟩] 37)).heap.size (w.alloc (.cells #[.string ⟨#[0]⟩, .int .i64 41, .int .i64 512, .int .i64 t, .string ⟨#[]⟩] 37)) w' := by
  subst hn
  have h := find_any 0 0 none none none _ 0 0 0 0 0 0 1 1 [] [] [recX t] _ (sl_nil _) (sl_nil _) (sl_one w (recX t))
  rw [ht, findX x x0 x1, ← ht] at h; exact h

set_option maxHeartbeats 2000000 in
theorem core (c b b' x t : Int) (w : World) (h0 : 0 ≤ c) (h1 : c ≤ 2047) (hx : c / 16 = x) (ht : Hid (t = x * 16777216)) (x0 : Hid (0 ≤ x)) (x1 : Hid (x ≤ 127))
    (W : ∀ w : World, Calls Try.prog 18 #[.int .i64 8, .int .i64 b, .int .i64 (c % 16)] w fun e w' => e = .returned (.tuple #[.int .i64 b', .bool true]) ∧ Below w.heap.size w w')
    (R : ∀ w : World, Calls Try.prog 12 #[.agg #[.bool true, .int .i64 512, .int .i64 x, .int .i64 0, .bool false]] w fun e w' => e = .returned (.tuple #[.agg #[.string ⟨#[0]⟩, .int .i64 41, .int .i64 512, .int .i64 t, .string ⟨#[]⟩], .bool true]) ∧ Below w.heap.size w w')
    (C1 : ∀ w : World, Calls Try.prog 16 #[.int .i64 b', .agg #[.bool true, .int .i64 512, .int .i64 x, .int .i64 0, .bool false]] w fun e w' => e = .returned (.int .i64 c) ∧ Below w.heap.size w w')
    (C2 : ∀ w : World, Calls Try.prog 16 #[.int .i64 b', .agg #[.bool false, .int .i64 0, .int .i64 0, .int .i64 0, .bool false]] w fun e w' => e = .returned (.int .i64 (c % 16)) ∧ Below w.heap.size w w') :
    Calls Try.prog 7 #[.int .i64 c, .int .i64 b] w fun e w' => e = .returned (.bool true) ∧ Below w.heap.size w w' := by
  have c1 : decide (c < 0) = false := by simp; omega
  have c2 : decide (2047 < c) = false := by simp; omega
  go_enter Try.func7, Try.ntmps7
  go_wp2_with fail
  refine (W _).mono ?_
  rintro e w0 ⟨rfl, b0⟩
  have wz := b0.alloc b0.size (.cells #[.bool true, .int .i64 512, .int .i64 x, .int .i64 0, .bool false] 29)
  go_wp2_with fail
  refine (R _).mono ?_
  rintro e w1 ⟨rfl, hb⟩
  have wz := wz.trans (hb.mono wz.size)
  clear hb
  have wz := wz.alloc wz.size (.cells #[.string ⟨#[0]⟩, .int .i64 41, .int .i64 512, .int .i64 t, .string ⟨#[]⟩] 37)
  have wz := wz.alloc wz.size (.cells #[.string ⟨#[0]⟩, .int .i64 41, .int .i64 512, .int .i64 t, .string ⟨#[]⟩] 37)
  go_wp2_with fail
  refine (find_x _ _ (by simp) x t ht.out x0.out x1.out).mono ?_
  rintro e w2 ⟨rfl, hb⟩
  have wz := wz.trans (hb.mono wz.size)
  clear hb
  have T := Blk.new w2 29 #[.bool true, .int .i64 512, .int .i64 x, .int .i64 0, .bool false]
  have wz := wz.alloc wz.size (.cells #[.bool true, .int .i64 512, .int .i64 x, .int .i64 0, .bool false] 29)
  go_wp2_with fail
  refine (C1 _).mono ?_
  rintro e w3 ⟨rfl, hb⟩
  have wz := wz.trans (hb.mono wz.size)
  clear hb
  go_wp2_with fail
  refine (C2 _).mono ?_
  rintro e w4 ⟨rfl, hb⟩
  have wz := wz.trans (hb.mono wz.size)
  clear hb
  go_wp2_with fail
  refine (live_any _).mono ?_
  rintro e w5 ⟨rfl, hb⟩
  have wz := wz.trans (hb.mono wz.size)
  go_wp2_with fail
  go_ret
  exact ⟨rfl, wz⟩

theorem codes_any (c b : Int) (w : World) : Calls Try.prog 7 #[.int .i64 c, .int .i64 b] w fun e w' => e = .returned (.bool true) ∧ Below w.heap.size w w' := by
  by_cases h0 : c < 0
  · exact out1 c b w h0
  by_cases h1 : 2047 < c
  · exact out2 c b w h1
  by_cases hb : 0 ≤ b ∧ b ≤ 65535
  · have W := rwith8_in b (c % 16) hb.1 hb.2 (by omega) (by omega)
    have x0 : 0 ≤ c / 16 := by omega
    have x1 : c / 16 ≤ 127 := by omega
    have R := record_any ⟨true, 512, c / 16, 0, false⟩
    have ok : okO ⟨true, 512, c / 16, 0, false⟩ = true := by unfold okO inB; simp; omega
    have er : recS ⟨true, 512, c / 16, 0, false⟩ = ⟨⟨#[0]⟩, 41, 512, c / 16 * 16777216⟩ := by
      unfold recS; rw [ok]; unfold ttlO; simp
    rw [ok, er] at R
    have C1 := code_any (b - b % 16 + c % 16) ⟨true, 512, c / 16, 0, false⟩
    have C2 := code_any (b - b % 16 + c % 16) ⟨false, 0, 0, 0, false⟩
    have rc : rcOf (b - b % 16 + c % 16) = c % 16 := by unfold rcOf; rw [if_pos (by omega)]; omega
    have e1 : codeO (b - b % 16 + c % 16) ⟨true, 512, c / 16, 0, false⟩ = c := by
      unfold codeO; rw [if_pos rfl, rc]; unfold wrap64; simp only []; omega
    have e2 : codeO (b - b % 16 + c % 16) ⟨false, 0, 0, 0, false⟩ = c % 16 := by
      unfold codeO; rw [if_neg (by simp), rc]
    rw [e1] at C1
    rw [e2] at C2
    exact core c b _ _ _ w (by omega) (by omega) rfl (Lib.hid rfl) (Lib.hid x0) (Lib.hid x1) W R C1 C2
  · exact out3 c b w (by omega) (by omega) (rwith8_out b (c % 16) hb)

theorem own : ownKnob Try.prog.godebug = none := by kernel_rfl
theorem laidOut : laidOutB Try.prog = true := by kernel_rfl
set_option maxRecDepth 100000 in
theorem lifted (os : Os) (started : os.Started) (H : Type) (enc : TypeId × Value → H) :
    ReturnsInHanded {} Try.checked os 7 .any (Rows.ednsCodesSpec.pre6 enc Try.prog Try.f7 Rows.ednsCodesRow.domain false) (Rows.ednsCodesSpec.post enc Try.prog Try.f7 false true false false) := by
  refine returnsInHanded_of_change_sized (C := Try.checked) own started (by kernel_rfl) Try.func7
    (ChangeSpec.witness6 (enc := enc) (C := Try.checked) false ⟨#[], #[.int .i64 0, .int .i64 0], []⟩ 8 (by kernel_rfl) (by kernel_rfl) (by kernel_rfl) (by kernel_rfl)) ?_
  intro W base args ds gs before hval0 hW hcnd hsz0 _
  have hsz : (DataW.weightsEach Try.prog (Try.f7.params.toList ++ Rows.ednsCodesSpec.plain.varTypes Try.prog) (ds ++ gs)).all (· ≤ reachBytes) = true := hsz0
  have hval : ∀ (j : Nat) t v, Try.f7.params[j]? = some t → args[j]? = some v → Value.okWide Try.prog W .any base t v := hval0
  have hW' := hW
  obtain ⟨p, q, hA0, hV, rfl, hfz, hnd⟩ := hW
  have hA : DataW.TrodAll enc Try.prog W 0 (fun _ => true) true Try.f7.params.toList args.toList ds p := hA0
  rw [Try.params7] at hA hval hsz
  obtain ⟨v0, vs0, d0, ds0, p0, q0, hargs, rfl, rfl, h0, r0⟩ := trodAll_cons hA
  obtain ⟨v1, vs1, d1, ds1, p1, q1, rfl, rfl, rfl, h1, r1⟩ := trodAll_cons r0
  obtain ⟨rfl, rfl, rfl⟩ := trodAll_nil r1
  obtain rfl : args = #[v0, v1] := by cases args; simp_all
  obtain ⟨rfl, rfl⟩ := trodVars_none hV
  obtain ⟨a0, rfl, rfl, rfl, w0⟩ := open_int Try.underlying3 (hval 0 3 v0 rfl rfl) h0
  obtain ⟨a1, rfl, rfl, rfl, w1⟩ := open_int Try.underlying3 (hval 1 3 v1 rfl rfl) h1
  refine (codes_any a0 a1 W).mono fun e W' ⟨he, bel⟩ => ?_
  subst he
  exact ⟨_, rfl, _, _, _, [], _, [], hW', trodAll_mk1 (shut_bool Try.underlying4 _), (trodAll_cons_mk (shut_int Try.underlying3 w0) (trodAll_cons_mk (shut_int Try.underlying3 w1) trodAll_mk0)), rfl, bel.frame _, fun h => by cases h⟩
theorem over : Rows.ednsCodesRow.holds Try.pinned (OpenSpec.ofChange Rows.ednsCodesSpec) :=
  OpenClaim.holds_of_wide 7 Try.f7 rfl rfl rfl rfl rfl rfl rfl ⟨rfl, rfl, rfl, rfl, rfl⟩ rfl rfl rfl rfl rfl (by kernel_rfl) Try.func7 (by kernel_rfl)
    (of_decide_eq_true (by kernel_rfl)) (by unfold Func.isWrapper; first | (rw [if_pos (by decide +kernel)]; kernel_rfl) | (rw [if_neg (by decide +kernel)]; exact ⟨rfl, rfl⟩))
    (fun os started H enc _ => lifted os started H enc)
theorem proved : Rows.EdnsCodesSaid := over

end Go.Proofs.Ytnbngkecabacaaa.Codes
namespace Go.Proofs.Ytnbngkecabacaaa
/-- The row, under a short name, for the claim. -/
theorem ednsCodes_holds : Rows.EdnsCodesSaid := Codes.proved
end Go.Proofs.Ytnbngkecabacaaa
