/- The law's file's own answers of package lru stand: live tells true. -/
import Derived.Test.YtiblkhohlfnhnaaLh
namespace Go.Proofs.Ytiblkhohlfnhnaa.Li
open Go.RowKit
open Go.Proofs.Ytiblkhohlfnhnaa.La
open Go.Proofs.Ytiblkhohlfnhnaa.Lb
open Go.Proofs.Ytiblkhohlfnhnaa.Lc
open Go.Proofs.Ytiblkhohlfnhnaa.Ld
open Go.Proofs.Ytiblkhohlfnhnaa.Le
open Go.Proofs.Ytiblkhohlfnhnaa.Lf
open Go.Proofs.Ytiblkhohlfnhnaa.Lg
open Go.Proofs.Ytiblkhohlfnhnaa.Lh
set_option linter.unusedVariables false

set_option maxHeartbeats 4000000 in
theorem live_any (w : World) : Calls Try.prog 7 #[] w fun e w' => e = .returned (.bool true) ∧ Below w.heap.size w w' := by
  have wz : Below w.heap.size w w := Below.refl _ _
  have bA : Below w.heap.size w (w.alloc (.cells #[.int .i64 1, .int .i64 2, .int .i64 3] 3)) := (Below.refl _ _).alloc (Nat.le_refl _) _
  have wz : Below w.heap.size w (w.alloc (.cells #[.int .i64 1, .int .i64 2, .int .i64 3] 3)) := wz.trans (bA.mono wz.size)
  clear bA
  have S0 : Hid (Sv mki (w.alloc (.cells #[.int .i64 1, .int .i64 2, .int .i64 3] 3)) (some ⟨w.heap.size, 0, none⟩) 3 3 [1, 2, 3]) := Lib.hid (by rw [show w.heap.size = w.heap.size by simp]; exact sv_new mki w 3 ([1, 2, 3] : List Int) (by simp))
  go_enter Try.func7, Try.ntmps7
  go_wp2_with fail
  refine (cut_any 2 S0.out).mono ?_
  rintro e w1 ⟨va, vb, rfl, oa, ob, hb⟩
  rw [(by kernel_rfl : cutAt 3 2 = 1)] at oa ob
  clear S0
  have wz := wz.trans (hb.mono wz.size)
  clear hb
  obtain ⟨Aa, ca, rfl, sa⟩ := sv_own (xs := [2, 3]) oa (by omega)
  obtain ⟨Ab, cb, rfl, sb⟩ := sv_own (xs := [1]) ob (by omega)
  have sa := Lib.hid sa
  have sb := Lib.hid sb
  clear oa ob
  have bA : Below w1.heap.size w1 (w1.alloc (.cells #[.string ⟨#[120]⟩, .string ⟨#[121]⟩] 9)) := (Below.refl _ _).alloc (Nat.le_refl _) _
  have sa := Lib.hid (sa.out.below bA)
  have sb := Lib.hid (sb.out.below bA)
  have wz : Below w.heap.size w (w1.alloc (.cells #[.string ⟨#[120]⟩, .string ⟨#[121]⟩] 9)) := wz.trans (bA.mono wz.size)
  clear bA
  have cx : (w1.alloc (.cells #[.string ⟨#[120]⟩, .string ⟨#[121]⟩] 9)).cell? ⟨w1.heap.size, 0, none⟩ = some (.string ⟨#[120]⟩) := by simp
  go_wp2_with fail
  refine (oldest_s (n := 2) (by omega) (by omega) cx).mono ?_
  rintro e w2 ⟨rfl, rfl⟩
  clear cx
  have bA : Below (w1.alloc (.cells #[.string ⟨#[120]⟩, .string ⟨#[121]⟩] 9)).heap.size (w1.alloc (.cells #[.string ⟨#[120]⟩, .string ⟨#[121]⟩] 9)) ((w1.alloc (.cells #[.string ⟨#[120]⟩, .string ⟨#[121]⟩] 9)).alloc (.cells #[] 3)) := (Below.refl _ _).alloc (Nat.le_refl _) _
  have sa := Lib.hid (sa.out.below bA)
  have sb := Lib.hid (sb.out.below bA)
  have wz : Below w.heap.size w ((w1.alloc (.cells #[.string ⟨#[120]⟩, .string ⟨#[121]⟩] 9)).alloc (.cells #[] 3)) := wz.trans (bA.mono wz.size)
  clear bA
  go_wp2_with fail
  refine (oldest_nil_i _ _ _).mono ?_
  rintro e w3 ⟨rfl, rfl⟩
  have bA : Below ((w1.alloc (.cells #[.string ⟨#[120]⟩, .string ⟨#[121]⟩] 9)).alloc (.cells #[] 3)).heap.size ((w1.alloc (.cells #[.string ⟨#[120]⟩, .string ⟨#[121]⟩] 9)).alloc (.cells #[] 3)) (((w1.alloc (.cells #[.string ⟨#[120]⟩, .string ⟨#[121]⟩] 9)).alloc (.cells #[] 3)).alloc (.cells #[.int .i64 1, .int .i64 2, .int .i64 3] 3)) := (Below.refl _ _).alloc (Nat.le_refl _) _
  have sa := Lib.hid (sa.out.below bA)
  have sb := Lib.hid (sb.out.below bA)
  have wz : Below w.heap.size w (((w1.alloc (.cells #[.string ⟨#[120]⟩, .string ⟨#[121]⟩] 9)).alloc (.cells #[] 3)).alloc (.cells #[.int .i64 1, .int .i64 2, .int .i64 3] 3)) := wz.trans (bA.mono wz.size)
  clear bA
  have T3 : Hid (Sv mki (((w1.alloc (.cells #[.string ⟨#[120]⟩, .string ⟨#[121]⟩] 9)).alloc (.cells #[] 3)).alloc (.cells #[.int .i64 1, .int .i64 2, .int .i64 3] 3)) (some ⟨w1.heap.size + 1 + 1, 0, none⟩) 3 3 [1, 2, 3]) := Lib.hid (by rw [show w1.heap.size + 1 + 1 = ((w1.alloc (.cells #[.string ⟨#[120]⟩, .string ⟨#[121]⟩] 9)).alloc (.cells #[] 3)).heap.size by simp]; exact sv_new mki ((w1.alloc (.cells #[.string ⟨#[120]⟩, .string ⟨#[121]⟩] 9)).alloc (.cells #[] 3)) 3 ([1, 2, 3] : List Int) (by simp))
  go_wp2_with fail
  refine (touch_i 1 T3.out (by omega)).mono ?_
  rintro e w4 ⟨v, rfl, own, hb⟩
  rw [(by decide : ([1, 2, 3] : List Int).filter (fun x => !decide (x = 1)) ++ [1] = [2, 3, 1])] at own
  clear T3
  have sa := Lib.hid (sa.out.below hb)
  have sb := Lib.hid (sb.out.below hb)
  have wz := wz.trans (hb.mono wz.size)
  clear hb
  obtain ⟨At, ct, rfl, st⟩ := sv_own (xs := [2, 3, 1]) own (by simp)
  have st := Lib.hid st
  clear own
  have bA : Below w4.heap.size w4 (w4.alloc (.cells #[.int .i64 2, .int .i64 3, .int .i64 1] 3)) := (Below.refl _ _).alloc (Nat.le_refl _) _
  have sa := Lib.hid (sa.out.below bA)
  have sb := Lib.hid (sb.out.below bA)
  have st := Lib.hid (st.out.below bA)
  have wz : Below w.heap.size w (w4.alloc (.cells #[.int .i64 2, .int .i64 3, .int .i64 1] 3)) := wz.trans (bA.mono wz.size)
  clear bA
  have C4 : Hid (Sv mki (w4.alloc (.cells #[.int .i64 2, .int .i64 3, .int .i64 1] 3)) (some ⟨w4.heap.size, 0, none⟩) 3 3 [2, 3, 1]) := Lib.hid (by rw [show w4.heap.size = w4.heap.size by simp]; exact sv_new mki w4 3 ([2, 3, 1] : List Int) (by simp))
  go_wp2_with fail
  refine (same_i st.out C4.out).mono ?_
  rw [(by decide : decide (([2, 3, 1] : List Int) = [2, 3, 1]) = true)]
  rintro e w5 ⟨rfl, hb⟩
  clear C4
  have sa := Lib.hid (sa.out.below hb)
  have sb := Lib.hid (sb.out.below hb)
  have st := Lib.hid (st.out.below hb)
  have wz := wz.trans (hb.mono wz.size)
  clear hb
  clear st
  have bA : Below w5.heap.size w5 (w5.alloc (.cells #[] 3)) := (Below.refl _ _).alloc (Nat.le_refl _) _
  have sa := Lib.hid (sa.out.below bA)
  have sb := Lib.hid (sb.out.below bA)
  have wz : Below w.heap.size w (w5.alloc (.cells #[] 3)) := wz.trans (bA.mono wz.size)
  clear bA
  have T5 : Hid (Sv mki (w5.alloc (.cells #[] 3)) (some ⟨w5.heap.size, 0, none⟩) 0 0 []) := Lib.hid (by rw [show w5.heap.size = w5.heap.size by simp]; exact sv_new mki w5 3 ([] : List Int) (by simp))
  go_wp2_with fail
  refine (touch_i 4 T5.out (by omega)).mono ?_
  rintro e w6 ⟨v, rfl, own, hb⟩
  rw [(by decide : ([] : List Int).filter (fun x => !decide (x = 4)) ++ [4] = [4])] at own
  clear T5
  have sa := Lib.hid (sa.out.below hb)
  have sb := Lib.hid (sb.out.below hb)
  have wz := wz.trans (hb.mono wz.size)
  clear hb
  obtain ⟨At, ct, rfl, st⟩ := sv_own (xs := [4]) own (by simp)
  have st := Lib.hid st
  clear own
  have bA : Below w6.heap.size w6 (w6.alloc (.cells #[.int .i64 4] 3)) := (Below.refl _ _).alloc (Nat.le_refl _) _
  have sa := Lib.hid (sa.out.below bA)
  have sb := Lib.hid (sb.out.below bA)
  have st := Lib.hid (st.out.below bA)
  have wz : Below w.heap.size w (w6.alloc (.cells #[.int .i64 4] 3)) := wz.trans (bA.mono wz.size)
  clear bA
  have C6 : Hid (Sv mki (w6.alloc (.cells #[.int .i64 4] 3)) (some ⟨w6.heap.size, 0, none⟩) 1 1 [4]) := Lib.hid (by rw [show w6.heap.size = w6.heap.size by simp]; exact sv_new mki w6 3 ([4] : List Int) (by simp))
  go_wp2_with fail
  refine (same_i st.out C6.out).mono ?_
  rw [(by decide : decide (([4] : List Int) = [4]) = true)]
  rintro e w7 ⟨rfl, hb⟩
  clear C6
  have sa := Lib.hid (sa.out.below hb)
  have sb := Lib.hid (sb.out.below hb)
  have st := Lib.hid (st.out.below hb)
  have wz := wz.trans (hb.mono wz.size)
  clear hb
  clear st
  have bA : Below w7.heap.size w7 (w7.alloc (.cells #[.int .i64 1, .int .i64 2, .int .i64 1] 3)) := (Below.refl _ _).alloc (Nat.le_refl _) _
  have sa := Lib.hid (sa.out.below bA)
  have sb := Lib.hid (sb.out.below bA)
  have wz : Below w.heap.size w (w7.alloc (.cells #[.int .i64 1, .int .i64 2, .int .i64 1] 3)) := wz.trans (bA.mono wz.size)
  clear bA
  have T7 : Hid (Sv mki (w7.alloc (.cells #[.int .i64 1, .int .i64 2, .int .i64 1] 3)) (some ⟨w7.heap.size, 0, none⟩) 3 3 [1, 2, 1]) := Lib.hid (by rw [show w7.heap.size = w7.heap.size by simp]; exact sv_new mki w7 3 ([1, 2, 1] : List Int) (by simp))
  go_wp2_with fail
  refine (drop_i 1 T7.out).mono ?_
  rintro e w8 ⟨v, rfl, own, hb⟩
  rw [(by decide : ([1, 2, 1] : List Int).filter (fun x => !decide (x = 1)) = [2])] at own
  clear T7
  have sa := Lib.hid (sa.out.below hb)
  have sb := Lib.hid (sb.out.below hb)
  have wz := wz.trans (hb.mono wz.size)
  clear hb
  obtain ⟨At, ct, rfl, st⟩ := sv_own (xs := [2]) own (by simp)
  have st := Lib.hid st
  clear own
  have bA : Below w8.heap.size w8 (w8.alloc (.cells #[.int .i64 2] 3)) := (Below.refl _ _).alloc (Nat.le_refl _) _
  have sa := Lib.hid (sa.out.below bA)
  have sb := Lib.hid (sb.out.below bA)
  have st := Lib.hid (st.out.below bA)
  have wz : Below w.heap.size w (w8.alloc (.cells #[.int .i64 2] 3)) := wz.trans (bA.mono wz.size)
  clear bA
  have C8 : Hid (Sv mki (w8.alloc (.cells #[.int .i64 2] 3)) (some ⟨w8.heap.size, 0, none⟩) 1 1 [2]) := Lib.hid (by rw [show w8.heap.size = w8.heap.size by simp]; exact sv_new mki w8 3 ([2] : List Int) (by simp))
  go_wp2_with fail
  refine (same_i st.out C8.out).mono ?_
  rw [(by decide : decide (([2] : List Int) = [2]) = true)]
  rintro e w9 ⟨rfl, hb⟩
  clear C8
  have sa := Lib.hid (sa.out.below hb)
  have sb := Lib.hid (sb.out.below hb)
  have st := Lib.hid (st.out.below hb)
  have wz := wz.trans (hb.mono wz.size)
  clear hb
  clear st
  have bA : Below w9.heap.size w9 (w9.alloc (.cells #[.int .i64 2, .int .i64 3] 3)) := (Below.refl _ _).alloc (Nat.le_refl _) _
  have sa := Lib.hid (sa.out.below bA)
  have sb := Lib.hid (sb.out.below bA)
  have wz : Below w.heap.size w (w9.alloc (.cells #[.int .i64 2, .int .i64 3] 3)) := wz.trans (bA.mono wz.size)
  clear bA
  have C9 : Hid (Sv mki (w9.alloc (.cells #[.int .i64 2, .int .i64 3] 3)) (some ⟨w9.heap.size, 0, none⟩) 2 2 [2, 3]) := Lib.hid (by rw [show w9.heap.size = w9.heap.size by simp]; exact sv_new mki w9 3 ([2, 3] : List Int) (by simp))
  go_wp2_with fail
  refine (same_i sa.out C9.out).mono ?_
  rw [(by decide : decide (([2, 3] : List Int) = [2, 3]) = true)]
  rintro e w10 ⟨rfl, hb⟩
  clear C9
  have sa := Lib.hid (sa.out.below hb)
  have sb := Lib.hid (sb.out.below hb)
  have wz := wz.trans (hb.mono wz.size)
  clear hb
  have bA : Below w10.heap.size w10 (w10.alloc (.cells #[.int .i64 1] 3)) := (Below.refl _ _).alloc (Nat.le_refl _) _
  have sa := Lib.hid (sa.out.below bA)
  have sb := Lib.hid (sb.out.below bA)
  have wz : Below w.heap.size w (w10.alloc (.cells #[.int .i64 1] 3)) := wz.trans (bA.mono wz.size)
  clear bA
  have C10 : Hid (Sv mki (w10.alloc (.cells #[.int .i64 1] 3)) (some ⟨w10.heap.size, 0, none⟩) 1 1 [1]) := Lib.hid (by rw [show w10.heap.size = w10.heap.size by simp]; exact sv_new mki w10 3 ([1] : List Int) (by simp))
  go_wp2_with fail
  refine (same_i sb.out C10.out).mono ?_
  rw [(by decide : decide (([1] : List Int) = [1]) = true)]
  rintro e w11 ⟨rfl, hb⟩
  clear C10
  have sa := Lib.hid (sa.out.below hb)
  have sb := Lib.hid (sb.out.below hb)
  have wz := wz.trans (hb.mono wz.size)
  clear hb
  clear sa sb
  have bA : Below w11.heap.size w11 (w11.alloc (.cells #[.int .i64 1, .int .i64 2] 3)) := (Below.refl _ _).alloc (Nat.le_refl _) _
  have wz : Below w.heap.size w (w11.alloc (.cells #[.int .i64 1, .int .i64 2] 3)) := wz.trans (bA.mono wz.size)
  clear bA
  have K11 : Hid (Sv mki (w11.alloc (.cells #[.int .i64 1, .int .i64 2] 3)) (some ⟨w11.heap.size, 0, none⟩) 2 2 [1, 2]) := Lib.hid (by rw [show w11.heap.size = w11.heap.size by simp]; exact sv_new mki w11 3 ([1, 2] : List Int) (by simp))
  go_wp2_with fail
  refine (check_i K11.out).mono ?_
  rw [(by decide : decide (([1, 2] : List Int).Nodup) = true)]
  rintro e w12 ⟨rfl, rfl⟩
  clear K11
  have bA : Below (w11.alloc (.cells #[.int .i64 1, .int .i64 2] 3)).heap.size (w11.alloc (.cells #[.int .i64 1, .int .i64 2] 3)) ((w11.alloc (.cells #[.int .i64 1, .int .i64 2] 3)).alloc (.cells #[.int .i64 1, .int .i64 2, .int .i64 1] 3)) := (Below.refl _ _).alloc (Nat.le_refl _) _
  have wz : Below w.heap.size w ((w11.alloc (.cells #[.int .i64 1, .int .i64 2] 3)).alloc (.cells #[.int .i64 1, .int .i64 2, .int .i64 1] 3)) := wz.trans (bA.mono wz.size)
  clear bA
  have K12 : Hid (Sv mki ((w11.alloc (.cells #[.int .i64 1, .int .i64 2] 3)).alloc (.cells #[.int .i64 1, .int .i64 2, .int .i64 1] 3)) (some ⟨w11.heap.size + 1, 0, none⟩) 3 3 [1, 2, 1]) := Lib.hid (by rw [show w11.heap.size + 1 = (w11.alloc (.cells #[.int .i64 1, .int .i64 2] 3)).heap.size by simp]; exact sv_new mki (w11.alloc (.cells #[.int .i64 1, .int .i64 2] 3)) 3 ([1, 2, 1] : List Int) (by simp))
  go_wp2_with fail
  refine (check_i K12.out).mono ?_
  rw [(by decide : decide (([1, 2, 1] : List Int).Nodup) = false)]
  rintro e w13 ⟨rfl, rfl⟩
  clear K12
  go_wp2_with fail
  go_ret
  exact ⟨rfl, wz⟩

end Go.Proofs.Ytiblkhohlfnhnaa.Li
