/- The law LruTells' function tells true. -/
import Derived.Test.YtiblkhohlfnhnaaLj
namespace Go.Proofs.Ytiblkhohlfnhnaa.Ll
open Go.RowKit
open Go.Proofs.Ytiblkhohlfnhnaa.La
open Go.Proofs.Ytiblkhohlfnhnaa.Lb
open Go.Proofs.Ytiblkhohlfnhnaa.Lc
open Go.Proofs.Ytiblkhohlfnhnaa.Ld
open Go.Proofs.Ytiblkhohlfnhnaa.Le
open Go.Proofs.Ytiblkhohlfnhnaa.Lf
open Go.Proofs.Ytiblkhohlfnhnaa.Lg
open Go.Proofs.Ytiblkhohlfnhnaa.Lh
open Go.Proofs.Ytiblkhohlfnhnaa.Li
open Go.Proofs.Ytiblkhohlfnhnaa.Lj
set_option linter.unusedVariables false

theorem tells_big1 (A B : Option Addr) (n c m d : Nat) (k : Int) (w : World) (hn : 200 < n) : Calls Try.prog 3 #[.slice A n c, .int .i64 k, .slice B m d] w fun e w' => e = .returned (.bool true) ∧ Below w.heap.size w w' := by
  have d0 : decide (200 < (n : Int)) = true := by simp; omega
  clear hn
  go_enter Try.func3, Try.ntmps3
  go_wp2_with fail
  refine (live_any _).mono ?_
  rintro e w1 ⟨rfl, hb⟩
  go_wp2_with fail
  go_ret
  exact ⟨rfl, hb⟩
theorem tells_big2 (A B : Option Addr) (n c m d : Nat) (k : Int) (w : World) (hn : n ≤ 200) (hm : 200 < m) : Calls Try.prog 3 #[.slice A n c, .int .i64 k, .slice B m d] w fun e w' => e = .returned (.bool true) ∧ Below w.heap.size w w' := by
  have d0 : decide (200 < (n : Int)) = false := by simp; omega
  have d1 : decide (200 < (m : Int)) = true := by simp; omega
  clear hn hm
  go_enter Try.func3, Try.ntmps3
  go_wp2_with fail
  refine (live_any _).mono ?_
  rintro e w1 ⟨rfl, hb⟩
  go_wp2_with fail
  go_ret
  exact ⟨rfl, hb⟩

set_option maxHeartbeats 8000000 in
theorem tells_some (b off n c m d : Nat) (B : Option Addr) (k : Int) (x : Int) (xs : List Int) (ys : List ByteArray) (w : World) (hn : n ≤ 200) (h0 : 0 < n) (hm : m ≤ 200) (sv : Sv mki w (some ⟨b, off, none⟩) n c xs) (sw : Sv mks w B m d ys) (hx : w.cell? ⟨b, off, none⟩ = some (.int .i64 x)) (hlt : b < w.heap.size) :
    Calls Try.prog 3 #[.slice (some ⟨b, off, none⟩) n c, .int .i64 k, .slice B m d] w fun e w' => e = .returned (.bool true) ∧ Below w.heap.size w w' := by
  have d0 : decide (200 < (n : Int)) = false := by simp; omega
  have d1 : decide (0 < (n : Int)) = true := by simp; omega
  have d2 : decide (200 < (m : Int)) = false := by simp; omega
  have S := Lib.hid sv
  have T := Lib.hid sw
  have HL : Hid ((xs.filter (fun x => !decide (x = k))).length ≤ 200) := Lib.hid (by have := List.length_filter_le (fun x => !decide (x = k)) xs; have := sv.1; simp at *; try omega)
  have HM : Hid ((ys.filter (fun x => !decide (x = (⟨#[]⟩ : ByteArray)))).length ≤ 200) := Lib.hid (by have := List.length_filter_le (fun x => !decide (x = (⟨#[]⟩ : ByteArray))) ys; have := sw.1; omega)
  have HC : Hid (cutAt n k ≤ n) := Lib.hid (cutAt_le _ _)
  obtain ⟨q, hq⟩ : ∃ q, cutAt n k = q := ⟨_, rfl⟩
  replace hq := Lib.hid hq
  replace hx := Lib.hid hx
  have HN := Lib.hid sv.1
  have wz : Below w.heap.size w w := Below.refl _ _
  clear sv sw
  go_enter Try.func3, Try.ntmps3
  go_wp2_with fail
  refine (cut_any k S.out).mono ?_
  rintro e w1 ⟨v1, v2, rfl, o1, o2, hb⟩
  rw [hq.out] at o1 o2
  replace S := Lib.hid (S.out.below hb)
  replace T := Lib.hid (T.out.below hb)
  replace wz := wz.trans (hb.mono wz.size)
  clear hb
  obtain ⟨Aa, ca, rfl, sa⟩ := sv_own o1 (by omega)
  obtain ⟨Ab, cb, rfl, sb⟩ := sv_own o2 (by have := HC.out; rw [hq.out] at this; omega)
  replace sa := Lib.hid sa
  replace sb := Lib.hid sb
  clear o1 o2
  go_wp2_with fail
  refine (rcut_any k S.out (by omega)).mono ?_
  rintro e w2 ⟨v1, v2, rfl, o1, o2, hb⟩
  rw [hq.out] at o1 o2
  replace S := Lib.hid (S.out.below hb)
  replace T := Lib.hid (T.out.below hb)
  replace sa := Lib.hid (sa.out.below hb)
  replace sb := Lib.hid (sb.out.below hb)
  replace wz := wz.trans (hb.mono wz.size)
  clear hb
  generalize hl1 : (xs.drop q).length = l1 at o1
  generalize hl2 : (xs.take q).length = l2 at o2
  obtain ⟨Ac, cc, rfl, sc⟩ := sv_own o1 (by rw [← hl1, List.length_drop]; have := HN.out; omega)
  obtain ⟨Ad, cd, rfl, sd⟩ := sv_own o2 (by rw [← hl2, List.length_take]; have := HN.out; omega)
  replace sc := Lib.hid sc
  replace sd := Lib.hid sd
  clear o1 o2 hl1 hl2
  go_wp2_with fail
  have cx := (wz.cell (p := ⟨b, off, none⟩) hlt).trans hx.out
  refine (oldest_i h0 (by omega) cx).mono ?_
  rintro e w3 ⟨rfl, rfl⟩
  have ux : (x == x) = true := by simp
  have uy : (x != x) = false := by simp
  go_wp2_with fail
  refine (touch_i k S.out (by omega)).mono ?_
  rintro e w3 ⟨v, rfl, own, hb⟩
  replace S := Lib.hid (S.out.below hb)
  replace T := Lib.hid (T.out.below hb)
  replace sa := Lib.hid (sa.out.below hb)
  replace sb := Lib.hid (sb.out.below hb)
  replace sc := Lib.hid (sc.out.below hb)
  replace sd := Lib.hid (sd.out.below hb)
  replace wz := wz.trans (hb.mono wz.size)
  clear hb
  generalize hl : (xs.filter (fun x => !decide (x = k)) ++ [k]).length = lt1 at own
  obtain ⟨At1, ct1, rfl, t1⟩ := sv_own own (by rw [← hl]; simp only [List.length_append, List.length_singleton]; have := HL.out; omega)
  replace t1 := Lib.hid t1
  clear own hl
  go_wp2_with fail
  refine (rtouch_i k S.out (by omega)).mono ?_
  rintro e w4 ⟨v, rfl, own, hb⟩
  replace S := Lib.hid (S.out.below hb)
  replace T := Lib.hid (T.out.below hb)
  replace sa := Lib.hid (sa.out.below hb)
  replace sb := Lib.hid (sb.out.below hb)
  replace sc := Lib.hid (sc.out.below hb)
  replace sd := Lib.hid (sd.out.below hb)
  replace t1 := Lib.hid (t1.out.below hb)
  replace wz := wz.trans (hb.mono wz.size)
  clear hb
  generalize hl : (xs.filter (fun x => !decide (x = k)) ++ [k]).length = lt2 at own
  obtain ⟨At2, ct2, rfl, t2⟩ := sv_own own (by rw [← hl]; simp only [List.length_append, List.length_singleton]; have := HL.out; omega)
  replace t2 := Lib.hid t2
  clear own hl
  go_wp2_with fail
  refine (same_i t1.out t2.out).mono ?_
  rw [decide_eq_true rfl]
  rintro e w5 ⟨rfl, hb⟩
  replace S := Lib.hid (S.out.below hb)
  replace T := Lib.hid (T.out.below hb)
  replace sa := Lib.hid (sa.out.below hb)
  replace sb := Lib.hid (sb.out.below hb)
  replace sc := Lib.hid (sc.out.below hb)
  replace sd := Lib.hid (sd.out.below hb)
  replace t1 := Lib.hid (t1.out.below hb)
  replace t2 := Lib.hid (t2.out.below hb)
  replace wz := wz.trans (hb.mono wz.size)
  clear hb
  clear t1
  clear t2
  go_wp2_with fail
  refine (drop_i k S.out).mono ?_
  rintro e w6 ⟨v, rfl, own, hb⟩
  replace S := Lib.hid (S.out.below hb)
  replace T := Lib.hid (T.out.below hb)
  replace sa := Lib.hid (sa.out.below hb)
  replace sb := Lib.hid (sb.out.below hb)
  replace sc := Lib.hid (sc.out.below hb)
  replace sd := Lib.hid (sd.out.below hb)
  replace wz := wz.trans (hb.mono wz.size)
  clear hb
  generalize hl : (xs.filter (fun x => !decide (x = k))).length = lt3 at own
  obtain ⟨At3, ct3, rfl, t3⟩ := sv_own own (by rw [← hl]; have := HL.out; omega)
  replace t3 := Lib.hid t3
  clear own hl
  go_wp2_with fail
  refine (rdrop_i k S.out (by omega)).mono ?_
  rintro e w7 ⟨v, rfl, own, hb⟩
  replace S := Lib.hid (S.out.below hb)
  replace T := Lib.hid (T.out.below hb)
  replace sa := Lib.hid (sa.out.below hb)
  replace sb := Lib.hid (sb.out.below hb)
  replace sc := Lib.hid (sc.out.below hb)
  replace sd := Lib.hid (sd.out.below hb)
  replace t3 := Lib.hid (t3.out.below hb)
  replace wz := wz.trans (hb.mono wz.size)
  clear hb
  generalize hl : (xs.filter (fun x => !decide (x = k))).length = lt4 at own
  obtain ⟨At4, ct4, rfl, t4⟩ := sv_own own (by rw [← hl]; have := HL.out; omega)
  replace t4 := Lib.hid t4
  clear own hl
  go_wp2_with fail
  refine (same_i t3.out t4.out).mono ?_
  rw [decide_eq_true rfl]
  rintro e w8 ⟨rfl, hb⟩
  replace S := Lib.hid (S.out.below hb)
  replace T := Lib.hid (T.out.below hb)
  replace sa := Lib.hid (sa.out.below hb)
  replace sb := Lib.hid (sb.out.below hb)
  replace sc := Lib.hid (sc.out.below hb)
  replace sd := Lib.hid (sd.out.below hb)
  replace t3 := Lib.hid (t3.out.below hb)
  replace t4 := Lib.hid (t4.out.below hb)
  replace wz := wz.trans (hb.mono wz.size)
  clear hb
  clear t3
  clear t4
  go_wp2_with fail
  refine (same_i sa.out sc.out).mono ?_
  rw [decide_eq_true rfl]
  rintro e w9 ⟨rfl, hb⟩
  replace S := Lib.hid (S.out.below hb)
  replace T := Lib.hid (T.out.below hb)
  replace sa := Lib.hid (sa.out.below hb)
  replace sb := Lib.hid (sb.out.below hb)
  replace sc := Lib.hid (sc.out.below hb)
  replace sd := Lib.hid (sd.out.below hb)
  replace wz := wz.trans (hb.mono wz.size)
  clear hb
  clear sa
  clear sc
  go_wp2_with fail
  refine (same_i sb.out sd.out).mono ?_
  rw [decide_eq_true rfl]
  rintro e w10 ⟨rfl, hb⟩
  replace S := Lib.hid (S.out.below hb)
  replace T := Lib.hid (T.out.below hb)
  replace sb := Lib.hid (sb.out.below hb)
  replace sd := Lib.hid (sd.out.below hb)
  replace wz := wz.trans (hb.mono wz.size)
  clear hb
  clear sb
  clear sd
  have CK := check_i S.out
  obtain ⟨dd, hd⟩ : ∃ dd, decide (xs).Nodup = dd := ⟨_, rfl⟩
  rw [hd] at CK
  replace hd := Lib.hid hd
  have ub : (dd == dd) = true := by simp
  go_wp2_with fail
  refine CK.mono ?_
  rintro e w11 ⟨rfl, rfl⟩
  clear CK
  go_wp2_with fail
  refine (rcheck_i S.out).mono ?_
  rw [hd.out]
  rintro e w11 ⟨rfl, hb⟩
  replace S := Lib.hid (S.out.below hb)
  replace T := Lib.hid (T.out.below hb)
  replace wz := wz.trans (hb.mono wz.size)
  clear hb
  clear hd
  have CK := check_s T.out
  obtain ⟨dd, hd⟩ : ∃ dd, decide (ys).Nodup = dd := ⟨_, rfl⟩
  rw [hd] at CK
  replace hd := Lib.hid hd
  have ub : (dd == dd) = true := by simp
  go_wp2_with fail
  refine CK.mono ?_
  rintro e w12 ⟨rfl, rfl⟩
  clear CK
  go_wp2_with fail
  refine (rcheck_s T.out).mono ?_
  rw [hd.out]
  rintro e w12 ⟨rfl, hb⟩
  replace S := Lib.hid (S.out.below hb)
  replace T := Lib.hid (T.out.below hb)
  replace wz := wz.trans (hb.mono wz.size)
  clear hb
  clear hd
  clear S
  go_wp2_with fail
  refine (touch_s ⟨#[]⟩ T.out (by omega)).mono ?_
  rintro e w13 ⟨v, rfl, own, hb⟩
  replace T := Lib.hid (T.out.below hb)
  replace wz := wz.trans (hb.mono wz.size)
  clear hb
  generalize hl : (ys.filter (fun x => !decide (x = (⟨#[]⟩ : ByteArray))) ++ [(⟨#[]⟩ : ByteArray)]).length = lt5 at own
  obtain ⟨At5, ct5, rfl, t5⟩ := sv_own own (by rw [← hl]; simp only [List.length_append, List.length_singleton]; have := HM.out; omega)
  replace t5 := Lib.hid t5
  clear own hl
  go_wp2_with fail
  refine (rtouch_s ⟨#[]⟩ T.out (by omega)).mono ?_
  rintro e w14 ⟨v, rfl, own, hb⟩
  replace T := Lib.hid (T.out.below hb)
  replace t5 := Lib.hid (t5.out.below hb)
  replace wz := wz.trans (hb.mono wz.size)
  clear hb
  generalize hl : (ys.filter (fun x => !decide (x = (⟨#[]⟩ : ByteArray))) ++ [(⟨#[]⟩ : ByteArray)]).length = lt6 at own
  obtain ⟨At6, ct6, rfl, t6⟩ := sv_own own (by rw [← hl]; simp only [List.length_append, List.length_singleton]; have := HM.out; omega)
  replace t6 := Lib.hid t6
  clear own hl
  go_wp2_with fail
  refine (same_s t5.out t6.out).mono ?_
  rw [decide_eq_true rfl]
  rintro e w15 ⟨rfl, hb⟩
  replace T := Lib.hid (T.out.below hb)
  replace t5 := Lib.hid (t5.out.below hb)
  replace t6 := Lib.hid (t6.out.below hb)
  replace wz := wz.trans (hb.mono wz.size)
  clear hb
  clear t5
  clear t6
  go_wp2_with fail
  refine (live_any _).mono ?_
  rintro e w16 ⟨rfl, hb⟩
  go_wp2_with fail
  go_ret
  exact ⟨rfl, wz.trans (hb.mono wz.size)⟩

set_option maxHeartbeats 8000000 in
theorem tells_none (A : Option Addr) (c m d : Nat) (B : Option Addr) (k : Int) (ys : List ByteArray) (w : World) (hm : m ≤ 200) (sv : Sv mki w A 0 c []) (sw : Sv mks w B m d ys) :
    Calls Try.prog 3 #[.slice A 0 c, .int .i64 k, .slice B m d] w fun e w' => e = .returned (.bool true) ∧ Below w.heap.size w w' := by
  have d2 : decide (200 < (m : Int)) = false := by simp; omega
  have S := Lib.hid sv
  have T := Lib.hid sw
  have HL : Hid ((([] : List Int).filter (fun x => !decide (x = k))).length ≤ 200) := Lib.hid (by have := List.length_filter_le (fun x => !decide (x = k)) ([] : List Int); have := sv.1; simp at *; try omega)
  have HM : Hid ((ys.filter (fun x => !decide (x = (⟨#[]⟩ : ByteArray)))).length ≤ 200) := Lib.hid (by have := List.length_filter_le (fun x => !decide (x = (⟨#[]⟩ : ByteArray))) ys; have := sw.1; omega)
  have HC : Hid (cutAt 0 k ≤ 0) := Lib.hid (cutAt_le _ _)
  obtain ⟨q, hq⟩ : ∃ q, cutAt 0 k = q := ⟨_, rfl⟩
  replace hq := Lib.hid hq
  have HN := Lib.hid sv.1
  have wz : Below w.heap.size w w := Below.refl _ _
  clear sv sw
  go_enter Try.func3, Try.ntmps3
  go_wp2_with fail
  refine (cut_any k S.out).mono ?_
  rintro e w1 ⟨v1, v2, rfl, o1, o2, hb⟩
  rw [hq.out] at o1 o2
  replace S := Lib.hid (S.out.below hb)
  replace T := Lib.hid (T.out.below hb)
  replace wz := wz.trans (hb.mono wz.size)
  clear hb
  generalize hr0 : 0 - q = r0 at o1
  obtain ⟨Aa, ca, rfl, sa⟩ := sv_own o1 (by omega)
  obtain ⟨Ab, cb, rfl, sb⟩ := sv_own o2 (by have := HC.out; rw [hq.out] at this; omega)
  replace sa := Lib.hid sa
  replace sb := Lib.hid sb
  clear o1 o2 hr0
  go_wp2_with fail
  refine (rcut_any k S.out (by omega)).mono ?_
  rintro e w2 ⟨v1, v2, rfl, o1, o2, hb⟩
  rw [hq.out] at o1 o2
  replace S := Lib.hid (S.out.below hb)
  replace T := Lib.hid (T.out.below hb)
  replace sa := Lib.hid (sa.out.below hb)
  replace sb := Lib.hid (sb.out.below hb)
  replace wz := wz.trans (hb.mono wz.size)
  clear hb
  generalize hl1 : (([] : List Int).drop q).length = l1 at o1
  generalize hl2 : (([] : List Int).take q).length = l2 at o2
  obtain ⟨Ac, cc, rfl, sc⟩ := sv_own o1 (by rw [← hl1]; simp)
  obtain ⟨Ad, cd, rfl, sd⟩ := sv_own o2 (by rw [← hl2]; simp)
  replace sc := Lib.hid sc
  replace sd := Lib.hid sd
  clear o1 o2 hl1 hl2
  go_wp2_with fail
  refine (oldest_nil_i _ _ _).mono ?_
  rintro e w3 ⟨rfl, rfl⟩
  go_wp2_with fail
  refine (touch_i k S.out (by omega)).mono ?_
  rintro e w3 ⟨v, rfl, own, hb⟩
  replace S := Lib.hid (S.out.below hb)
  replace T := Lib.hid (T.out.below hb)
  replace sa := Lib.hid (sa.out.below hb)
  replace sb := Lib.hid (sb.out.below hb)
  replace sc := Lib.hid (sc.out.below hb)
  replace sd := Lib.hid (sd.out.below hb)
  replace wz := wz.trans (hb.mono wz.size)
  clear hb
  generalize hl : (([] : List Int).filter (fun x => !decide (x = k)) ++ [k]).length = lt1 at own
  obtain ⟨At1, ct1, rfl, t1⟩ := sv_own own (by rw [← hl]; simp only [List.length_append, List.length_singleton]; have := HL.out; omega)
  replace t1 := Lib.hid t1
  clear own hl
  go_wp2_with fail
  refine (rtouch_i k S.out (by omega)).mono ?_
  rintro e w4 ⟨v, rfl, own, hb⟩
  replace S := Lib.hid (S.out.below hb)
  replace T := Lib.hid (T.out.below hb)
  replace sa := Lib.hid (sa.out.below hb)
  replace sb := Lib.hid (sb.out.below hb)
  replace sc := Lib.hid (sc.out.below hb)
  replace sd := Lib.hid (sd.out.below hb)
  replace t1 := Lib.hid (t1.out.below hb)
  replace wz := wz.trans (hb.mono wz.size)
  clear hb
  generalize hl : (([] : List Int).filter (fun x => !decide (x = k)) ++ [k]).length = lt2 at own
  obtain ⟨At2, ct2, rfl, t2⟩ := sv_own own (by rw [← hl]; simp only [List.length_append, List.length_singleton]; have := HL.out; omega)
  replace t2 := Lib.hid t2
  clear own hl
  go_wp2_with fail
  refine (same_i t1.out t2.out).mono ?_
  rw [decide_eq_true rfl]
  rintro e w5 ⟨rfl, hb⟩
  replace S := Lib.hid (S.out.below hb)
  replace T := Lib.hid (T.out.below hb)
  replace sa := Lib.hid (sa.out.below hb)
  replace sb := Lib.hid (sb.out.below hb)
  replace sc := Lib.hid (sc.out.below hb)
  replace sd := Lib.hid (sd.out.below hb)
  replace t1 := Lib.hid (t1.out.below hb)
  replace t2 := Lib.hid (t2.out.below hb)
  replace wz := wz.trans (hb.mono wz.size)
  clear hb
  clear t1
  clear t2
  go_wp2_with fail
  refine (drop_i k S.out).mono ?_
  rintro e w6 ⟨v, rfl, own, hb⟩
  replace S := Lib.hid (S.out.below hb)
  replace T := Lib.hid (T.out.below hb)
  replace sa := Lib.hid (sa.out.below hb)
  replace sb := Lib.hid (sb.out.below hb)
  replace sc := Lib.hid (sc.out.below hb)
  replace sd := Lib.hid (sd.out.below hb)
  replace wz := wz.trans (hb.mono wz.size)
  clear hb
  generalize hl : (([] : List Int).filter (fun x => !decide (x = k))).length = lt3 at own
  obtain ⟨At3, ct3, rfl, t3⟩ := sv_own own (by rw [← hl]; have := HL.out; omega)
  replace t3 := Lib.hid t3
  clear own hl
  go_wp2_with fail
  refine (rdrop_i k S.out (by omega)).mono ?_
  rintro e w7 ⟨v, rfl, own, hb⟩
  replace S := Lib.hid (S.out.below hb)
  replace T := Lib.hid (T.out.below hb)
  replace sa := Lib.hid (sa.out.below hb)
  replace sb := Lib.hid (sb.out.below hb)
  replace sc := Lib.hid (sc.out.below hb)
  replace sd := Lib.hid (sd.out.below hb)
  replace t3 := Lib.hid (t3.out.below hb)
  replace wz := wz.trans (hb.mono wz.size)
  clear hb
  generalize hl : (([] : List Int).filter (fun x => !decide (x = k))).length = lt4 at own
  obtain ⟨At4, ct4, rfl, t4⟩ := sv_own own (by rw [← hl]; have := HL.out; omega)
  replace t4 := Lib.hid t4
  clear own hl
  go_wp2_with fail
  refine (same_i t3.out t4.out).mono ?_
  rw [decide_eq_true rfl]
  rintro e w8 ⟨rfl, hb⟩
  replace S := Lib.hid (S.out.below hb)
  replace T := Lib.hid (T.out.below hb)
  replace sa := Lib.hid (sa.out.below hb)
  replace sb := Lib.hid (sb.out.below hb)
  replace sc := Lib.hid (sc.out.below hb)
  replace sd := Lib.hid (sd.out.below hb)
  replace t3 := Lib.hid (t3.out.below hb)
  replace t4 := Lib.hid (t4.out.below hb)
  replace wz := wz.trans (hb.mono wz.size)
  clear hb
  clear t3
  clear t4
  go_wp2_with fail
  refine (same_i sa.out sc.out).mono ?_
  rw [decide_eq_true rfl]
  rintro e w9 ⟨rfl, hb⟩
  replace S := Lib.hid (S.out.below hb)
  replace T := Lib.hid (T.out.below hb)
  replace sa := Lib.hid (sa.out.below hb)
  replace sb := Lib.hid (sb.out.below hb)
  replace sc := Lib.hid (sc.out.below hb)
  replace sd := Lib.hid (sd.out.below hb)
  replace wz := wz.trans (hb.mono wz.size)
  clear hb
  clear sa
  clear sc
  go_wp2_with fail
  refine (same_i sb.out sd.out).mono ?_
  rw [decide_eq_true rfl]
  rintro e w10 ⟨rfl, hb⟩
  replace S := Lib.hid (S.out.below hb)
  replace T := Lib.hid (T.out.below hb)
  replace sb := Lib.hid (sb.out.below hb)
  replace sd := Lib.hid (sd.out.below hb)
  replace wz := wz.trans (hb.mono wz.size)
  clear hb
  clear sb
  clear sd
  have CK := check_i S.out
  obtain ⟨dd, hd⟩ : ∃ dd, decide (([] : List Int)).Nodup = dd := ⟨_, rfl⟩
  rw [hd] at CK
  replace hd := Lib.hid hd
  have ub : (dd == dd) = true := by simp
  go_wp2_with fail
  refine CK.mono ?_
  rintro e w11 ⟨rfl, rfl⟩
  clear CK
  go_wp2_with fail
  refine (rcheck_i S.out).mono ?_
  rw [hd.out]
  rintro e w11 ⟨rfl, hb⟩
  replace S := Lib.hid (S.out.below hb)
  replace T := Lib.hid (T.out.below hb)
  replace wz := wz.trans (hb.mono wz.size)
  clear hb
  clear hd
  have CK := check_s T.out
  obtain ⟨dd, hd⟩ : ∃ dd, decide (ys).Nodup = dd := ⟨_, rfl⟩
  rw [hd] at CK
  replace hd := Lib.hid hd
  have ub : (dd == dd) = true := by simp
  go_wp2_with fail
  refine CK.mono ?_
  rintro e w12 ⟨rfl, rfl⟩
  clear CK
  go_wp2_with fail
  refine (rcheck_s T.out).mono ?_
  rw [hd.out]
  rintro e w12 ⟨rfl, hb⟩
  replace S := Lib.hid (S.out.below hb)
  replace T := Lib.hid (T.out.below hb)
  replace wz := wz.trans (hb.mono wz.size)
  clear hb
  clear hd
  clear S
  go_wp2_with fail
  refine (touch_s ⟨#[]⟩ T.out (by omega)).mono ?_
  rintro e w13 ⟨v, rfl, own, hb⟩
  replace T := Lib.hid (T.out.below hb)
  replace wz := wz.trans (hb.mono wz.size)
  clear hb
  generalize hl : (ys.filter (fun x => !decide (x = (⟨#[]⟩ : ByteArray))) ++ [(⟨#[]⟩ : ByteArray)]).length = lt5 at own
  obtain ⟨At5, ct5, rfl, t5⟩ := sv_own own (by rw [← hl]; simp only [List.length_append, List.length_singleton]; have := HM.out; omega)
  replace t5 := Lib.hid t5
  clear own hl
  go_wp2_with fail
  refine (rtouch_s ⟨#[]⟩ T.out (by omega)).mono ?_
  rintro e w14 ⟨v, rfl, own, hb⟩
  replace T := Lib.hid (T.out.below hb)
  replace t5 := Lib.hid (t5.out.below hb)
  replace wz := wz.trans (hb.mono wz.size)
  clear hb
  generalize hl : (ys.filter (fun x => !decide (x = (⟨#[]⟩ : ByteArray))) ++ [(⟨#[]⟩ : ByteArray)]).length = lt6 at own
  obtain ⟨At6, ct6, rfl, t6⟩ := sv_own own (by rw [← hl]; simp only [List.length_append, List.length_singleton]; have := HM.out; omega)
  replace t6 := Lib.hid t6
  clear own hl
  go_wp2_with fail
  refine (same_s t5.out t6.out).mono ?_
  rw [decide_eq_true rfl]
  rintro e w15 ⟨rfl, hb⟩
  replace T := Lib.hid (T.out.below hb)
  replace t5 := Lib.hid (t5.out.below hb)
  replace t6 := Lib.hid (t6.out.below hb)
  replace wz := wz.trans (hb.mono wz.size)
  clear hb
  clear t5
  clear t6
  go_wp2_with fail
  refine (live_any _).mono ?_
  rintro e w16 ⟨rfl, hb⟩
  go_wp2_with fail
  go_ret
  exact ⟨rfl, wz.trans (hb.mono wz.size)⟩

end Go.Proofs.Ytiblkhohlfnhnaa.Ll
