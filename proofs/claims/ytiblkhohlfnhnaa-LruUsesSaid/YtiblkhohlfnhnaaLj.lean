/- The law LruCuts' function tells true. -/
import Derived.Test.YtiblkhohlfnhnaaLi
namespace Go.Proofs.Ytiblkhohlfnhnaa.Lj
open Go.RowKit
open Go.Proofs.Ytiblkhohlfnhnaa.La
open Go.Proofs.Ytiblkhohlfnhnaa.Lb
open Go.Proofs.Ytiblkhohlfnhnaa.Lc
open Go.Proofs.Ytiblkhohlfnhnaa.Ld
open Go.Proofs.Ytiblkhohlfnhnaa.Le
open Go.Proofs.Ytiblkhohlfnhnaa.Lf
open Go.Proofs.Ytiblkhohlfnhnaa.Lg
open Go.Proofs.Ytiblkhohlfnhnaa.Lh
open Go.Proofs.Ytiblkhohlfnhnaa.Li
set_option linter.unusedVariables false

theorem cutAt_two (n : Nat) (a b : Int) : cutAt n a + cutAt (n - cutAt n a) b = cutAt n (if a ≤ b then a else b) := by
  unfold cutAt
  (repeat' split) <;> omega
theorem own_all {w : World} {B n k : Nat} {v : Value} {xs : List Int} (h : w.ownsRow B 3 1 v (0 + k + (n - k)) (([] ++ xs.take k ++ xs.drop k).map mki)) (hk : k ≤ n) : w.ownsRow B 3 1 v n (xs.map mki) := by
  rw [List.nil_append, List.take_append_drop, show 0 + k + (n - k) = n by omega] at h
  exact h
theorem cuts_big (A : Option Addr) (n c : Nat) (a b : Int) (w : World) (hn : 200 < n) : Calls Try.prog 5 #[.slice A n c, .int .i64 a, .int .i64 b] w fun e w' => e = .returned (.bool true) ∧ Below w.heap.size w w' := by
  have d0 : decide (200 < (n : Int)) = true := by simp; omega
  clear hn
  go_enter Try.func5, Try.ntmps5
  go_wp2_with fail
  refine (live_any _).mono ?_
  rintro e w1 ⟨rfl, hb⟩
  go_wp2_with fail
  go_ret
  exact ⟨rfl, hb⟩

set_option maxHeartbeats 2000000 in
theorem cuts_le (A : Option Addr) (n c : Nat) (a b : Int) (xs : List Int) (w : World) (hn : n ≤ 200) (sv : Sv mki w A n c xs) (hab : a ≤ b) :
    Calls Try.prog 5 #[.slice A n c, .int .i64 a, .int .i64 b] w fun e w' => e = .returned (.bool true) ∧ Below w.heap.size w w' := by
  have d0 : decide (200 < (n : Int)) = false := by simp; omega
  have S := Lib.hid sv
  have HE := Lib.hid (cutAt_two n a b)
  have HL := Lib.hid (cutAt_le n a)
  have HN := Lib.hid sv.1
  clear sv
  go_enter Try.func5, Try.ntmps5
  go_wp2_with fail
  refine (cut_any a S.out).mono ?_
  rintro e w1 ⟨v1, v2, rfl, o1, o2, hb⟩
  have S := Lib.hid (S.out.below hb)
  have wz := hb
  clear hb
  obtain ⟨A1, c1, rfl, s1⟩ := sv_own o1 (by omega)
  obtain ⟨A2, c2, rfl, s2⟩ := sv_own o2 (by have := HL.out; omega)
  have s1 := Lib.hid s1
  have s2 := Lib.hid s2
  clear o1 o2
  go_wp2_with (first
    | (at_builtin
       refine wp_app_i _ rfl (.tmp 24) (.tmp 25) rfl w1.heap.size (.slice none 0 0) 0 [] rfl ⟨by simp, .inl ⟨rfl, rfl⟩⟩ A2 (cutAt n a) c2 (xs.take (cutAt n a)) rfl s2.out (by have := HL.out; omega) (Nat.le_refl _) ?_
       intro va w2 own1 g1 at1
       have hb2 : Below w1.heap.size w1 w2 := (Below.refl _ _).grown g1 (Nat.le_refl _) (by simp [Value.ownBlock])
       have own1 := Lib.hid own1
       have t1 := Lib.hid (s1.out.below hb2)
       clear g1 at1)
    | (at_builtin
       refine wp_app_i _ rfl (.tmp 27) (.tmp 28) rfl w1.heap.size va (0 + cutAt n a) ([] ++ xs.take (cutAt n a)) rfl own1.out A1 (n - cutAt n a) c1 (xs.drop (cutAt n a)) rfl t1.out (by have := HL.out; omega) hb2.size ?_
       intro vb w3 own2 g2 at2
       have hb3 : Below w1.heap.size w1 w3 := hb2.grown g2 hb2.size (own_base own1.out)
       have own2 := Lib.hid own2
       have S3 := Lib.hid (S.out.below hb3)
       have u1 := Lib.hid (s1.out.below hb3)
       have wz3 := wz.trans (hb3.mono wz.size)
       obtain ⟨A3, c3, rfl, s3⟩ := sv_own (xs := xs) (n := n) (own_all own2.out HL.out) (by omega)
       have s3 := Lib.hid s3
       clear own1 own2 g2 at2 t1 hb2 hb3))
  refine (same_i s3.out S3.out).mono ?_
  rw [decide_eq_true rfl]
  rintro e w4 ⟨rfl, hb⟩
  have S4 := Lib.hid (S3.out.below hb)
  have u4 := Lib.hid (u1.out.below hb)
  have wz4 := wz3.trans (hb.mono wz3.size)
  clear hb
  go_wp2_with fail
  refine (cut_any b u4.out).mono ?_
  rintro e w5 ⟨x1, x2, rfl, p1, p2, hb⟩
  have S5 := Lib.hid (S4.out.below hb)
  have wz5 := wz4.trans (hb.mono wz4.size)
  clear hb
  obtain ⟨A5, c5, rfl, y1⟩ := sv_own p1 (by omega)
  have y1 := Lib.hid y1
  clear p1 p2
  go_wp2_with fail
  refine (cut_any a S5.out).mono ?_
  rintro e w6 ⟨x3, x4, rfl, p1, p2, hb⟩
  have y6 := Lib.hid (y1.out.below hb)
  have wz6 := wz5.trans (hb.mono wz5.size)
  clear hb
  obtain ⟨A6, c6, rfl, z1⟩ := sv_own p1 (by omega)
  have z1 := Lib.hid z1
  clear p1 p2
  go_wp2_with fail
  refine (same_i y6.out z1.out).mono ?_
  rw [decide_eq_true (by rw [List.drop_drop]; congr 1; have := HE.out; rw [if_pos hab] at this; exact this)]
  rintro e w7 ⟨rfl, hb⟩
  have wz7 := wz6.trans (hb.mono wz6.size)
  clear hb
  go_wp2_with fail
  refine (live_any _).mono ?_
  rintro e w8 ⟨rfl, hb⟩
  go_wp2_with fail
  go_ret
  exact ⟨rfl, wz7.trans (hb.mono wz7.size)⟩

set_option maxHeartbeats 2000000 in
theorem cuts_gt (A : Option Addr) (n c : Nat) (a b : Int) (xs : List Int) (w : World) (hn : n ≤ 200) (sv : Sv mki w A n c xs) (hab : ¬ a ≤ b) :
    Calls Try.prog 5 #[.slice A n c, .int .i64 a, .int .i64 b] w fun e w' => e = .returned (.bool true) ∧ Below w.heap.size w w' := by
  have d0 : decide (200 < (n : Int)) = false := by simp; omega
  have S := Lib.hid sv
  have HE := Lib.hid (cutAt_two n a b)
  have HL := Lib.hid (cutAt_le n a)
  have HN := Lib.hid sv.1
  clear sv
  go_enter Try.func5, Try.ntmps5
  go_wp2_with fail
  refine (cut_any a S.out).mono ?_
  rintro e w1 ⟨v1, v2, rfl, o1, o2, hb⟩
  have S := Lib.hid (S.out.below hb)
  have wz := hb
  clear hb
  obtain ⟨A1, c1, rfl, s1⟩ := sv_own o1 (by omega)
  obtain ⟨A2, c2, rfl, s2⟩ := sv_own o2 (by have := HL.out; omega)
  have s1 := Lib.hid s1
  have s2 := Lib.hid s2
  clear o1 o2
  go_wp2_with (first
    | (at_builtin
       refine wp_app_i _ rfl (.tmp 24) (.tmp 25) rfl w1.heap.size (.slice none 0 0) 0 [] rfl ⟨by simp, .inl ⟨rfl, rfl⟩⟩ A2 (cutAt n a) c2 (xs.take (cutAt n a)) rfl s2.out (by have := HL.out; omega) (Nat.le_refl _) ?_
       intro va w2 own1 g1 at1
       have hb2 : Below w1.heap.size w1 w2 := (Below.refl _ _).grown g1 (Nat.le_refl _) (by simp [Value.ownBlock])
       have own1 := Lib.hid own1
       have t1 := Lib.hid (s1.out.below hb2)
       clear g1 at1)
    | (at_builtin
       refine wp_app_i _ rfl (.tmp 27) (.tmp 28) rfl w1.heap.size va (0 + cutAt n a) ([] ++ xs.take (cutAt n a)) rfl own1.out A1 (n - cutAt n a) c1 (xs.drop (cutAt n a)) rfl t1.out (by have := HL.out; omega) hb2.size ?_
       intro vb w3 own2 g2 at2
       have hb3 : Below w1.heap.size w1 w3 := hb2.grown g2 hb2.size (own_base own1.out)
       have own2 := Lib.hid own2
       have S3 := Lib.hid (S.out.below hb3)
       have u1 := Lib.hid (s1.out.below hb3)
       have wz3 := wz.trans (hb3.mono wz.size)
       obtain ⟨A3, c3, rfl, s3⟩ := sv_own (xs := xs) (n := n) (own_all own2.out HL.out) (by omega)
       have s3 := Lib.hid s3
       clear own1 own2 g2 at2 t1 hb2 hb3))
  refine (same_i s3.out S3.out).mono ?_
  rw [decide_eq_true rfl]
  rintro e w4 ⟨rfl, hb⟩
  have S4 := Lib.hid (S3.out.below hb)
  have u4 := Lib.hid (u1.out.below hb)
  have wz4 := wz3.trans (hb.mono wz3.size)
  clear hb
  go_wp2_with fail
  refine (cut_any b u4.out).mono ?_
  rintro e w5 ⟨x1, x2, rfl, p1, p2, hb⟩
  have S5 := Lib.hid (S4.out.below hb)
  have wz5 := wz4.trans (hb.mono wz4.size)
  clear hb
  obtain ⟨A5, c5, rfl, y1⟩ := sv_own p1 (by omega)
  have y1 := Lib.hid y1
  clear p1 p2
  go_wp2_with fail
  refine (cut_any b S5.out).mono ?_
  rintro e w6 ⟨x3, x4, rfl, p1, p2, hb⟩
  have y6 := Lib.hid (y1.out.below hb)
  have wz6 := wz5.trans (hb.mono wz5.size)
  clear hb
  obtain ⟨A6, c6, rfl, z1⟩ := sv_own p1 (by omega)
  have z1 := Lib.hid z1
  clear p1 p2
  go_wp2_with fail
  refine (same_i y6.out z1.out).mono ?_
  rw [decide_eq_true (by rw [List.drop_drop]; congr 1; have := HE.out; rw [if_neg (by omega)] at this; exact this)]
  rintro e w7 ⟨rfl, hb⟩
  have wz7 := wz6.trans (hb.mono wz6.size)
  clear hb
  go_wp2_with fail
  refine (live_any _).mono ?_
  rintro e w8 ⟨rfl, hb⟩
  go_wp2_with fail
  go_ret
  exact ⟨rfl, wz7.trans (hb.mono wz7.size)⟩

end Go.Proofs.Ytiblkhohlfnhnaa.Lj
