/- The law LruDrops' function tells true. -/
import Derived.Test.YtiblkhohlfnhnaaLj
import Derived.BigQuiet
namespace Go.Proofs.Ytiblkhohlfnhnaa.Lk
open Go.RowKit
open Go.Proofs.Ytiblkhohlfnhnaa.La
open Go.Proofs.Ytiblkhohlfnhnaa.Lb
open Go.Proofs.Ytiblkhohlfnhnaa.Lc
open Go.Proofs.Ytiblkhohlfnhnaa.Ld
open Go.Proofs.Ytiblkhohlfnhnaa.Le
open Go.Proofs.Ytiblkhohlfnhnaa.Lf
open Go.Proofs.Ytiblkhohlfnhnaa.Lg
open Go.Proofs.Ytiblkhohlfnhnaa.Lh
open Go.Proofs.Ytiblkhohlfnhnaa.Li
open Go.Proofs.Ytiblkhohlfnhnaa.Lj
set_option linter.unusedVariables false

theorem below_drewN {B : Nat} {a w : World} (h : Below B a w) (n : Nat) : Below B a (w.drewN n) := ⟨h.os, h.tape, h.output, h.size, h.block⟩
theorem kept_at (xs : List ByteArray) (k : ByteArray) (i : Nat) (y : ByteArray) (h : xs[i]? = some y) (hy : decide (y = k) = false) :
    ((xs.take i).filter (fun x => !decide (x = k))).length < (xs.filter (fun x => !decide (x = k))).length ∧ (xs.filter (fun x => !decide (x = k)))[((xs.take i).filter (fun x => !decide (x = k))).length]? = some y := by
  have e : xs = xs.take i ++ (y :: xs.drop (i + 1)) := by
    have hl := (List.getElem?_eq_some_iff.1 h)
    obtain ⟨hl, hv⟩ := hl
    rw [← hv, ← List.drop_eq_getElem_cons hl, List.take_append_drop]
  have e2 : xs.filter (fun x => !decide (x = k)) = (xs.take i).filter (fun x => !decide (x = k)) ++ (y :: (xs.drop (i + 1)).filter (fun x => !decide (x = k))) := by
    conv => lhs; rw [e]
    rw [List.filter_append, List.filter_cons]
    simp [hy]
  rw [e2]
  exact ⟨by simp, by simp⟩
theorem drops_big (A : Option Addr) (n c : Nat) (k : ByteArray) (w : World) (hn : 200 < n) : Calls Try.prog 6 #[.slice A n c, .string k] w fun e w' => e = .returned (.bool true) ∧ Below w.heap.size w w' := by
  have d0 : decide (200 < (n : Int)) = true := by simp; omega
  clear hn
  go_enter Try.func6, Try.ntmps6
  go_wp2_with fail
  refine (live_any _).mono ?_
  rintro e w1 ⟨rfl, hb⟩
  go_wp2_with fail
  go_ret
  exact ⟨rfl, hb⟩
set_option maxHeartbeats 4000000 in
theorem drops_some (A : Option Addr) (n c : Nat) (k : ByteArray) (xs : List ByteArray) (w : World) (hn : n ≤ 200) (sv : Sv mks w A n c xs) :
    Calls Try.prog 6 #[.slice A n c, .string k] w fun e w' => e = .returned (.bool true) ∧ Below w.heap.size w w' := by
  have d0 : decide (200 < (n : Int)) = false := by simp; omega
  have S := Lib.hid sv
  have HN := Lib.hid sv.1
  have hm : Hid ((xs.filter (fun x => !decide (x = k))).length ≤ 200) := Lib.hid (by have := List.length_filter_le (fun x => !decide (x = k)) xs; have := sv.1; omega)
  clear sv
  go_enter Try.func6, Try.ntmps6
  go_wp2_with fail
  refine (drop_s k S.out).mono ?_
  rintro e w1 ⟨v1, rfl, o1, hb⟩
  have S1 := Lib.hid (S.out.below hb)
  have wz := hb
  clear hb
  obtain ⟨A1, c1, rfl, s1⟩ := sv_own o1 (by have := hm.out; omega)
  have s1 := Lib.hid s1
  clear o1
  have HM : Hid ((xs.filter (fun x => !decide (x = k))).length = (xs.filter (fun x => !decide (x = k))).length) := Lib.hid rfl
  have HX : Hid (∀ (j : Nat) y, (xs.filter (fun x => !decide (x = k)))[j]? = some y → ∃ b2 off2, A1 = some ⟨b2, off2, none⟩ ∧ w1.cell? ⟨b2, off2 + j, none⟩ = some (.string y) ∧ b2 < w1.heap.size) := Lib.hid (fun j y hy => by
    rcases s1.out.2.2.2 with h | ⟨b2, off2, rfl, h2, h3⟩
    · have := (List.getElem?_eq_some_iff.1 hy).1; omega
    · exact ⟨b2, off2, rfl, h3 j y hy, h2⟩)
  have hnl := Lib.hid hn
  obtain ⟨m, hmm⟩ : ∃ m, (xs.filter (fun x => !decide (x = k))).length = m := ⟨_, rfl⟩
  rw [hmm] at s1 hm ⊢
  have hmm := Lib.hid hmm
  go_wp2_with fail
  go_loopw [6, 7] (fun s6 t wr => ∃ (i a : Nat), s6 = .int .i64 (a : Int) ∧ i ≤ n ∧ t = .int .i64 (i : Int) ∧ Hid (a = ((xs.take i).filter (fun x => !decide (x = k))).length) ∧ Below w1.heap.size w1 wr) (fun _ t _ => n - (intOf t).toNat)
  case atStart => exact ⟨0, 0, rfl, Nat.zero_le _, rfl, Lib.hid (by simp), Below.refl _ _⟩
  case round =>
    obtain ⟨i, a, rfl, hi, rfl, ha, hbr⟩ := hrel
    by_cases hlk : i < n
    · obtain ⟨x, hx⟩ : ∃ x, xs[i]? = some x := ⟨xs[i]'(by have := HN.out; omega), List.getElem?_eq_getElem _⟩
      obtain ⟨b, off, rfl, hltb, c0⟩ : ∃ b off, A = some ⟨b, off, none⟩ ∧ b < wr.heap.size ∧ wr.cell? ⟨b, off + i, none⟩ = some (.string x) := by
        rcases (S1.out.below hbr).2.2.2 with h | ⟨b, off, rfl, h1, h2⟩
        · omega
        · exact ⟨b, off, rfl, h1, h2 i x hx⟩
      have hx := Lib.hid hx
      by_cases ht : decide (x = k) = true
      · have ha' : Hid (a = ((xs.take (i + 1)).filter (fun x => !decide (x = k))).length) := Lib.hid (by rw [kept_take _ xs i x hx.out]; simp [ht]; simpa using ha.out)
        have q0 : (x.toList == k.toList) = true := by rw [toList_beq]; exact ht
        have q1 : (x.toList != k.toList) = false := by rw [bne, q0]; rfl
        clear ht
        go_wp2_with fail
        go_roundw
        case rel => exact ⟨i + 1, a, rfl, by omega, by go_num, ha', hbr⟩
        case measure => simp [intOf]; omega
      · have hf : decide (x = k) = false := by simpa using ht
        clear ht
        obtain ⟨hl1, hget⟩ := kept_at xs k i x hx.out hf
        rw [← ha.out] at hl1 hget
        rw [hmm.out] at hl1
        obtain ⟨b2, off2, rfl, cx, hlt2⟩ := HX.out a x hget
        have c1' := (hbr.cell (p := ⟨b2, off2 + a, none⟩) hlt2).trans cx
        have ha' : Hid (a + 1 = ((xs.take (i + 1)).filter (fun x => !decide (x = k))).length) := Lib.hid (by rw [kept_take _ xs i x hx.out]; simp [hf]; simpa using ha.out)
        have d1 : decide ((m : Int) ≤ (a : Int)) = false := by simp; omega
        have hm2 := hm.out
        have ham : a + 1 ≤ 200 := by omega
        clear hget cx
        have q0 : (x.toList == k.toList) = false := by rw [toList_beq]; exact hf
        have q1 : (x.toList != k.toList) = true := by rw [bne, q0]; rfl
        clear hf
        go_wp2_with fail
        go_quiet (fail)
        go_wp2_with fail
        go_roundw
        case rel => exact ⟨i + 1, a + 1, by go_num, by omega, by go_num, ha', below_drewN hbr nq⟩
        case measure => simp [intOf]; omega
    · have hie : i = n := by omega
      have ham : a = m := by rw [ha.out, hie, ← hmm.out, List.take_of_length_le (by have := HN.out; omega)]
      subst ham
      have t1 := Lib.hid (s1.out.below hbr)
      have S2 := Lib.hid (S1.out.below hbr)
      have wz2 := wz.trans (hbr.mono wz.size)
      have hff : (xs.filter (fun x => !decide (x = k))).filter (fun x => !decide (x = k)) = xs.filter (fun x => !decide (x = k)) := by rw [List.filter_filter]; simp
      clear ha
      go_wp2_with fail
      refine (drop_s k t1.out).mono ?_
      rintro e w2 ⟨v2, rfl, o2, hb⟩
      rw [hff, hmm.out] at o2
      clear hff
      obtain ⟨A2, c2, rfl, s2⟩ := sv_own o2 (by have := hm.out; omega)
      have s2 := Lib.hid s2
      have t2 := Lib.hid (t1.out.below hb)
      have S3 := Lib.hid (S2.out.below hb)
      have wz3 := wz2.trans (hb.mono wz2.size)
      clear hb o2
      go_wp2_with fail
      refine (same_s s2.out t2.out).mono ?_
      rw [decide_eq_true rfl]
      rintro e w3 ⟨rfl, hb⟩
      have t3 := Lib.hid (t2.out.below hb)
      have S4 := Lib.hid (S3.out.below hb)
      have wz4 := wz3.trans (hb.mono wz3.size)
      clear hb
      go_wp2_with fail
      refine (check_s S4.out).mono ?_
      by_cases hnd : xs.Nodup
      · rw [decide_eq_true hnd]
        rintro e w4 ⟨rfl, rfl⟩
        have hnd2 : (xs.filter (fun x => !decide (x = k))).Nodup := List.Pairwise.filter _ hnd
        have CK := check_s t3.out
        rw [decide_eq_true hnd2] at CK
        clear hnd hnd2
        go_wp2_with fail
        refine CK.mono ?_
        rintro e w5 ⟨rfl, rfl⟩
        go_wp2_with fail
        refine (live_any _).mono ?_
        rintro e w8 ⟨rfl, hb⟩
        go_wp2_with fail
        go_ret
        exact ⟨rfl, wz4.trans (hb.mono wz4.size)⟩
      · rw [decide_eq_false hnd]
        rintro e w4 ⟨rfl, rfl⟩
        clear hnd
        go_wp2_with fail
        refine (live_any _).mono ?_
        rintro e w8 ⟨rfl, hb⟩
        go_wp2_with fail
        go_ret
        exact ⟨rfl, wz4.trans (hb.mono wz4.size)⟩

end Go.Proofs.Ytiblkhohlfnhnaa.Lk
