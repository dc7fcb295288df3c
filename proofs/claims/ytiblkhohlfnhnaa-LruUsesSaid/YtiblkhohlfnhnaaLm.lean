/- The law LruUses' function tells true. -/
import Derived.Test.YtiblkhohlfnhnaaLj
import Derived.BigQuiet
import Derived.IntWalk
namespace Go.Proofs.Ytiblkhohlfnhnaa.Lm
open Go.RowKit
open Go.Proofs.Ytiblkhohlfnhnaa.La
open Go.Proofs.Ytiblkhohlfnhnaa.Lb
open Go.Proofs.Ytiblkhohlfnhnaa.Lc
open Go.Proofs.Ytiblkhohlfnhnaa.Ld
open Go.Proofs.Ytiblkhohlfnhnaa.Le
open Go.Proofs.Ytiblkhohlfnhnaa.Lf
open Go.Proofs.Ytiblkhohlfnhnaa.Lg
open Go.Proofs.Ytiblkhohlfnhnaa.Lh
open Go.Proofs.Ytiblkhohlfnhnaa.Li
open Go.Proofs.Ytiblkhohlfnhnaa.Lj
set_option linter.unusedVariables false

theorem below_drewN {B : Nat} {a w : World} (h : Below B a w) (n : Nat) : Below B a (w.drewN n) := ⟨h.os, h.tape, h.output, h.size, h.block⟩
/-- Who is touched, one behind the other. -/
def used : List Int → Nat → List Int
  | _, 0 => []
  | xs, i + 1 => match xs[i]? with
    | some x => (used xs i).filter (fun y => !decide (y = x)) ++ [x]
    | none => used xs i
theorem used_succ (xs : List Int) (i : Nat) (x : Int) (h : xs[i]? = some x) : used xs (i + 1) = (used xs i).filter (fun y => !decide (y = x)) ++ [x] := by
  show (match xs[i]? with | some x => (used xs i).filter (fun y => !decide (y = x)) ++ [x] | none => used xs i) = _
  rw [h]
theorem used_len (xs : List Int) : ∀ i, i ≤ xs.length → (used xs i).length ≤ i
  | 0, _ => by simp [used]
  | i + 1, h => by
    have hx : xs[i]? = some (xs[i]'(by omega)) := List.getElem?_eq_getElem _
    rw [used_succ xs i _ hx]
    have := used_len xs i (by omega)
    have := List.length_filter_le (fun y => !decide (y = xs[i]'(by omega))) (used xs i)
    simp only [List.length_append, List.length_singleton]
    omega
theorem lastAt_lt (k : Int) (xs : List Int) : ∀ i, lastAt k xs i < i
  | 0 => by simp [lastAt]
  | i + 1 => by
    have := lastAt_lt k xs i
    unfold lastAt
    split <;> omega
theorem lastAt_ne (k x : Int) (xs : List Int) (i : Nat) (h : xs[i]? = some x) (hk : k ≠ x) : lastAt k xs (i + 1) = lastAt k xs i := by
  show (if xs[i]? = some k then (i : Int) else lastAt k xs i) = _
  rw [if_neg]
  rw [h]
  intro e
  injection e with e
  exact hk e.symm
theorem lastAt_eq (x : Int) (xs : List Int) (i : Nat) (h : xs[i]? = some x) : lastAt x xs (i + 1) = i := by
  show (if xs[i]? = some x then (i : Int) else lastAt x xs i) = _
  rw [if_pos h]
theorem used_pair (xs : List Int) : ∀ i, i ≤ xs.length → (used xs i).Pairwise (fun a b => lastAt a xs i < lastAt b xs i)
  | 0, _ => by simp [used]
  | i + 1, h => by
    have hx : xs[i]? = some (xs[i]'(by omega)) := List.getElem?_eq_getElem _
    generalize xs[i]'(by omega) = x at hx
    rw [used_succ xs i x hx, List.pairwise_append]
    have ih := used_pair xs i (by omega)
    refine ⟨?_, by simp, ?_⟩
    · have := ih.filter (fun y => !decide (y = x))
      refine this.imp_of_mem ?_
      intro a b ha hb hab
      have ha := (List.mem_filter.1 ha).2
      have hb := (List.mem_filter.1 hb).2
      rw [lastAt_ne a x xs i hx (by simpa using ha), lastAt_ne b x xs i hx (by simpa using hb)]
      exact hab
    · intro a ha b hb
      have ha := (List.mem_filter.1 ha).2
      rw [List.mem_singleton] at hb
      subst hb
      rw [lastAt_ne a b xs i hx (by simpa using ha), lastAt_eq b xs i hx]
      exact lastAt_lt a xs i
theorem used_nodup (xs : List Int) (i : Nat) (h : i ≤ xs.length) : (used xs i).Nodup := by
  refine (used_pair xs i h).imp ?_
  intro a b hab e
  subst e
  omega
theorem uses_big (A : Option Addr) (n c : Nat) (k : Int) (w : World) (hn : 200 < n) : Calls Try.prog 4 #[.slice A n c, .int .i64 k] w fun e w' => e = .returned (.bool true) ∧ Below w.heap.size w w' := by
  have d0 : decide (200 < (n : Int)) = true := by simp; omega
  clear hn
  go_enter Try.func4, Try.ntmps4
  go_wp2_with fail
  refine (live_any _).mono ?_
  rintro e w1 ⟨rfl, hb⟩
  go_wp2_with fail
  go_ret
  exact ⟨rfl, hb⟩

set_option maxHeartbeats 8000000 in
theorem uses_neg (A : Option Addr) (n c : Nat) (k : Int) (xs : List Int) (w : World) (hn : n ≤ 200) (sv : Sv mki w A n c xs) (hk : k < 0) :
    Calls Try.prog 4 #[.slice A n c, .int .i64 k] w fun e w' => e = .returned (.bool true) ∧ Below w.heap.size w w' := by
  have d0 : decide (200 < (n : Int)) = false := by simp; omega
  have S := Lib.hid sv
  have HN := Lib.hid sv.1
  clear sv
  go_enter Try.func4, Try.ntmps4
  go_wp2_with fail
  go_loopw [5, 6] (fun s5 t wr => ∃ (i m d : Nat) (O : Option Addr), s5 = .slice O m d ∧ i ≤ n ∧ t = .int .i64 (i : Int) ∧ m ≤ i ∧ Hid (Sv mki wr O m d (used xs i)) ∧ Below w.heap.size w wr) (fun _ t _ => n - (intOf t).toNat)
  case atStart => exact ⟨0, 0, 0, none, rfl, Nat.zero_le _, rfl, Nat.le_refl _, Lib.hid ⟨rfl, Nat.le_refl _, by omega, .inl rfl⟩, Below.refl _ _⟩
  case round =>
    obtain ⟨i, m, d, O, rfl, hi, rfl, hmi, so, hbr⟩ := hrel
    have S1 := Lib.hid (S.out.below hbr)
    by_cases hlk : i < n
    · obtain ⟨x, hx⟩ : ∃ x, xs[i]? = some x := ⟨xs[i]'(by have := HN.out; omega), List.getElem?_eq_getElem _⟩
      obtain ⟨b, off, rfl, hltb, hcb⟩ : ∃ b off, A = some ⟨b, off, none⟩ ∧ b < wr.heap.size ∧ wr.cell? ⟨b, off + i, none⟩ = some (.int .i64 x) := by
        rcases S1.out.2.2.2 with h | ⟨b, off, rfl, h1, h2⟩
        · omega
        · exact ⟨b, off, rfl, h1, h2 i x hx⟩
      have hx := Lib.hid hx
      go_wp2_with fail
      refine (touch_i x so.out (by omega)).mono ?_
      rintro e w1 ⟨v, rfl, own, hb⟩
      rw [← used_succ xs i x hx.out] at own
      have hl1 : Hid ((used xs (i + 1)).length ≤ i + 1) := Lib.hid (used_len xs (i + 1) (by have := HN.out; omega))
      have hl2 : Hid (1 ≤ (used xs (i + 1)).length) := Lib.hid (by rw [used_succ xs i x hx.out]; simp)
      have hl3 : Hid ((used xs (i + 1))[(used xs (i + 1)).length - 1]? = some x) := Lib.hid (by rw [used_succ xs i x hx.out]; simp)
      generalize hm1 : (used xs (i + 1)).length = m1 at own hl1 hl2 hl3
      have hm1 := Lib.hid hm1
      obtain ⟨O1, d1, rfl, so1⟩ := sv_own own (by have := hl1.out; omega)
      obtain ⟨b1, off1, rfl, hltb1, cx1⟩ : ∃ b1 off1, O1 = some ⟨b1, off1, none⟩ ∧ b1 < w1.heap.size ∧ w1.cell? ⟨b1, off1 + (m1 - 1), none⟩ = some (.int .i64 x) := by
        rcases so1.2.2.2 with h | ⟨b1, off1, rfl, h1, h2⟩
        · have := hl2.out; omega
        · exact ⟨b1, off1, rfl, h1, h2 _ x hl3.out⟩
      have so1 := Lib.hid so1
      have ci := (hb.cell (p := ⟨b, off + i, none⟩) hltb).trans hcb
      have wz := hbr.trans (hb.mono hbr.size)
      clear own hb hcb so
      obtain ⟨m0, rfl⟩ : ∃ m0, m1 = m0 + 1 := ⟨m1 - 1, by have := hl2.out; omega⟩
      rw [show m0 + 1 - 1 = m0 by omega] at cx1
      have hl1' := hl1.out
      have hm0 : m0 ≤ 200 := by omega
      have e0 : ((m0 : Int) + 1 == 0) = false := beq_false_of_ne (by omega)
      have e3 : IntKind.i64.wrap ((m0 : Int) + 1 - 1) = (m0 : Int) := by rw [show (m0 : Int) + 1 - 1 = (m0 : Int) by omega]; exact IntWalk.i64_in _ (by omega)
      have e4 : IntKind.i64.wrap (m0 : Int) = (m0 : Int) := IntWalk.i64_in _ (by omega)
      have e1 : (x == x) = true := by simp
      have e2 : (x != x) = false := by simp
      have CK : ∀ W, (∃ q, W = w1.drewN q) → Calls Try.prog 16 #[.slice (some ⟨b1, off1, none⟩) (m0 + 1) d1] W fun e w' => e = .returned (.bool true) ∧ w' = W := by
        rintro W ⟨q, rfl⟩
        have sW : Sv mki (w1.drewN q) (some ⟨b1, off1, none⟩) (m0 + 1) d1 (used xs (i + 1)) := so1.out.below (below_drewN (Below.refl _ _) q)
        have := check_i sW
        rw [decide_eq_true (used_nodup xs (i + 1) (by have := HN.out; omega))] at this
        exact this.mono fun e w' h => ⟨h.1, h.2.symm⟩
      have CK := Lib.hid CK
      clear hl1 hl2 hl3
      go_wp2_with fail
      go_quiet ((go_at_call 16; exact Calls.quiet_of_same (CK.out _ ⟨_, rfl⟩)))
      go_wp2_with fail
      go_roundw
      case rel => exact ⟨i + 1, m0 + 1, d1, _, rfl, by omega, by go_num, by omega, Lib.hid (so1.out.below (below_drewN (Below.refl _ _) nq)), below_drewN wz nq⟩
      case measure => simp [intOf]; omega
    · obtain rfl : i = n := by omega
      have hpw := Lib.hid (used_pair xs i (by have := HN.out; omega))
      have hm := Lib.hid so.out.1
      generalize used xs i = ys at so hpw hm
      have HQ := Lib.hid (cutAt_le m k)
      go_wp2_with fail
      refine (cut_any k so.out).mono ?_
      rintro e w1 ⟨v1, v2, rfl, o1, o2, hb⟩
      have S2 := Lib.hid (S1.out.below hb)
      have wz := hbr.trans (hb.mono hbr.size)
      clear hb so S1 hbr
      obtain ⟨q, hq⟩ : ∃ q, cutAt m k = q := ⟨_, rfl⟩
      rw [hq] at o1 o2 HQ
      have hqm := HQ.out
      have gm : ¬ (0) < ((m - q : Nat) : Int) := by rw [← hq]; unfold cutAt; (repeat' split) <;> omega
      have hq := Lib.hid hq
      have gm2 : decide ((0) < ((m - q : Nat) : Int)) = false := by simpa using gm
      have gs : (((m - q : Nat) : Int) + (q : Int) == (m : Int)) = true := by rw [beq_iff_eq]; omega
      have gs2 : (((m - q : Nat) : Int) + (q : Int) != (m : Int)) = false := by rw [bne, gs]; rfl
      obtain ⟨A1, c1, rfl, s1⟩ := sv_own o1 (by omega)
      obtain ⟨A2, c2, rfl, s2⟩ := sv_own o2 (by omega)
      have hc1 := s1.2.1
      have hc2 := s2.2.1
      have s1 := Lib.hid s1
      have s2 := Lib.hid s2
      clear o1 o2 HQ
      generalize hr : m - q = r at *
      have hr := Lib.hid hr
      go_wp2_with fail
      go_loopw [9, 10] (fun t _ wr2 => ∃ a : Nat, t = .int .i64 (a : Int) ∧ a ≤ q ∧ Below w1.heap.size w1 wr2) (fun t _ _ => q - (intOf t).toNat)
      case atStart => exact ⟨0, rfl, Nat.zero_le _, Below.refl _ _⟩
      case round =>
        obtain ⟨a, rfl, ha, hbr2⟩ := hrel
        by_cases hla : a < q
        · obtain ⟨y, hy⟩ : ∃ y, (ys.take q)[a]? = some y := ⟨(ys.take q)[a]'(by have := s2.out.1; omega), List.getElem?_eq_getElem _⟩
          obtain ⟨b2, off2, rfl, hlt2, hc2y⟩ : ∃ b2 off2, A2 = some ⟨b2, off2, none⟩ ∧ b2 < w1.heap.size ∧ w1.cell? ⟨b2, off2 + a, none⟩ = some (.int .i64 y) := by
            rcases s2.out.2.2.2 with h | ⟨b2, off2, rfl, h1, h2⟩
            · omega
            · exact ⟨b2, off2, rfl, h1, h2 a y hy⟩
          have hy := Lib.hid hy
          have hc2y := Lib.hid hc2y
          go_wp2_with fail
          go_loopw [10] (fun t wr3 => ∃ e : Nat, t = .int .i64 (e : Int) ∧ e ≤ r ∧ Below w1.heap.size w1 wr3) (fun t _ => r - (intOf t).toNat)
          case atStart => exact ⟨0, rfl, Nat.zero_le _, hbr2⟩
          case round =>
            obtain ⟨e, rfl, he, hbr3⟩ := hrel
            by_cases hle : e < r
            · obtain ⟨z, hz⟩ : ∃ z, (ys.drop q)[e]? = some z := ⟨(ys.drop q)[e]'(by have := s1.out.1; omega), List.getElem?_eq_getElem _⟩
              obtain ⟨b1, off1, rfl, hlt1, hc1z⟩ : ∃ b1 off1, A1 = some ⟨b1, off1, none⟩ ∧ b1 < w1.heap.size ∧ w1.cell? ⟨b1, off1 + e, none⟩ = some (.int .i64 z) := by
                rcases s1.out.2.2.2 with h | ⟨b1, off1, rfl, h1, h2⟩
                · omega
                · exact ⟨b1, off1, rfl, h1, h2 e z hz⟩
              have cy := (hbr3.cell (p := ⟨b2, off2 + a, none⟩) hlt2).trans hc2y.out
              have cz := (hbr3.cell (p := ⟨b1, off1 + e, none⟩) hlt1).trans hc1z
              have hlt : lastAt y xs i < lastAt z xs i := by
                have hy' := hy.out
                rw [List.getElem?_take_of_lt hla] at hy'
                rw [List.getElem?_drop] at hz
                obtain ⟨g1, rfl⟩ := List.getElem?_eq_some_iff.1 hy'
                obtain ⟨g2, rfl⟩ := List.getElem?_eq_some_iff.1 hz
                exact List.pairwise_iff_getElem.1 hpw.out a (q + e) g1 g2 (by omega)
              have CK : ∀ (u : Int) W, (∃ m, W = wr.drewN m) → Calls Try.prog 23 #[.slice A i c, .int .i64 u] W fun e w' => e = .returned (.int .i64 (lastAt u xs i)) ∧ w' = W := by
                rintro u W ⟨m, rfl⟩
                have sW : Sv mki (wr.drewN m) A i c xs := S2.out.below (below_drewN hbr3 m)
                exact (when_any u sW).mono fun e w' h => ⟨h.1, h.2.symm⟩
              have CK := Lib.hid CK
              clear hc1z hz
              have hge : decide (lastAt z xs i ≤ lastAt y xs i) = false := by simp; omega
              go_wp2_with fail
              go_quiet ((go_at_call 23; exact Calls.quiet_of_same (CK.out _ _ ⟨_, rfl⟩)))
              go_wp2_with fail
              go_roundw
              case rel => exact ⟨e + 1, by go_num, by omega, below_drewN hbr3 nq⟩
              case measure => simp [intOf]; omega
            · go_wp2_with fail
              go_roundw
              case rel => exact ⟨a + 1, by go_num, by omega, hbr3⟩
              case measure => simp [intOf]; omega
        · go_wp2_with fail
          refine (live_any _).mono ?_
          rintro e w8 ⟨rfl, hb⟩
          go_wp2_with fail
          go_ret
          exact ⟨rfl, (wz.trans (hbr2.mono wz.size)).trans (hb.mono (wz.trans (hbr2.mono wz.size)).size)⟩

set_option maxHeartbeats 8000000 in
theorem uses_pos (A : Option Addr) (n c : Nat) (k : Int) (xs : List Int) (w : World) (hn : n ≤ 200) (sv : Sv mki w A n c xs) (hk : 0 ≤ k) :
    Calls Try.prog 4 #[.slice A n c, .int .i64 k] w fun e w' => e = .returned (.bool true) ∧ Below w.heap.size w w' := by
  have d0 : decide (200 < (n : Int)) = false := by simp; omega
  have S := Lib.hid sv
  have HN := Lib.hid sv.1
  clear sv
  go_enter Try.func4, Try.ntmps4
  go_wp2_with fail
  go_loopw [5, 6] (fun s5 t wr => ∃ (i m d : Nat) (O : Option Addr), s5 = .slice O m d ∧ i ≤ n ∧ t = .int .i64 (i : Int) ∧ m ≤ i ∧ Hid (Sv mki wr O m d (used xs i)) ∧ Below w.heap.size w wr) (fun _ t _ => n - (intOf t).toNat)
  case atStart => exact ⟨0, 0, 0, none, rfl, Nat.zero_le _, rfl, Nat.le_refl _, Lib.hid ⟨rfl, Nat.le_refl _, by omega, .inl rfl⟩, Below.refl _ _⟩
  case round =>
    obtain ⟨i, m, d, O, rfl, hi, rfl, hmi, so, hbr⟩ := hrel
    have S1 := Lib.hid (S.out.below hbr)
    by_cases hlk : i < n
    · obtain ⟨x, hx⟩ : ∃ x, xs[i]? = some x := ⟨xs[i]'(by have := HN.out; omega), List.getElem?_eq_getElem _⟩
      obtain ⟨b, off, rfl, hltb, hcb⟩ : ∃ b off, A = some ⟨b, off, none⟩ ∧ b < wr.heap.size ∧ wr.cell? ⟨b, off + i, none⟩ = some (.int .i64 x) := by
        rcases S1.out.2.2.2 with h | ⟨b, off, rfl, h1, h2⟩
        · omega
        · exact ⟨b, off, rfl, h1, h2 i x hx⟩
      have hx := Lib.hid hx
      go_wp2_with fail
      refine (touch_i x so.out (by omega)).mono ?_
      rintro e w1 ⟨v, rfl, own, hb⟩
      rw [← used_succ xs i x hx.out] at own
      have hl1 : Hid ((used xs (i + 1)).length ≤ i + 1) := Lib.hid (used_len xs (i + 1) (by have := HN.out; omega))
      have hl2 : Hid (1 ≤ (used xs (i + 1)).length) := Lib.hid (by rw [used_succ xs i x hx.out]; simp)
      have hl3 : Hid ((used xs (i + 1))[(used xs (i + 1)).length - 1]? = some x) := Lib.hid (by rw [used_succ xs i x hx.out]; simp)
      generalize hm1 : (used xs (i + 1)).length = m1 at own hl1 hl2 hl3
      have hm1 := Lib.hid hm1
      obtain ⟨O1, d1, rfl, so1⟩ := sv_own own (by have := hl1.out; omega)
      obtain ⟨b1, off1, rfl, hltb1, cx1⟩ : ∃ b1 off1, O1 = some ⟨b1, off1, none⟩ ∧ b1 < w1.heap.size ∧ w1.cell? ⟨b1, off1 + (m1 - 1), none⟩ = some (.int .i64 x) := by
        rcases so1.2.2.2 with h | ⟨b1, off1, rfl, h1, h2⟩
        · have := hl2.out; omega
        · exact ⟨b1, off1, rfl, h1, h2 _ x hl3.out⟩
      have so1 := Lib.hid so1
      have ci := (hb.cell (p := ⟨b, off + i, none⟩) hltb).trans hcb
      have wz := hbr.trans (hb.mono hbr.size)
      clear own hb hcb so
      obtain ⟨m0, rfl⟩ : ∃ m0, m1 = m0 + 1 := ⟨m1 - 1, by have := hl2.out; omega⟩
      rw [show m0 + 1 - 1 = m0 by omega] at cx1
      have hl1' := hl1.out
      have hm0 : m0 ≤ 200 := by omega
      have e0 : ((m0 : Int) + 1 == 0) = false := beq_false_of_ne (by omega)
      have e3 : IntKind.i64.wrap ((m0 : Int) + 1 - 1) = (m0 : Int) := by rw [show (m0 : Int) + 1 - 1 = (m0 : Int) by omega]; exact IntWalk.i64_in _ (by omega)
      have e4 : IntKind.i64.wrap (m0 : Int) = (m0 : Int) := IntWalk.i64_in _ (by omega)
      have e1 : (x == x) = true := by simp
      have e2 : (x != x) = false := by simp
      have CK : ∀ W, (∃ q, W = w1.drewN q) → Calls Try.prog 16 #[.slice (some ⟨b1, off1, none⟩) (m0 + 1) d1] W fun e w' => e = .returned (.bool true) ∧ w' = W := by
        rintro W ⟨q, rfl⟩
        have sW : Sv mki (w1.drewN q) (some ⟨b1, off1, none⟩) (m0 + 1) d1 (used xs (i + 1)) := so1.out.below (below_drewN (Below.refl _ _) q)
        have := check_i sW
        rw [decide_eq_true (used_nodup xs (i + 1) (by have := HN.out; omega))] at this
        exact this.mono fun e w' h => ⟨h.1, h.2.symm⟩
      have CK := Lib.hid CK
      clear hl1 hl2 hl3
      go_wp2_with fail
      go_quiet ((go_at_call 16; exact Calls.quiet_of_same (CK.out _ ⟨_, rfl⟩)))
      go_wp2_with fail
      go_roundw
      case rel => exact ⟨i + 1, m0 + 1, d1, _, rfl, by omega, by go_num, by omega, Lib.hid (so1.out.below (below_drewN (Below.refl _ _) nq)), below_drewN wz nq⟩
      case measure => simp [intOf]; omega
    · obtain rfl : i = n := by omega
      have hpw := Lib.hid (used_pair xs i (by have := HN.out; omega))
      have hm := Lib.hid so.out.1
      generalize used xs i = ys at so hpw hm
      have HQ := Lib.hid (cutAt_le m k)
      go_wp2_with fail
      refine (cut_any k so.out).mono ?_
      rintro e w1 ⟨v1, v2, rfl, o1, o2, hb⟩
      have S2 := Lib.hid (S1.out.below hb)
      have wz := hbr.trans (hb.mono hbr.size)
      clear hb so S1 hbr
      obtain ⟨q, hq⟩ : ∃ q, cutAt m k = q := ⟨_, rfl⟩
      rw [hq] at o1 o2 HQ
      have hqm := HQ.out
      have gm : ¬ (k) < ((m - q : Nat) : Int) := by rw [← hq]; unfold cutAt; (repeat' split) <;> omega
      have hq := Lib.hid hq
      have gm2 : decide ((k) < ((m - q : Nat) : Int)) = false := by simpa using gm
      have gs : (((m - q : Nat) : Int) + (q : Int) == (m : Int)) = true := by rw [beq_iff_eq]; omega
      have gs2 : (((m - q : Nat) : Int) + (q : Int) != (m : Int)) = false := by rw [bne, gs]; rfl
      obtain ⟨A1, c1, rfl, s1⟩ := sv_own o1 (by omega)
      obtain ⟨A2, c2, rfl, s2⟩ := sv_own o2 (by omega)
      have hc1 := s1.2.1
      have hc2 := s2.2.1
      have s1 := Lib.hid s1
      have s2 := Lib.hid s2
      clear o1 o2 HQ
      generalize hr : m - q = r at *
      have hr := Lib.hid hr
      go_wp2_with fail
      go_loopw [9, 10] (fun t _ wr2 => ∃ a : Nat, t = .int .i64 (a : Int) ∧ a ≤ q ∧ Below w1.heap.size w1 wr2) (fun t _ _ => q - (intOf t).toNat)
      case atStart => exact ⟨0, rfl, Nat.zero_le _, Below.refl _ _⟩
      case round =>
        obtain ⟨a, rfl, ha, hbr2⟩ := hrel
        by_cases hla : a < q
        · obtain ⟨y, hy⟩ : ∃ y, (ys.take q)[a]? = some y := ⟨(ys.take q)[a]'(by have := s2.out.1; omega), List.getElem?_eq_getElem _⟩
          obtain ⟨b2, off2, rfl, hlt2, hc2y⟩ : ∃ b2 off2, A2 = some ⟨b2, off2, none⟩ ∧ b2 < w1.heap.size ∧ w1.cell? ⟨b2, off2 + a, none⟩ = some (.int .i64 y) := by
            rcases s2.out.2.2.2 with h | ⟨b2, off2, rfl, h1, h2⟩
            · omega
            · exact ⟨b2, off2, rfl, h1, h2 a y hy⟩
          have hy := Lib.hid hy
          have hc2y := Lib.hid hc2y
          go_wp2_with fail
          go_loopw [10] (fun t wr3 => ∃ e : Nat, t = .int .i64 (e : Int) ∧ e ≤ r ∧ Below w1.heap.size w1 wr3) (fun t _ => r - (intOf t).toNat)
          case atStart => exact ⟨0, rfl, Nat.zero_le _, hbr2⟩
          case round =>
            obtain ⟨e, rfl, he, hbr3⟩ := hrel
            by_cases hle : e < r
            · obtain ⟨z, hz⟩ : ∃ z, (ys.drop q)[e]? = some z := ⟨(ys.drop q)[e]'(by have := s1.out.1; omega), List.getElem?_eq_getElem _⟩
              obtain ⟨b1, off1, rfl, hlt1, hc1z⟩ : ∃ b1 off1, A1 = some ⟨b1, off1, none⟩ ∧ b1 < w1.heap.size ∧ w1.cell? ⟨b1, off1 + e, none⟩ = some (.int .i64 z) := by
                rcases s1.out.2.2.2 with h | ⟨b1, off1, rfl, h1, h2⟩
                · omega
                · exact ⟨b1, off1, rfl, h1, h2 e z hz⟩
              have cy := (hbr3.cell (p := ⟨b2, off2 + a, none⟩) hlt2).trans hc2y.out
              have cz := (hbr3.cell (p := ⟨b1, off1 + e, none⟩) hlt1).trans hc1z
              have hlt : lastAt y xs i < lastAt z xs i := by
                have hy' := hy.out
                rw [List.getElem?_take_of_lt hla] at hy'
                rw [List.getElem?_drop] at hz
                obtain ⟨g1, rfl⟩ := List.getElem?_eq_some_iff.1 hy'
                obtain ⟨g2, rfl⟩ := List.getElem?_eq_some_iff.1 hz
                exact List.pairwise_iff_getElem.1 hpw.out a (q + e) g1 g2 (by omega)
              have CK : ∀ (u : Int) W, (∃ m, W = wr.drewN m) → Calls Try.prog 23 #[.slice A i c, .int .i64 u] W fun e w' => e = .returned (.int .i64 (lastAt u xs i)) ∧ w' = W := by
                rintro u W ⟨m, rfl⟩
                have sW : Sv mki (wr.drewN m) A i c xs := S2.out.below (below_drewN hbr3 m)
                exact (when_any u sW).mono fun e w' h => ⟨h.1, h.2.symm⟩
              have CK := Lib.hid CK
              clear hc1z hz
              have hge : decide (lastAt z xs i ≤ lastAt y xs i) = false := by simp; omega
              go_wp2_with fail
              go_quiet ((go_at_call 23; exact Calls.quiet_of_same (CK.out _ _ ⟨_, rfl⟩)))
              go_wp2_with fail
              go_roundw
              case rel => exact ⟨e + 1, by go_num, by omega, below_drewN hbr3 nq⟩
              case measure => simp [intOf]; omega
            · go_wp2_with fail
              go_roundw
              case rel => exact ⟨a + 1, by go_num, by omega, hbr3⟩
              case measure => simp [intOf]; omega
        · go_wp2_with fail
          refine (live_any _).mono ?_
          rintro e w8 ⟨rfl, hb⟩
          go_wp2_with fail
          go_ret
          exact ⟨rfl, (wz.trans (hbr2.mono wz.size)).trans (hb.mono (wz.trans (hbr2.mono wz.size)).size)⟩

end Go.Proofs.Ytiblkhohlfnhnaa.Lm
