/- The reference's Same, Texts, Check and CheckTexts. -/
import Derived.Test.YtiblkhohlfnhnaaLd
namespace Go.Proofs.Ytiblkhohlfnhnaa.Le
open Go.RowKit
open Go.Proofs.Ytiblkhohlfnhnaa.La
open Go.Proofs.Ytiblkhohlfnhnaa.Lb
open Go.Proofs.Ytiblkhohlfnhnaa.Lc
open Go.Proofs.Ytiblkhohlfnhnaa.Ld
set_option linter.unusedVariables false

set_option maxHeartbeats 1000000 in
theorem same_some_i (b off b2 off2 n c d : Nat) (xs ys : List Int) (HN : Hid (n = xs.length)) (HM : Hid (n = ys.length)) (hn : n ≤ 65536) (w : World) (hlt : b < w.heap.size) (hlt2 : b2 < w.heap.size)
    (HR : Hid (∀ (j : Nat) x, xs[j]? = some x → w.cell? ⟨b, off + j, none⟩ = some (.int .i64 x))) (HR2 : Hid (∀ (j : Nat) x, ys[j]? = some x → w.cell? ⟨b2, off2 + j, none⟩ = some (.int .i64 x))) :
    Calls Try.prog 11 #[.slice (some ⟨b, off, none⟩) n c, .slice (some ⟨b2, off2, none⟩) n d] w fun e w' => e = .returned (.bool (decide (xs = ys))) ∧ Below w.heap.size w w' := by
  go_enter Try.func11, Try.ntmps11
  go_wp2
  go_loopw [5] (fun t wr => ∃ i : Nat, i ≤ n ∧ t = .int .i64 (i : Int) ∧ Hid (∀ (j : Nat) x y, j < i → xs[j]? = some x → ys[j]? = some y → x = y) ∧ Below w.heap.size w wr) (fun t _ => n - (intOf t).toNat)
  case atStart => exact ⟨0, Nat.zero_le _, rfl, Lib.hid (fun j x y h => by omega), Below.refl _ _⟩
  case round =>
    obtain ⟨i, hi, rfl, hno, hbr⟩ := hrel
    by_cases hlk : i < n
    · obtain ⟨x, hx⟩ : ∃ x, xs[i]? = some x := ⟨xs[i]'(by have := HN.out; omega), List.getElem?_eq_getElem _⟩
      obtain ⟨y, hy⟩ : ∃ y, ys[i]? = some y := ⟨ys[i]'(by have := HM.out; omega), List.getElem?_eq_getElem _⟩
      have c0 := (hbr.cell (p := ⟨b, off + i, none⟩) hlt).trans (HR.out i x hx)
      have c1 := (hbr.cell (p := ⟨b2, off2 + i, none⟩) hlt2).trans (HR2.out i y hy)
      have hx := Lib.hid hx
      have hy := Lib.hid hy
      by_cases ht : decide (x = y) = true
      · have hno' : Hid (∀ (j : Nat) x y, j < i + 1 → xs[j]? = some x → ys[j]? = some y → x = y) := Lib.hid (fun j x' y' hj hx' hy' => by
          by_cases hji : j = i
          · subst hji
            have h1 := hx.out.symm.trans hx'
            have h2 := hy.out.symm.trans hy'
            injection h1 with h1
            injection h2 with h2
            subst h1 h2
            exact of_decide_eq_true ht
          · exact hno.out j x' y' (by omega) hx' hy')
        have q0 : (x == y) = true := by simpa using ht
        have q1 : (x != y) = false := by simpa using ht
        clear ht
        go_wp2
        go_region
        go_wp2
        go_roundw
        case rel => exact ⟨i + 1, by omega, by go_num, hno', hbr.drew⟩
        case measure => simp [intOf]; omega
      · have hf : decide (x = y) = false := by simpa using ht
        clear ht
        have hfin : Hid (decide (xs = ys) = false) := Lib.hid (decide_eq_false (fun e => by
          subst e
          have h1 := hx.out.symm.trans hy.out
          injection h1 with h1
          exact of_decide_eq_false hf h1))
        have q0 : (x == y) = false := by simpa using hf
        have q1 : (x != y) = true := by simpa using hf
        clear hf
        go_wp2
        go_region
        go_wp2
        go_ret
        exact ⟨congrArg (fun n => Ending.returned (.bool n)) hfin.out.symm, hbr.drew⟩
    · have hfin : Hid (decide (xs = ys) = true) := Lib.hid (decide_eq_true (List.ext_getElem? fun j => by
        by_cases hj : j < i
        · have hx : xs[j]? = some (xs[j]'(by have := HN.out; omega)) := List.getElem?_eq_getElem _
          have hy : ys[j]? = some (ys[j]'(by have := HM.out; omega)) := List.getElem?_eq_getElem _
          rw [hx, hy, hno.out j _ _ hj hx hy]
        · rw [List.getElem?_eq_none (by have := HN.out; omega), List.getElem?_eq_none (by have := HM.out; omega)]))
      go_wp2
      go_ret
      exact ⟨congrArg (fun n => Ending.returned (.bool n)) hfin.out.symm, hbr⟩
theorem same_ne_i (A B : Option Addr) (n m c d : Nat) (w : World) (hn : n ≤ 65536) (hm : m ≤ 65536) (h : n ≠ m) : Calls Try.prog 11 #[.slice A n c, .slice B m d] w fun e w' => e = .returned (.bool false) ∧ Below w.heap.size w w' := by
  have q0 : ((n : Int) == (m : Int)) = false := beq_false_of_ne (by omega)
  have q1 : ((n : Int) != (m : Int)) = true := by rw [bne, q0]; rfl
  clear h
  go_enter Try.func11, Try.ntmps11
  go_wp2
  go_ret
  exact ⟨rfl, Below.refl _ _⟩
theorem same_nil_i (A B : Option Addr) (c d : Nat) (w : World) : Calls Try.prog 11 #[.slice A 0 c, .slice B 0 d] w fun e w' => e = .returned (.bool true) ∧ Below w.heap.size w w' := by
  go_enter Try.func11, Try.ntmps11
  go_wp2
  refine wp_loop_rounds 1 ?_
  rw [rounds_succ]
  go_wp2
  go_ret
  exact ⟨rfl, Below.refl _ _⟩
theorem same_i {A B : Option Addr} {n m c d : Nat} {xs ys : List Int} {w : World} (h : Sv mki w A n c xs) (h' : Sv mki w B m d ys) : Calls Try.prog 11 #[.slice A n c, .slice B m d] w fun e w' => e = .returned (.bool (decide (xs = ys))) ∧ Below w.heap.size w w' := by
  obtain ⟨h1, h2, h3, h4⟩ := h
  obtain ⟨k1, k2, k3, k4⟩ := h'
  by_cases hnm : n = m
  · subst hnm
    rcases h4 with rfl | ⟨b, off, rfl, hlt, hr⟩
    · obtain rfl : xs = [] := List.eq_nil_of_length_eq_zero h1.symm
      obtain rfl : ys = [] := List.eq_nil_of_length_eq_zero k1.symm
      exact same_nil_i A B c d w
    · rcases k4 with rfl | ⟨b2, off2, rfl, hlt2, hr2⟩
      · obtain rfl : xs = [] := List.eq_nil_of_length_eq_zero h1.symm
        obtain rfl : ys = [] := List.eq_nil_of_length_eq_zero k1.symm
        exact same_nil_i _ B c d w
      · exact same_some_i b off b2 off2 n c d xs ys (Lib.hid h1) (Lib.hid k1) h3 w hlt hlt2 (Lib.hid hr) (Lib.hid hr2)
  · have e : decide (xs = ys) = false := decide_eq_false (fun e => by subst e; omega)
    rw [e]
    exact same_ne_i A B n m c d w h3 k3 hnm

set_option maxHeartbeats 1000000 in
theorem same_some_s (b off b2 off2 n c d : Nat) (xs ys : List ByteArray) (HN : Hid (n = xs.length)) (HM : Hid (n = ys.length)) (hn : n ≤ 65536) (w : World) (hlt : b < w.heap.size) (hlt2 : b2 < w.heap.size)
    (HR : Hid (∀ (j : Nat) x, xs[j]? = some x → w.cell? ⟨b, off + j, none⟩ = some (.string x))) (HR2 : Hid (∀ (j : Nat) x, ys[j]? = some x → w.cell? ⟨b2, off2 + j, none⟩ = some (.string x))) :
    Calls Try.prog 20 #[.slice (some ⟨b, off, none⟩) n c, .slice (some ⟨b2, off2, none⟩) n d] w fun e w' => e = .returned (.bool (decide (xs = ys))) ∧ Below w.heap.size w w' := by
  go_enter Try.func20, Try.ntmps20
  go_wp2
  go_loopw [5] (fun t wr => ∃ i : Nat, i ≤ n ∧ t = .int .i64 (i : Int) ∧ Hid (∀ (j : Nat) x y, j < i → xs[j]? = some x → ys[j]? = some y → x = y) ∧ Below w.heap.size w wr) (fun t _ => n - (intOf t).toNat)
  case atStart => exact ⟨0, Nat.zero_le _, rfl, Lib.hid (fun j x y h => by omega), Below.refl _ _⟩
  case round =>
    obtain ⟨i, hi, rfl, hno, hbr⟩ := hrel
    by_cases hlk : i < n
    · obtain ⟨x, hx⟩ : ∃ x, xs[i]? = some x := ⟨xs[i]'(by have := HN.out; omega), List.getElem?_eq_getElem _⟩
      obtain ⟨y, hy⟩ : ∃ y, ys[i]? = some y := ⟨ys[i]'(by have := HM.out; omega), List.getElem?_eq_getElem _⟩
      have c0 := (hbr.cell (p := ⟨b, off + i, none⟩) hlt).trans (HR.out i x hx)
      have c1 := (hbr.cell (p := ⟨b2, off2 + i, none⟩) hlt2).trans (HR2.out i y hy)
      have hx := Lib.hid hx
      have hy := Lib.hid hy
      by_cases ht : decide (x = y) = true
      · have hno' : Hid (∀ (j : Nat) x y, j < i + 1 → xs[j]? = some x → ys[j]? = some y → x = y) := Lib.hid (fun j x' y' hj hx' hy' => by
          by_cases hji : j = i
          · subst hji
            have h1 := hx.out.symm.trans hx'
            have h2 := hy.out.symm.trans hy'
            injection h1 with h1
            injection h2 with h2
            subst h1 h2
            exact of_decide_eq_true ht
          · exact hno.out j x' y' (by omega) hx' hy')
        have q0 : (x.toList == y.toList) = true := by rw [toList_beq]; exact ht
        have q1 : (x.toList != y.toList) = false := by rw [bne, q0]; rfl
        clear ht
        go_wp2
        go_region
        go_wp2
        go_roundw
        case rel => exact ⟨i + 1, by omega, by go_num, hno', hbr.drew⟩
        case measure => simp [intOf]; omega
      · have hf : decide (x = y) = false := by simpa using ht
        clear ht
        have hfin : Hid (decide (xs = ys) = false) := Lib.hid (decide_eq_false (fun e => by
          subst e
          have h1 := hx.out.symm.trans hy.out
          injection h1 with h1
          exact of_decide_eq_false hf h1))
        have q0 : (x.toList == y.toList) = false := by rw [toList_beq]; exact hf
        have q1 : (x.toList != y.toList) = true := by rw [bne, q0]; rfl
        clear hf
        go_wp2
        go_region
        go_wp2
        go_ret
        exact ⟨congrArg (fun n => Ending.returned (.bool n)) hfin.out.symm, hbr.drew⟩
    · have hfin : Hid (decide (xs = ys) = true) := Lib.hid (decide_eq_true (List.ext_getElem? fun j => by
        by_cases hj : j < i
        · have hx : xs[j]? = some (xs[j]'(by have := HN.out; omega)) := List.getElem?_eq_getElem _
          have hy : ys[j]? = some (ys[j]'(by have := HM.out; omega)) := List.getElem?_eq_getElem _
          rw [hx, hy, hno.out j _ _ hj hx hy]
        · rw [List.getElem?_eq_none (by have := HN.out; omega), List.getElem?_eq_none (by have := HM.out; omega)]))
      go_wp2
      go_ret
      exact ⟨congrArg (fun n => Ending.returned (.bool n)) hfin.out.symm, hbr⟩
theorem same_ne_s (A B : Option Addr) (n m c d : Nat) (w : World) (hn : n ≤ 65536) (hm : m ≤ 65536) (h : n ≠ m) : Calls Try.prog 20 #[.slice A n c, .slice B m d] w fun e w' => e = .returned (.bool false) ∧ Below w.heap.size w w' := by
  have q0 : ((n : Int) == (m : Int)) = false := beq_false_of_ne (by omega)
  have q1 : ((n : Int) != (m : Int)) = true := by rw [bne, q0]; rfl
  clear h
  go_enter Try.func20, Try.ntmps20
  go_wp2
  go_ret
  exact ⟨rfl, Below.refl _ _⟩
theorem same_nil_s (A B : Option Addr) (c d : Nat) (w : World) : Calls Try.prog 20 #[.slice A 0 c, .slice B 0 d] w fun e w' => e = .returned (.bool true) ∧ Below w.heap.size w w' := by
  go_enter Try.func20, Try.ntmps20
  go_wp2
  refine wp_loop_rounds 1 ?_
  rw [rounds_succ]
  go_wp2
  go_ret
  exact ⟨rfl, Below.refl _ _⟩
theorem same_s {A B : Option Addr} {n m c d : Nat} {xs ys : List ByteArray} {w : World} (h : Sv mks w A n c xs) (h' : Sv mks w B m d ys) : Calls Try.prog 20 #[.slice A n c, .slice B m d] w fun e w' => e = .returned (.bool (decide (xs = ys))) ∧ Below w.heap.size w w' := by
  obtain ⟨h1, h2, h3, h4⟩ := h
  obtain ⟨k1, k2, k3, k4⟩ := h'
  by_cases hnm : n = m
  · subst hnm
    rcases h4 with rfl | ⟨b, off, rfl, hlt, hr⟩
    · obtain rfl : xs = [] := List.eq_nil_of_length_eq_zero h1.symm
      obtain rfl : ys = [] := List.eq_nil_of_length_eq_zero k1.symm
      exact same_nil_s A B c d w
    · rcases k4 with rfl | ⟨b2, off2, rfl, hlt2, hr2⟩
      · obtain rfl : xs = [] := List.eq_nil_of_length_eq_zero h1.symm
        obtain rfl : ys = [] := List.eq_nil_of_length_eq_zero k1.symm
        exact same_nil_s _ B c d w
      · exact same_some_s b off b2 off2 n c d xs ys (Lib.hid h1) (Lib.hid k1) h3 w hlt hlt2 (Lib.hid hr) (Lib.hid hr2)
  · have e : decide (xs = ys) = false := decide_eq_false (fun e => by subst e; omega)
    rw [e]
    exact same_ne_s A B n m c d w h3 k3 hnm

set_option maxHeartbeats 2000000 in
theorem rcheck_some_i (b off n c : Nat) (xs : List Int) (HN : Hid (n = xs.length)) (hn : n ≤ 65536) (w : World) (hlt : b < w.heap.size) (HR : Hid (∀ (j : Nat) x, xs[j]? = some x → w.cell? ⟨b, off + j, none⟩ = some (.int .i64 x))) :
    Calls Try.prog 17 #[.slice (some ⟨b, off, none⟩) n c] w fun e w' => e = .returned (.bool (decide xs.Nodup)) ∧ Below w.heap.size w w' := by
  go_enter Try.func17, Try.ntmps17
  go_wp2
  go_loopw [3, 4] (fun t _ wr => ∃ i : Nat, i ≤ n ∧ t = .int .i64 (i : Int) ∧ Hid (Nd i xs) ∧ Below w.heap.size w wr) (fun t _ _ => n - (intOf t).toNat)
  case atStart => exact ⟨0, Nat.zero_le _, rfl, Lib.hid (fun i j x y hj hi => by omega), Below.refl _ _⟩
  case round =>
    obtain ⟨i, hi, rfl, hno, hbr⟩ := hrel
    by_cases hlk : i < n
    · obtain ⟨x, hx⟩ : ∃ x, xs[i]? = some x := ⟨xs[i]'(by have := HN.out; omega), List.getElem?_eq_getElem _⟩
      have HX := HR.out i x hx
      have HX := Lib.hid HX
      have hx := Lib.hid hx
      go_wp2
      go_loopw [4] (fun t wr => ∃ j : Nat, j ≤ i ∧ t = .int .i64 (j : Int) ∧ Hid (∀ (m : Nat) y, m < j → xs[m]? = some y → x ≠ y) ∧ Below w.heap.size w wr) (fun t _ => i - (intOf t).toNat)
      case atStart => exact ⟨0, Nat.zero_le _, rfl, Lib.hid (fun m y h => by omega), hbr⟩
      case round =>
        obtain ⟨j, hj, rfl, hne, hbr2⟩ := hrel
        have c0 := (hbr2.cell (p := ⟨b, off + i, none⟩) hlt).trans HX.out
        by_cases hlj : j < i
        · obtain ⟨y, hy⟩ : ∃ y, xs[j]? = some y := ⟨xs[j]'(by have := HN.out; omega), List.getElem?_eq_getElem _⟩
          have c1 := (hbr2.cell (p := ⟨b, off + j, none⟩) hlt).trans (HR.out j y hy)
          have hy := Lib.hid hy
          by_cases ht : decide (x = y) = true
          · have hfin : Hid (decide xs.Nodup = false) := Lib.hid (decide_eq_false (fun h => (nd_iff xs).1 h i j x y hlj (by have := HN.out; omega) hx.out hy.out (of_decide_eq_true ht)))
            have q0 : (x == y) = true := by simpa using ht
            have q1 : (x != y) = false := by simpa using ht
            clear ht
            go_wp2
            go_region
            go_wp2
            go_ret
            exact ⟨congrArg (fun n => Ending.returned (.bool n)) hfin.out.symm, hbr2.drew⟩
          · have hf : decide (x = y) = false := by simpa using ht
            clear ht
            have hne' : Hid (∀ (m : Nat) z, m < j + 1 → xs[m]? = some z → x ≠ z) := Lib.hid (fun m z hm hz => by
              by_cases hmj : m = j
              · subst hmj
                have h1 := hy.out.symm.trans hz
                injection h1 with h1
                subst h1
                exact of_decide_eq_false hf
              · exact hne.out m z (by omega) hz)
            have q0 : (x == y) = false := by simpa using hf
            have q1 : (x != y) = true := by simpa using hf
            clear hf
            go_wp2
            go_region
            go_wp2
            go_roundw
            case rel => exact ⟨j + 1, by omega, by go_num, hne', hbr2.drew⟩
            case measure => simp [intOf]; omega
        · have hno' : Hid (Nd (i + 1) xs) := Lib.hid (fun i' m x' y hm hi' hx' hy => by
            by_cases hii : i' = i
            · subst hii
              have h1 := hx.out.symm.trans hx'
              injection h1 with h1
              subst h1
              exact hne.out m y (by omega) hy
            · exact hno.out i' m x' y hm (by omega) hx' hy)
          go_wp2
          go_roundw
          case rel => exact ⟨i + 1, by omega, by go_num, hno', hbr2⟩
          case measure => simp [intOf]; omega
    · have hfin : Hid (decide xs.Nodup = true) := Lib.hid (decide_eq_true ((nd_iff xs).2 (by have := HN.out; rw [show xs.length = i by omega]; exact hno.out)))
      go_wp2
      go_ret
      exact ⟨congrArg (fun n => Ending.returned (.bool n)) hfin.out.symm, hbr⟩
theorem rcheck_nil_i (A : Option Addr) (c : Nat) (w : World) : Calls Try.prog 17 #[.slice A 0 c] w fun e w' => e = .returned (.bool true) ∧ Below w.heap.size w w' := by
  go_enter Try.func17, Try.ntmps17
  go_wp2
  refine wp_loop_rounds 1 ?_
  rw [rounds_succ]
  go_wp2
  go_ret
  exact ⟨rfl, Below.refl _ _⟩
theorem rcheck_i {A : Option Addr} {n c : Nat} {xs : List Int} {w : World} (h : Sv mki w A n c xs) : Calls Try.prog 17 #[.slice A n c] w fun e w' => e = .returned (.bool (decide xs.Nodup)) ∧ Below w.heap.size w w' := by
  obtain ⟨h1, h2, h3, h4⟩ := h
  rcases h4 with rfl | ⟨b, off, rfl, hlt, hr⟩
  · obtain rfl : xs = [] := List.eq_nil_of_length_eq_zero h1.symm
    exact rcheck_nil_i A c w
  · exact rcheck_some_i b off n c xs (Lib.hid h1) h3 w hlt (Lib.hid hr)

set_option maxHeartbeats 2000000 in
theorem rcheck_some_s (b off n c : Nat) (xs : List ByteArray) (HN : Hid (n = xs.length)) (hn : n ≤ 65536) (w : World) (hlt : b < w.heap.size) (HR : Hid (∀ (j : Nat) x, xs[j]? = some x → w.cell? ⟨b, off + j, none⟩ = some (.string x))) :
    Calls Try.prog 19 #[.slice (some ⟨b, off, none⟩) n c] w fun e w' => e = .returned (.bool (decide xs.Nodup)) ∧ Below w.heap.size w w' := by
  go_enter Try.func19, Try.ntmps19
  go_wp2
  go_loopw [3, 4] (fun t _ wr => ∃ i : Nat, i ≤ n ∧ t = .int .i64 (i : Int) ∧ Hid (Nd i xs) ∧ Below w.heap.size w wr) (fun t _ _ => n - (intOf t).toNat)
  case atStart => exact ⟨0, Nat.zero_le _, rfl, Lib.hid (fun i j x y hj hi => by omega), Below.refl _ _⟩
  case round =>
    obtain ⟨i, hi, rfl, hno, hbr⟩ := hrel
    by_cases hlk : i < n
    · obtain ⟨x, hx⟩ : ∃ x, xs[i]? = some x := ⟨xs[i]'(by have := HN.out; omega), List.getElem?_eq_getElem _⟩
      have HX := HR.out i x hx
      have HX := Lib.hid HX
      have hx := Lib.hid hx
      go_wp2
      go_loopw [4] (fun t wr => ∃ j : Nat, j ≤ i ∧ t = .int .i64 (j : Int) ∧ Hid (∀ (m : Nat) y, m < j → xs[m]? = some y → x ≠ y) ∧ Below w.heap.size w wr) (fun t _ => i - (intOf t).toNat)
      case atStart => exact ⟨0, Nat.zero_le _, rfl, Lib.hid (fun m y h => by omega), hbr⟩
      case round =>
        obtain ⟨j, hj, rfl, hne, hbr2⟩ := hrel
        have c0 := (hbr2.cell (p := ⟨b, off + i, none⟩) hlt).trans HX.out
        by_cases hlj : j < i
        · obtain ⟨y, hy⟩ : ∃ y, xs[j]? = some y := ⟨xs[j]'(by have := HN.out; omega), List.getElem?_eq_getElem _⟩
          have c1 := (hbr2.cell (p := ⟨b, off + j, none⟩) hlt).trans (HR.out j y hy)
          have hy := Lib.hid hy
          by_cases ht : decide (x = y) = true
          · have hfin : Hid (decide xs.Nodup = false) := Lib.hid (decide_eq_false (fun h => (nd_iff xs).1 h i j x y hlj (by have := HN.out; omega) hx.out hy.out (of_decide_eq_true ht)))
            have q0 : (x.toList == y.toList) = true := by rw [toList_beq]; exact ht
            have q1 : (x.toList != y.toList) = false := by rw [bne, q0]; rfl
            clear ht
            go_wp2
            go_region
            go_wp2
            go_ret
            exact ⟨congrArg (fun n => Ending.returned (.bool n)) hfin.out.symm, hbr2.drew⟩
          · have hf : decide (x = y) = false := by simpa using ht
            clear ht
            have hne' : Hid (∀ (m : Nat) z, m < j + 1 → xs[m]? = some z → x ≠ z) := Lib.hid (fun m z hm hz => by
              by_cases hmj : m = j
              · subst hmj
                have h1 := hy.out.symm.trans hz
                injection h1 with h1
                subst h1
                exact of_decide_eq_false hf
              · exact hne.out m z (by omega) hz)
            have q0 : (x.toList == y.toList) = false := by rw [toList_beq]; exact hf
            have q1 : (x.toList != y.toList) = true := by rw [bne, q0]; rfl
            clear hf
            go_wp2
            go_region
            go_wp2
            go_roundw
            case rel => exact ⟨j + 1, by omega, by go_num, hne', hbr2.drew⟩
            case measure => simp [intOf]; omega
        · have hno' : Hid (Nd (i + 1) xs) := Lib.hid (fun i' m x' y hm hi' hx' hy => by
            by_cases hii : i' = i
            · subst hii
              have h1 := hx.out.symm.trans hx'
              injection h1 with h1
              subst h1
              exact hne.out m y (by omega) hy
            · exact hno.out i' m x' y hm (by omega) hx' hy)
          go_wp2
          go_roundw
          case rel => exact ⟨i + 1, by omega, by go_num, hno', hbr2⟩
          case measure => simp [intOf]; omega
    · have hfin : Hid (decide xs.Nodup = true) := Lib.hid (decide_eq_true ((nd_iff xs).2 (by have := HN.out; rw [show xs.length = i by omega]; exact hno.out)))
      go_wp2
      go_ret
      exact ⟨congrArg (fun n => Ending.returned (.bool n)) hfin.out.symm, hbr⟩
theorem rcheck_nil_s (A : Option Addr) (c : Nat) (w : World) : Calls Try.prog 19 #[.slice A 0 c] w fun e w' => e = .returned (.bool true) ∧ Below w.heap.size w w' := by
  go_enter Try.func19, Try.ntmps19
  go_wp2
  refine wp_loop_rounds 1 ?_
  rw [rounds_succ]
  go_wp2
  go_ret
  exact ⟨rfl, Below.refl _ _⟩
theorem rcheck_s {A : Option Addr} {n c : Nat} {xs : List ByteArray} {w : World} (h : Sv mks w A n c xs) : Calls Try.prog 19 #[.slice A n c] w fun e w' => e = .returned (.bool (decide xs.Nodup)) ∧ Below w.heap.size w w' := by
  obtain ⟨h1, h2, h3, h4⟩ := h
  rcases h4 with rfl | ⟨b, off, rfl, hlt, hr⟩
  · obtain rfl : xs = [] := List.eq_nil_of_length_eq_zero h1.symm
    exact rcheck_nil_s A c w
  · exact rcheck_some_s b off n c xs (Lib.hid h1) h3 w hlt (Lib.hid hr)

end Go.Proofs.Ytiblkhohlfnhnaa.Le
