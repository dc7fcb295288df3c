/- How many OPT records there are, and the reference's Find. -/
import Derived.Test.YtnbngkecabacaaaEy
import Derived.WalkKit
import Derived.Below
import Derived.KernelRfl
import Derived.LoopTactic
import Derived.LoopN
import Derived.Outline
import Derived.Deep.RegionHeld3
import Derived.Lib.Hide
import Derived.Laws.Tables
import Derived.Laws.Rows
namespace Go.Proofs.Ytnbngkecabacaaa.Ez
open Go.RowKit Go.Proofs.Ytnbngkecabacaaa.Fb Go.Proofs.Ytnbngkecabacaaa.Fl Go.Proofs.Ytnbngkecabacaaa.Fr Go.Proofs.Ytnbngkecabacaaa.Ed
set_option linter.unusedVariables false
open Go.Proofs.Ytnbngkecabacaaa.Ef
open Go.Proofs.Ytnbngkecabacaaa.Eg
open Go.Proofs.Ytnbngkecabacaaa.Ev
open Go.Proofs.Ytnbngkecabacaaa.Ex
open Go.Proofs.Ytnbngkecabacaaa.Ey

/-- How many OPT records there are. -/
def cnt : List RV → Int
  | [] => 0
  | r :: l => (if r.type = 41 then 1 else 0) + cnt l
theorem cnt_bd : ∀ l, 0 ≤ cnt l ∧ cnt l ≤ l.length
  | [] => by simp [cnt]
  | r :: l => by have := cnt_bd l; simp only [cnt, List.length_cons]; split <;> omega
theorem cnt_append : ∀ a b, cnt (a ++ b) = cnt a + cnt b
  | [], b => by simp [cnt]
  | r :: l, b => by simp only [List.cons_append, cnt, cnt_append l b]; omega
theorem cnt_take (l : List RV) (k : Nat) (r : RV) (h : l[k]? = some r) : cnt (l.take (k + 1)) = cnt (l.take k) + (if r.type = 41 then 1 else 0) := by
  have hk : k < l.length := (List.getElem?_eq_some_iff.1 h).1
  have he : l[k] = r := (List.getElem?_eq_some_iff.1 h).2
  rw [List.take_succ_eq_append_getElem hk, cnt_append, he]; simp [cnt]
theorem cnt_idx : ∀ l, (0 < cnt l ↔ 0 ≤ idx l)
  | [] => by simp [cnt, idx]
  | r :: l => by
    have h := cnt_idx l
    have b := cnt_bd l
    have g := idx_ge l
    simp only [cnt, idx]
    by_cases ht : r.type = 41
    · rw [if_pos ht, if_pos ht]; omega
    · rw [if_neg ht, if_neg ht]
      by_cases h1 : idx l < 0
      · rw [if_pos h1]; omega
      · rw [if_neg h1]; omega
theorem cnt_two (l : List RV) (k : Nat) (r : RV) (h : l[k]? = some r) (ht : r.type = 41) : 0 < cnt (l.drop (k + 1)) → 1 < cnt l := by
  intro hd
  have e : l = l.take (k + 1) ++ l.drop (k + 1) := (List.take_append_drop _ _).symm
  have e2 : cnt l = cnt (l.take (k + 1)) + cnt (l.drop (k + 1)) := by rw [← cnt_append, ← e]
  have e3 := cnt_take l k r h
  rw [if_pos ht] at e3
  have := cnt_bd (l.take k)
  omega

set_option maxHeartbeats 1000000 in
theorem count_some (b off n c : Nat) (rs : List RV) (hN : n = rs.length) (hn : n ≤ 140737488351232) (w : World) (hlt : b < w.heap.size) (hrow : Row w b off rs) :
    Calls Try.prog 24 #[.slice (some ⟨b, off, none⟩) n c] w fun e w' => e = .returned (.int .i64 (cnt rs)) ∧ w = w' := by
  have HN := Lib.hid hN
  clear hN
  have HR := Lib.hid hrow
  clear hrow
  go_enter Try.func24, Try.ntmps24
  go_wp2
  go_loop [3, 4] (fun s t => ∃ k : Nat, k ≤ n ∧ t = .int .i64 (k : Int) ∧ s = .int .i64 (cnt (rs.take k))) (fun _ t => n - (intOf t).toNat)
  case atStart => exact ⟨0, Nat.zero_le _, rfl, rfl⟩
  case round =>
    obtain ⟨k, hk, rfl, rfl⟩ := hrel
    by_cases hlk : k < n
    · obtain ⟨r, hr⟩ : ∃ r, rs[k]? = some r := ⟨rs[k]'(by have := HN.out; omega), List.getElem?_eq_getElem _⟩
      obtain ⟨c0, c1, c2, c3, c4⟩ := HR.out k r hr
      have hs := Lib.hid (cnt_take rs k r hr)
      have bd := (cnt_bd (rs.take k)).1
      have bd2 : cnt (rs.take k) ≤ k := by
        have := (cnt_bd (rs.take k)).2
        have : (rs.take k).length ≤ k := List.length_take_le _ _
        omega
      clear hr
      generalize cnt (rs.take k) = s at *
      by_cases ht : r.type = 41
      · have d1 : (r.type == 41) = true := by simpa using ht
        have hs := Lib.hid (hs.out.trans (by rw [if_pos ht]))
        clear ht
        go_wp2
        go_round
        case rel => exact ⟨k + 1, by omega, by go_num, by rw [hs.out]⟩
        case measure => simp [intOf]; omega
      · have d1 : (r.type == 41) = false := by simpa using ht
        have hs := Lib.hid (hs.out.trans (by rw [if_neg ht]))
        clear ht
        go_wp2
        go_round
        case rel => exact ⟨k + 1, by omega, by go_num, by rw [hs.out]; simp⟩
        case measure => simp [intOf]; omega
    · obtain rfl : k = n := by omega
      have e := Lib.hid (show cnt (rs.take k) = cnt rs by rw [List.take_of_length_le (by have := HN.out; omega)])
      generalize cnt (rs.take k) = s at *
      go_wp2
      go_ret
      exact ⟨congrArg (fun n => Ending.returned (.int .i64 n)) e.out, rfl⟩
theorem count_nil (A : Option Addr) (c : Nat) (w : World) : Calls Try.prog 24 #[.slice A 0 c] w fun e w' => e = .returned (.int .i64 0) ∧ w = w' := by
  go_enter Try.func24, Try.ntmps24
  go_wp2
  refine wp_loop_rounds 1 ?_
  rw [rounds_succ]
  go_wp2
  go_ret
  exact ⟨rfl, rfl⟩
theorem count_any {A : Option Addr} {n c : Nat} {rs : List RV} {w : World} (h : Sl w A n c rs) : Calls Try.prog 24 #[.slice A n c] w fun e w' => e = .returned (.int .i64 (cnt rs)) ∧ w = w' := by
  obtain ⟨h1, h2, h3, h4⟩ := h
  rcases h4 with rfl | ⟨b, off, rfl, hlt, hr⟩
  · have e : rs = [] := List.eq_nil_of_length_eq_zero h1.symm
    subst e
    exact count_nil A c w
  · exact count_some b off n c rs h1 (by omega) w hlt hr

theorem idx_le : ∀ (l : List RV) (k : Nat) (r : RV), l[k]? = some r → r.type = 41 → idx l ≤ k
  | [], k, r, h, _ => by simp at h
  | x :: l, 0, r, h, ht => by
    simp at h; subst h
    simp [idx, ht]
  | x :: l, k + 1, r, h, ht => by
    have := idx_le l k r (by simpa using h) ht
    simp only [idx]
    (repeat' split) <;> omega
theorem findS_at (an ns ar : List RV) (h1 : idx an < 0) (h2 : idx ns < 0) (k : Nat) (r : RV) (hr : ar[k]? = some r) (ht : r.type = 41) (hno : ∀ (j : Nat) x, j < k → ar[j]? = some x → x.type ≠ 41) (h3 : ¬ 1 < cnt ar) :
    findS an ns ar = if goodR r = true then (optOf r, 0) else (zeroO, 7) := by
  have hi := idx_at ar k r hr ht hno
  have hd : idx (ar.drop (k + 1)) < 0 := by
    rcases Int.lt_or_le (idx (ar.drop (k + 1))) 0 with h | h
    · exact h
    · exact absurd (cnt_two ar k r hr ht ((cnt_idx _).2 h)) h3
  unfold findS
  rw [if_neg (by omega), if_neg (by omega), hi, if_neg (by omega), Int.toNat_natCast, hr]
  unfold pick
  simp [hd]
theorem findS_more (an ns ar : List RV) (h1 : idx an < 0) (h2 : idx ns < 0) (h3 : 1 < cnt ar) : findS an ns ar = (zeroO, 7) := by
  have h0 : 0 ≤ idx ar := (cnt_idx ar).1 (by omega)
  obtain ⟨r, hr, ht⟩ := idx_get ar h0
  have hd : 0 ≤ idx (ar.drop ((idx ar).toNat + 1)) := by
    apply (cnt_idx _).1
    have e : ar = ar.take ((idx ar).toNat + 1) ++ ar.drop ((idx ar).toNat + 1) := (List.take_append_drop _ _).symm
    have e2 : cnt ar = cnt (ar.take ((idx ar).toNat + 1)) + cnt (ar.drop ((idx ar).toNat + 1)) := by rw [← cnt_append, ← e]
    have e3 := cnt_take ar (idx ar).toNat r hr
    rw [if_pos ht] at e3
    have e4 : cnt (ar.take (idx ar).toNat) = 0 := by
      have hb := cnt_bd (ar.take (idx ar).toNat)
      rcases Int.lt_or_le 0 (cnt (ar.take (idx ar).toNat)) with h | h
      · exfalso
        have h5 : 0 ≤ idx (ar.take (idx ar).toNat) := (cnt_idx _).1 h
        obtain ⟨x, hx, hxt⟩ := idx_get _ h5
        have hlt := (List.getElem?_eq_some_iff.1 hx).1
        have hl2 : (ar.take (idx ar).toNat).length ≤ (idx ar).toNat := List.length_take_le _ _
        rw [List.getElem?_take_of_lt (by omega)] at hx
        have := idx_le ar _ x hx hxt
        omega
      · omega
    omega
  unfold findS
  rw [if_neg (by omega), if_neg (by omega), if_neg (by omega), hr]
  unfold pick
  have hnd : ¬ idx (ar.drop ((idx ar).toNat + 1)) < 0 := by omega
  simp [hnd]

set_option maxHeartbeats 1000000 in
theorem rf_an (id bits : Int) (Q A1 A2 A3 : Option Addr) (qn qc n1 c1 n2 c2 n3 c3 : Nat) (w : World) (x1 x2 x3 : Int) (d0 : decide (0 < x1) = true) (K1 : ∀ w', Below w.heap.size w w' → Calls Try.prog 24 #[.slice A1 n1 c1] w' fun e w'' => e = .returned (.int .i64 x1) ∧ w' = w'') (K2 : ∀ w', Below w.heap.size w w' → Calls Try.prog 24 #[.slice A2 n2 c2] w' fun e w'' => e = .returned (.int .i64 x2) ∧ w' = w'') (K3 : ∀ w', Below w.heap.size w w' → Calls Try.prog 24 #[.slice A3 n3 c3] w' fun e w'' => e = .returned (.int .i64 x3) ∧ w' = w'') :
    Calls Try.prog 11 #[.agg #[.int .i64 id, .int .i64 bits, .slice Q qn qc, .slice A1 n1 c1, .slice A2 n2 c2, .slice A3 n3 c3]] w fun e w' => e = .returned (.tuple #[.agg #[.bool false, .int .i64 0, .int .i64 0, .int .i64 0, .bool false], .int .i64 7]) ∧ Below w.heap.size w w' := by
  have wz : Below w.heap.size w ((w.alloc (.cells #[.int .i64 id, .int .i64 bits, .slice Q qn qc, .slice A1 n1 c1, .slice A2 n2 c2, .slice A3 n3 c3] 25)).alloc (.cells #[.bool false, .int .i64 0, .int .i64 0, .int .i64 0, .bool false] 33)) := ((Below.refl _ _).alloc (Nat.le_refl _) _).alloc (by simp) _
  go_enter Try.func11, Try.ntmps11
  go_wp2_with fail
  refine (K1 _ wz).mono ?_
  rintro e w' ⟨rfl, rfl⟩
  go_wp2_with fail
  exact bodyPost_ret (v := .tuple #[.agg #[.bool false, .int .i64 0, .int .i64 0, .int .i64 0, .bool false], .int .i64 7]) (by simp [results, Try.results11, go_sem, *]) rfl ⟨rfl, wz⟩

set_option maxHeartbeats 1000000 in
theorem rf_ns (id bits : Int) (Q A1 A2 A3 : Option Addr) (qn qc n1 c1 n2 c2 n3 c3 : Nat) (w : World) (x1 x2 x3 : Int) (d0 : decide (0 < x1) = false) (d1 : decide (0 < x2) = true) (K1 : ∀ w', Below w.heap.size w w' → Calls Try.prog 24 #[.slice A1 n1 c1] w' fun e w'' => e = .returned (.int .i64 x1) ∧ w' = w'') (K2 : ∀ w', Below w.heap.size w w' → Calls Try.prog 24 #[.slice A2 n2 c2] w' fun e w'' => e = .returned (.int .i64 x2) ∧ w' = w'') (K3 : ∀ w', Below w.heap.size w w' → Calls Try.prog 24 #[.slice A3 n3 c3] w' fun e w'' => e = .returned (.int .i64 x3) ∧ w' = w'') :
    Calls Try.prog 11 #[.agg #[.int .i64 id, .int .i64 bits, .slice Q qn qc, .slice A1 n1 c1, .slice A2 n2 c2, .slice A3 n3 c3]] w fun e w' => e = .returned (.tuple #[.agg #[.bool false, .int .i64 0, .int .i64 0, .int .i64 0, .bool false], .int .i64 7]) ∧ Below w.heap.size w w' := by
  have wz : Below w.heap.size w ((w.alloc (.cells #[.int .i64 id, .int .i64 bits, .slice Q qn qc, .slice A1 n1 c1, .slice A2 n2 c2, .slice A3 n3 c3] 25)).alloc (.cells #[.bool false, .int .i64 0, .int .i64 0, .int .i64 0, .bool false] 33)) := ((Below.refl _ _).alloc (Nat.le_refl _) _).alloc (by simp) _
  go_enter Try.func11, Try.ntmps11
  go_wp2_with fail
  refine (K1 _ wz).mono ?_
  rintro e w' ⟨rfl, rfl⟩
  go_wp2_with fail
  refine (K2 _ wz).mono ?_
  rintro e w' ⟨rfl, rfl⟩
  go_wp2_with fail
  exact bodyPost_ret (v := .tuple #[.agg #[.bool false, .int .i64 0, .int .i64 0, .int .i64 0, .bool false], .int .i64 7]) (by simp [results, Try.results11, go_sem, *]) rfl ⟨rfl, wz⟩

set_option maxHeartbeats 1000000 in
theorem rf_ar (id bits : Int) (Q A1 A2 A3 : Option Addr) (qn qc n1 c1 n2 c2 n3 c3 : Nat) (w : World) (x1 x2 x3 : Int) (d0 : decide (0 < x1) = false) (d1 : decide (0 < x2) = false) (d2 : decide (1 < x3) = true) (K1 : ∀ w', Below w.heap.size w w' → Calls Try.prog 24 #[.slice A1 n1 c1] w' fun e w'' => e = .returned (.int .i64 x1) ∧ w' = w'') (K2 : ∀ w', Below w.heap.size w w' → Calls Try.prog 24 #[.slice A2 n2 c2] w' fun e w'' => e = .returned (.int .i64 x2) ∧ w' = w'') (K3 : ∀ w', Below w.heap.size w w' → Calls Try.prog 24 #[.slice A3 n3 c3] w' fun e w'' => e = .returned (.int .i64 x3) ∧ w' = w'') :
    Calls Try.prog 11 #[.agg #[.int .i64 id, .int .i64 bits, .slice Q qn qc, .slice A1 n1 c1, .slice A2 n2 c2, .slice A3 n3 c3]] w fun e w' => e = .returned (.tuple #[.agg #[.bool false, .int .i64 0, .int .i64 0, .int .i64 0, .bool false], .int .i64 7]) ∧ Below w.heap.size w w' := by
  have wz : Below w.heap.size w ((w.alloc (.cells #[.int .i64 id, .int .i64 bits, .slice Q qn qc, .slice A1 n1 c1, .slice A2 n2 c2, .slice A3 n3 c3] 25)).alloc (.cells #[.bool false, .int .i64 0, .int .i64 0, .int .i64 0, .bool false] 33)) := ((Below.refl _ _).alloc (Nat.le_refl _) _).alloc (by simp) _
  go_enter Try.func11, Try.ntmps11
  go_wp2_with fail
  refine (K1 _ wz).mono ?_
  rintro e w' ⟨rfl, rfl⟩
  go_wp2_with fail
  refine (K2 _ wz).mono ?_
  rintro e w' ⟨rfl, rfl⟩
  go_wp2_with fail
  refine (K3 _ wz).mono ?_
  rintro e w' ⟨rfl, rfl⟩
  go_wp2_with fail
  exact bodyPost_ret (v := .tuple #[.agg #[.bool false, .int .i64 0, .int .i64 0, .int .i64 0, .bool false], .int .i64 7]) (by simp [results, Try.results11, go_sem, *]) rfl ⟨rfl, wz⟩

end Go.Proofs.Ytnbngkecabacaaa.Ez
