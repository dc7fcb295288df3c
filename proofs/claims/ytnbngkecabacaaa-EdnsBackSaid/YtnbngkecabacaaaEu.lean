/- The reference's Find. -/
import Derived.Test.YtnbngkecabacaaaEz
import Derived.WalkKit
import Derived.Below
import Derived.KernelRfl
import Derived.LoopTactic
import Derived.LoopN
import Derived.Outline
import Derived.Deep.RegionHeld3
import Derived.Lib.Hide
import Derived.Laws.Tables
import Derived.Laws.Rows
namespace Go.Proofs.Ytnbngkecabacaaa.Eu
open Go.RowKit Go.Proofs.Ytnbngkecabacaaa.Fb Go.Proofs.Ytnbngkecabacaaa.Fl Go.Proofs.Ytnbngkecabacaaa.Fr Go.Proofs.Ytnbngkecabacaaa.Ed
set_option linter.unusedVariables false
open Go.Proofs.Ytnbngkecabacaaa.Ef
open Go.Proofs.Ytnbngkecabacaaa.Eg
open Go.Proofs.Ytnbngkecabacaaa.Ev
open Go.Proofs.Ytnbngkecabacaaa.Ex
open Go.Proofs.Ytnbngkecabacaaa.Ey
open Go.Proofs.Ytnbngkecabacaaa.Ez

set_option maxHeartbeats 8000000 in
theorem rf_loop (id bits : Int) (Q A1 A2 : Option Addr) (b off : Nat) (qn qc n1 c1 n2 c2 n3 c3 : Nat) (an ns ar : List RV) (w : World) (x1 x2 x3 : Int) (d0 : decide (0 < x1) = false) (d1 : decide (0 < x2) = false) (d2 : decide (1 < x3) = false)
    (K1 : ∀ w', Below w.heap.size w w' → Calls Try.prog 24 #[.slice A1 n1 c1] w' fun e w'' => e = .returned (.int .i64 x1) ∧ w' = w'') (K2 : ∀ w', Below w.heap.size w w' → Calls Try.prog 24 #[.slice A2 n2 c2] w' fun e w'' => e = .returned (.int .i64 x2) ∧ w' = w'') (K3 : ∀ w', Below w.heap.size w w' → Calls Try.prog 24 #[.slice (some ⟨b, off, none⟩) n3 c3] w' fun e w'' => e = .returned (.int .i64 x3) ∧ w' = w'')
    (hN : Hid (n3 = ar.length)) (hn : n3 ≤ 140737488351232) (hlt : b < w.heap.size) (hrow : Hid (Row w b off ar)) (i1 : Hid (idx an < 0)) (i2 : Hid (idx ns < 0)) (i3 : Hid (¬ 1 < cnt ar)) :
    Calls Try.prog 11 #[.agg #[.int .i64 id, .int .i64 bits, .slice Q qn qc, .slice A1 n1 c1, .slice A2 n2 c2, .slice (some ⟨b, off, none⟩) n3 c3]] w fun e w' => e = .returned (.tuple #[(findS an ns ar).1.agg, .int .i64 (findS an ns ar).2]) ∧ Below w.heap.size w w' := by
  have wz : Below w.heap.size w ((w.alloc (.cells #[.int .i64 id, .int .i64 bits, .slice Q qn qc, .slice A1 n1 c1, .slice A2 n2 c2, .slice (some ⟨b, off, none⟩) n3 c3] 25)).alloc (.cells #[.bool false, .int .i64 0, .int .i64 0, .int .i64 0, .bool false] 33)) := ((Below.refl _ _).alloc (Nat.le_refl _) _).alloc (by simp) _
  have u0 : b < w.heap.size + 1 + 1 := by omega
  have u1 : w.heap.size < w.heap.size + 1 + 1 := by omega
  go_enter Try.func11, Try.ntmps11
  go_wp2_with fail
  refine (K1 _ wz).mono ?_
  rintro e w' ⟨rfl, rfl⟩
  go_wp2_with fail
  refine (K2 _ wz).mono ?_
  rintro e w' ⟨rfl, rfl⟩
  go_wp2_with fail
  refine (K3 _ wz).mono ?_
  rintro e w' ⟨rfl, rfl⟩
  clear K1 K2 K3
  go_wp2_with fail
  go_loopw [4, 5] (fun t _ wr => ∃ k : Nat, k ≤ n3 ∧ t = .int .i64 (k : Int) ∧ Hid (∀ (j : Nat) x, j < k → ar[j]? = some x → x.type ≠ 41) ∧ Below ((w.alloc (.cells #[.int .i64 id, .int .i64 bits, .slice Q qn qc, .slice A1 n1 c1, .slice A2 n2 c2, .slice (some ⟨b, off, none⟩) n3 c3] 25)).alloc (.cells #[.bool false, .int .i64 0, .int .i64 0, .int .i64 0, .bool false] 33)).heap.size ((w.alloc (.cells #[.int .i64 id, .int .i64 bits, .slice Q qn qc, .slice A1 n1 c1, .slice A2 n2 c2, .slice (some ⟨b, off, none⟩) n3 c3] 25)).alloc (.cells #[.bool false, .int .i64 0, .int .i64 0, .int .i64 0, .bool false] 33)) wr) (fun t _ _ => n3 - (intOf t).toNat)
  case atStart => exact ⟨0, Nat.zero_le _, rfl, Lib.hid (fun j x h => by omega), Below.refl _ _⟩
  case round =>
    obtain ⟨k, hk, rfl, hno, hbr⟩ := hrel
    obtain ⟨q1, f1⟩ := bcell hbr
    have hz : w.heap.size + 1 < wr.heap.size := by have := hbr.size; simp at this; omega
    have hz2 : w.heap.size < wr.heap.size := by omega
    have hz3 : b < wr.heap.size := by omega
    have hz4 : w.heap.size + 1 < wr.heap.size + 1 := by omega
    have hz5 : w.heap.size < wr.heap.size + 1 := by omega
    have hb0 : Below w.heap.size w wr := wz.trans (hbr.mono (by simp; omega))
    clear wz
    have hg : w.heap.size ≤ w.heap.size + 1 := Nat.le_succ _
    have hg := Lib.hid hg
    by_cases hlk : k < n3
    · obtain ⟨r, hr⟩ : ∃ r, ar[k]? = some r := ⟨ar[k]'(by have := hN.out; omega), List.getElem?_eq_getElem _⟩
      obtain ⟨e0, e1, e2, e3, e4⟩ := hrow.out k r hr
      have hr' := Lib.hid hr
      clear hr
      have hbn : Below w.heap.size w (wr.alloc (.cells #[.string r.name, .int .i64 r.type, .int .i64 r.cls, .int .i64 r.ttl, .string r.data] 37)) := hb0.alloc hb0.size _
      by_cases ht : r.type = 41
      · have gt : (r.type == 41) = true := by simpa using ht
        have gt2 : (r.type != 41) = false := by simpa using ht
        have HS := Lib.hid (findS_at an ns ar i1.out i2.out k r hr'.out ht hno.out (by have := i3.out; omega))
        clear ht
        by_cases hnm : (r.name.toList == [0]) = true
        · by_cases k1 : r.cls < 0
          · have HE : Hid (findS an ns ar = (zeroO, 7)) := Lib.hid (by rw [HS.out, if_neg]; unfold goodR inB; simp; omega)
            have HNM := k1
            have g0 : decide (r.cls < 0) = true := by simpa using k1
            clear HNM
            go_wp2
            exact bodyPost_ret (v := .tuple #[.agg #[.bool false, .int .i64 0, .int .i64 0, .int .i64 0, .bool false], .int .i64 7]) (by simp [results, Try.results11, go_sem, *]) rfl ⟨by rw [HE.out]; rfl, ((((((hb0.setCell hg.out _).setCell hg.out _).setCell hg.out _).setCell hg.out _).setCell hg.out _).alloc (by simp; omega) _)⟩
          · by_cases k2 : 65535 < r.cls
            · have HE : Hid (findS an ns ar = (zeroO, 7)) := Lib.hid (by rw [HS.out, if_neg]; unfold goodR inB; simp; omega)
              have HNM := k1
              have g0 : decide (r.cls < 0) = false := by simpa using k1
              have g1 : decide (65535 < r.cls) = true := by simpa using k2
              clear HNM
              go_wp2
              exact bodyPost_ret (v := .tuple #[.agg #[.bool false, .int .i64 0, .int .i64 0, .int .i64 0, .bool false], .int .i64 7]) (by simp [results, Try.results11, go_sem, *]) rfl ⟨by rw [HE.out]; rfl, ((((((hb0.setCell hg.out _).setCell hg.out _).setCell hg.out _).setCell hg.out _).setCell hg.out _).alloc (by simp; omega) _)⟩
            · by_cases k3 : r.ttl < 0
              · have HE : Hid (findS an ns ar = (zeroO, 7)) := Lib.hid (by rw [HS.out, if_neg]; unfold goodR inB; simp; omega)
                have HNM := k1
                have g0 : decide (r.cls < 0) = false := by simpa using k1
                have g1 : decide (65535 < r.cls) = false := by simpa using k2
                have g2 : decide (r.ttl < 0) = true := by simpa using k3
                clear HNM
                go_wp2
                exact bodyPost_ret (v := .tuple #[.agg #[.bool false, .int .i64 0, .int .i64 0, .int .i64 0, .bool false], .int .i64 7]) (by simp [results, Try.results11, go_sem, *]) rfl ⟨by rw [HE.out]; rfl, ((((((hb0.setCell hg.out _).setCell hg.out _).setCell hg.out _).setCell hg.out _).setCell hg.out _).alloc (by simp; omega) _)⟩
              · by_cases k4 : 4294967296 ≤ r.ttl
                · have HE : Hid (findS an ns ar = (zeroO, 7)) := Lib.hid (by rw [HS.out, if_neg]; unfold goodR inB; simp; omega)
                  have HNM := k1
                  have g0 : decide (r.cls < 0) = false := by simpa using k1
                  have g1 : decide (65535 < r.cls) = false := by simpa using k2
                  have g2 : decide (r.ttl < 0) = false := by simpa using k3
                  have g3 : decide (4294967296 ≤ r.ttl) = true := by simpa using k4
                  clear HNM
                  go_wp2
                  exact bodyPost_ret (v := .tuple #[.agg #[.bool false, .int .i64 0, .int .i64 0, .int .i64 0, .bool false], .int .i64 7]) (by simp [results, Try.results11, go_sem, *]) rfl ⟨by rw [HE.out]; rfl, ((((((hb0.setCell hg.out _).setCell hg.out _).setCell hg.out _).setCell hg.out _).setCell hg.out _).alloc (by simp; omega) _)⟩
                · have HE : Hid (findS an ns ar = (optOf r, 0)) := Lib.hid (by rw [HS.out, if_pos]; unfold goodR inB; simp at hnm ⊢; refine ⟨⟨hnm, ?_⟩, ?_⟩ <;> omega)
                  have HNM := k1
                  have t0 : 0 ≤ r.ttl := by omega
                  have t1 : r.ttl ≤ 4294967295 := by omega
                  have g0 : decide (r.cls < 0) = false := by simpa using k1
                  have g1 : decide (65535 < r.cls) = false := by simpa using k2
                  have g2 : decide (r.ttl < 0) = false := by simpa using k3
                  have g3 : decide (4294967296 ≤ r.ttl) = false := by simpa using k4
                  clear HNM
                  go_wp2
                  exact bodyPost_ret (v := .tuple #[.agg #[.bool true, .int .i64 r.cls, .int .i64 (r.ttl / 16777216), .int .i64 (r.ttl / 65536 % 256), .bool (r.ttl / 32768 % 2 == 1)], .int .i64 0]) (by simp [results, Try.results11, go_sem, *]) rfl ⟨by rw [HE.out]; rfl, ((((((hb0.setCell hg.out _).setCell hg.out _).setCell hg.out _).setCell hg.out _).setCell hg.out _).alloc (by simp; omega) _)⟩
        · have HE : Hid (findS an ns ar = (zeroO, 7)) := Lib.hid (by rw [HS.out, if_neg]; unfold goodR; simp [hnm])
          have HNM := hlk
          have gn : (r.name.toList == [0]) = false := by simpa using hnm
          clear HNM
          go_wp2
          exact bodyPost_ret (v := .tuple #[.agg #[.bool false, .int .i64 0, .int .i64 0, .int .i64 0, .bool false], .int .i64 7]) (by simp [results, Try.results11, go_sem, *]) rfl ⟨by rw [HE.out]; rfl, ((((((hb0.setCell hg.out _).setCell hg.out _).setCell hg.out _).setCell hg.out _).setCell hg.out _).alloc (by simp; omega) _)⟩
      · have gt : (r.type == 41) = false := by simpa using ht
        have gt2 : (r.type != 41) = true := by simpa using ht
        have hno' : Hid (∀ (j : Nat) x, j < k + 1 → ar[j]? = some x → x.type ≠ 41) := Lib.hid (fun j x hj hx => by
          by_cases hjk : j = k
          · subst hjk
            have := hr'.out.symm.trans hx
            injection this with this
            rw [← this]; exact ht
          · exact hno.out j x (by omega) hx)
        clear ht
        go_wp2
        go_roundw
        case rel => exact ⟨k + 1, by omega, by go_num, hno', hbr.alloc hbr.size _⟩
        case measure => simp [intOf]; omega
    · have HE : Hid (findS an ns ar = (zeroO, 0)) := Lib.hid (by
        have hi := idx_none ar (fun j r hr => hno.out j r (by
          have := (List.getElem?_eq_some_iff.1 hr).1
          have := hN.out
          omega) hr)
        unfold findS
        have := i1.out
        have := i2.out
        rw [if_neg (by omega), if_neg (by omega), hi, if_pos (by omega)])
      go_wp2
      exact bodyPost_ret (v := .tuple #[.agg #[.bool false, .int .i64 0, .int .i64 0, .int .i64 0, .bool false], .int .i64 0]) (by simp [results, Try.results11, go_sem, *]) rfl ⟨by rw [HE.out]; rfl, ((((hb0.setCell (by simp) _).setCell (by simp) _).setCell (by simp) _).setCell (by simp) _).setCell (by simp) _⟩

set_option maxHeartbeats 2000000 in
theorem rf_empty (id bits : Int) (Q A1 A2 A3 : Option Addr) (qn qc n1 c1 n2 c2 c3 : Nat) (w : World) (x1 x2 x3 : Int) (d0 : decide (0 < x1) = false) (d1 : decide (0 < x2) = false) (d2 : decide (1 < x3) = false)
    (K1 : ∀ w', Below w.heap.size w w' → Calls Try.prog 24 #[.slice A1 n1 c1] w' fun e w'' => e = .returned (.int .i64 x1) ∧ w' = w'') (K2 : ∀ w', Below w.heap.size w w' → Calls Try.prog 24 #[.slice A2 n2 c2] w' fun e w'' => e = .returned (.int .i64 x2) ∧ w' = w'') (K3 : ∀ w', Below w.heap.size w w' → Calls Try.prog 24 #[.slice A3 0 c3] w' fun e w'' => e = .returned (.int .i64 x3) ∧ w' = w'') :
    Calls Try.prog 11 #[.agg #[.int .i64 id, .int .i64 bits, .slice Q qn qc, .slice A1 n1 c1, .slice A2 n2 c2, .slice A3 0 c3]] w fun e w' => e = .returned (.tuple #[.agg #[.bool false, .int .i64 0, .int .i64 0, .int .i64 0, .bool false], .int .i64 0]) ∧ Below w.heap.size w w' := by
  have wz : Below w.heap.size w ((w.alloc (.cells #[.int .i64 id, .int .i64 bits, .slice Q qn qc, .slice A1 n1 c1, .slice A2 n2 c2, .slice A3 0 c3] 25)).alloc (.cells #[.bool false, .int .i64 0, .int .i64 0, .int .i64 0, .bool false] 33)) := ((Below.refl _ _).alloc (Nat.le_refl _) _).alloc (by simp) _
  go_enter Try.func11, Try.ntmps11
  go_wp2_with fail
  refine (K1 _ wz).mono ?_
  rintro e w' ⟨rfl, rfl⟩
  go_wp2_with fail
  refine (K2 _ wz).mono ?_
  rintro e w' ⟨rfl, rfl⟩
  go_wp2_with fail
  refine (K3 _ wz).mono ?_
  rintro e w' ⟨rfl, rfl⟩
  go_wp2_with fail
  refine wp_loop_rounds 1 ?_
  rw [rounds_succ]
  go_wp2
  exact bodyPost_ret (v := .tuple #[.agg #[.bool false, .int .i64 0, .int .i64 0, .int .i64 0, .bool false], .int .i64 0]) (by simp [results, Try.results11, go_sem, *]) rfl ⟨rfl, wz⟩

theorem rfind_any (id bits : Int) (Q A1 A2 A3 : Option Addr) (qn qc n1 c1 n2 c2 n3 c3 : Nat) (an ns ar : List RV) (w : World) (s1 : Sl w A1 n1 c1 an) (s2 : Sl w A2 n2 c2 ns) (s3 : Sl w A3 n3 c3 ar) :
    Calls Try.prog 11 #[.agg #[.int .i64 id, .int .i64 bits, .slice Q qn qc, .slice A1 n1 c1, .slice A2 n2 c2, .slice A3 n3 c3]] w fun e w' => e = .returned (.tuple #[(findS an ns ar).1.agg, .int .i64 (findS an ns ar).2]) ∧ Below w.heap.size w w' := by
  have K1 : ∀ w', Below w.heap.size w w' → Calls Try.prog 24 #[.slice A1 n1 c1] w' fun e w'' => e = .returned (.int .i64 (cnt an)) ∧ w' = w'' := fun w' hb => count_any (s1.below hb)
  have K2 : ∀ w', Below w.heap.size w w' → Calls Try.prog 24 #[.slice A2 n2 c2] w' fun e w'' => e = .returned (.int .i64 (cnt ns)) ∧ w' = w'' := fun w' hb => count_any (s2.below hb)
  have K3 : ∀ w', Below w.heap.size w w' → Calls Try.prog 24 #[.slice A3 n3 c3] w' fun e w'' => e = .returned (.int .i64 (cnt ar)) ∧ w' = w'' := fun w' hb => count_any (s3.below hb)
  have a1 := cnt_idx an
  have a2 := cnt_idx ns
  have a3 := cnt_idx ar
  by_cases h1 : 0 < cnt an
  · have e : findS an ns ar = (zeroO, 7) := by unfold findS; rw [if_pos (by omega)]
    rw [e]; exact rf_an id bits Q A1 A2 A3 qn qc n1 c1 n2 c2 n3 c3 w _ _ _ (by simpa using h1) K1 K2 K3
  · by_cases h2 : 0 < cnt ns
    · have e : findS an ns ar = (zeroO, 7) := by unfold findS; rw [if_neg (by omega), if_pos (by omega)]
      rw [e]; exact rf_ns id bits Q A1 A2 A3 qn qc n1 c1 n2 c2 n3 c3 w _ _ _ (by simpa using h1) (by simpa using h2) K1 K2 K3
    · by_cases h3 : 1 < cnt ar
      · rw [findS_more an ns ar (by omega) (by omega) h3]
        exact rf_ar id bits Q A1 A2 A3 qn qc n1 c1 n2 c2 n3 c3 w _ _ _ (by simpa using h1) (by simpa using h2) (by simpa using h3) K1 K2 K3
      · have hb := s3.2.2.1
        have hl := s3.1
        rcases s3.2.2.2 with rfl | ⟨b, off, rfl, hlt, hr⟩
        · have er : ar = [] := List.eq_nil_of_length_eq_zero hl.symm
          subst er
          have e : findS an ns [] = (zeroO, 0) := by unfold findS; rw [if_neg (by omega), if_neg (by omega)]; rfl
          rw [e]
          exact rf_empty id bits Q A1 A2 A3 qn qc n1 c1 n2 c2 c3 w _ _ _ (by simpa using h1) (by simpa using h2) (by simpa using h3) K1 K2 K3
        · exact rf_loop id bits Q A1 A2 b off qn qc n1 c1 n2 c2 n3 c3 an ns ar w _ _ _ (by simpa using h1) (by simpa using h2) (by simpa using h3) K1 K2 K3 (Lib.hid hl) (by omega) hlt (Lib.hid hr) (Lib.hid (by omega)) (Lib.hid (by omega)) (Lib.hid h3)

end Go.Proofs.Ytnbngkecabacaaa.Eu
