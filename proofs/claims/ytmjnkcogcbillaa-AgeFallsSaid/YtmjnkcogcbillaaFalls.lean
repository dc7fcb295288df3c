/- What lives so long from now on has so long left, seven days at most; a second later it has a second less, or, if it had more than seven days, seven yet; when none is left it does not live: the law's function tells true at every three whole numbers; no condition. -/
import Derived.Test.YtmjnkcogcbillaaRows
import Derived.Test.YtmjnkcogcbillaaPAgeFallsx1
import Derived.WalkKit
import Derived.ProofKit
import Derived.OpenShut
import Derived.ShutString
import Derived.ChangeOld
import Derived.Below
import Derived.SizedLaws
namespace Go.Proofs.Ytmjnkcogcbillaa.Falls
open Go.ChangeShapes Go.WideShapes Go.ChangeAt Go.RowKit Go.Proofs.Ytmjnkcogcbillaa.PAgeFalls Go.Proofs.YtmjnkcogcbillaaW.PrintWords Go.Proofs.YtmjnkcogcbillaaW.PrintMore
set_option linter.unusedVariables false
set_option linter.unusedSimpArgs false

theorem wf_i64 {a : Int} (h : (Lit.int .i64 a).wf = true) : -9223372036854775808 ≤ a ∧ a ≤ 9223372036854775807 := by
  simp [Lit.wf] at h
  exact h

theorem within_eq (a b : Int) : age_within_int.f a b = some (decide (0 ≤ a ∧ a ≤ b)) := by
  unfold age_within_int.f
  by_cases h : a ≥ 0
  · rw [if_pos h]; congr 1; exact decide_eq_decide.2 (by omega)
  · rw [if_neg h]; congr 1; exact (decide_eq_false (by omega)).symm

theorem until_no (a b : Int) (h : ¬(0 ≤ a ∧ a ≤ 1099511627776 ∧ 0 ≤ b)) : age_Until.f a b = some (-1) := by
  unfold age_Until.f
  rw [within_eq]; simp only [Option.bind_some, decide_eq_true_eq]
  by_cases h1 : 0 ≤ a ∧ a ≤ 1099511627776
  · rw [if_pos h1, if_pos (by omega)]
  · rw [if_neg h1]

theorem until_yes (a b : Int) (h0 : 0 ≤ a) (h1 : a ≤ 1099511627776) (h2 : 0 ≤ b) : age_Until.f a b = some (a + mn b 604800) := by
  unfold age_Until.f
  rw [within_eq]; simp only [Option.bind_some, decide_eq_true_eq]
  rw [if_pos ⟨h0, h1⟩, if_neg (by omega)]
  congr 1
  unfold wrap64 mn
  split <;> omega

theorem live_eq (a b : Int) : age_Live.f a b = some (decide (0 ≤ a ∧ a ≤ 1099511627776 ∧ a < b)) := by
  unfold age_Live.f
  rw [within_eq]; simp only [Option.bind_some, decide_eq_true_eq]
  by_cases h1 : 0 ≤ a ∧ a ≤ 1099511627776
  · rw [if_pos h1]; congr 1; exact decide_eq_decide.2 (by omega)
  · rw [if_neg h1]; congr 1; exact (decide_eq_false (by omega)).symm

theorem left_no (a b : Int) (h : ¬(0 ≤ a ∧ a ≤ 1099511627776 ∧ a < b)) : age_Left.f a b = some 0 := by
  unfold age_Left.f
  rw [live_eq]; simp only [Option.bind_some, decide_eq_true_eq]
  rw [if_neg h]

theorem left_yes (a b : Int) (h0 : 0 ≤ a) (h1 : a ≤ 1099511627776) (h2 : a < b) (hb : b ≤ 9223372036854775807) : age_Left.f a b = some (mn (b - a) 604800) := by
  unfold age_Left.f
  rw [live_eq]; simp only [Option.bind_some, decide_eq_true_eq]
  rw [if_pos ⟨h0, h1, h2⟩]
  congr 1
  have : wrap64 (b - a) = b - a := by unfold wrap64; omega
  rw [this]

theorem due_no (a b : Int) (h : ¬(0 ≤ a ∧ a ≤ 1099511627776 ∧ 0 ≤ b ∧ a + b ≤ 1099511627776)) : age_Due.f a b = some (0, false) := by
  unfold age_Due.f
  rw [within_eq]; simp only [Option.bind_some, decide_eq_true_eq]
  by_cases h1 : 0 ≤ a ∧ a ≤ 1099511627776
  · have e : wrap64 (1099511627776 - a) = 1099511627776 - a := by unfold wrap64; omega
    rw [if_pos h1, e, within_eq]; simp only [Option.bind_some, decide_eq_true_eq]
    rw [if_neg (by omega)]
  · rw [if_neg h1]

theorem due_yes (a b : Int) (h0 : 0 ≤ a) (h1 : a ≤ 1099511627776) (h2 : 0 ≤ b) (h3 : a + b ≤ 1099511627776) : age_Due.f a b = some (a + b, true) := by
  unfold age_Due.f
  rw [within_eq]; simp only [Option.bind_some, decide_eq_true_eq]
  have e : wrap64 (1099511627776 - a) = 1099511627776 - a := by unfold wrap64; omega
  rw [if_pos ⟨h0, h1⟩, e, within_eq]; simp only [Option.bind_some, decide_eq_true_eq]
  rw [if_pos (by omega)]
  have e2 : wrap64 (a + b) = a + b := by unfold wrap64; omega
  rw [e2]

theorem live_true : wellspringlaw12_live.f = some true := by decide +kernel
theorem left_pair (a b : Int) (h0 : 0 ≤ a) (h1 : a < 1099511627776) (b1 : b ≤ 9223372036854775807) :
    ∃ l m : Int, age_Left.f a b = some l ∧ age_Left.f (a + 1) b = some m ∧ 0 ≤ l ∧ l ≤ 604800 ∧ m ≤ l ∧ (l = 0 ↔ ¬ a < b) ∧ (m = l - 1 ∨ (m = l ∧ (l = 0 ∨ l = 604800))) := by
  by_cases c : a < b
  · have e1 := left_yes a b h0 (by omega) c b1
    by_cases c2 : a + 1 < b
    · have e2 := left_yes (a + 1) b (by omega) (by omega) c2 b1
      refine ⟨_, _, e1, e2, ?_⟩
      unfold mn
      (repeat' split) <;> omega
    · have e2 := left_no (a + 1) b (by omega)
      refine ⟨_, _, e1, e2, ?_⟩
      unfold mn
      (repeat' split) <;> omega
  · have e1 := left_no a b (by omega)
    have e2 := left_no (a + 1) b (by omega)
    exact ⟨_, _, e1, e2, by omega⟩


theorem step (a b c : World) (h : Below a.heap.size a b) (k : Below b.heap.size b c) : Below a.heap.size a c := h.trans (k.mono h.size)

/-- The last part's facts on what is left now (l) and a second later (m). -/
theorem last (n u : Int) (h0 : 0 ≤ n) (h1 : n < 1099511627776) (u1 : u ≤ 9223372036854775807) :
    ∃ (l m : Int) (b : Bool), age_Left.f n u = some l ∧ age_Left.f (n + 1) u = some m ∧ age_Live.f n u = some b ∧ 0 ≤ l ∧ l ≤ 604800 ∧ m ≤ l ∧ ((l == 0) == b) = false ∧ (m = l - 1 ∨ (m = l ∧ (l = 0 ∨ l = 604800))) := by
  obtain ⟨l, m, e1, e2, p0, p1, p2, p3, p4⟩ := left_pair n u h0 h1 u1
  refine ⟨l, m, _, e1, e2, live_eq n u, p0, p1, p2, ?_, p4⟩
  by_cases c : n < u
  · have : ¬ l = 0 := fun h => (p3.1 h) c
    have h2 : decide (0 ≤ n ∧ n ≤ 1099511627776 ∧ n < u) = true := by simp; omega
    rw [h2]; simp [this]
  · have : l = 0 := p3.2 c
    have h2 : decide (0 ≤ n ∧ n ≤ 1099511627776 ∧ n < u) = false := by simp; omega
    rw [h2]; simp [this]

set_option maxHeartbeats 400000 in
theorem neg (n t u : Int) (w : World) (c : n < 0) :
    Calls Try.prog 4 #[.int .i64 n, .int .i64 t, .int .i64 u] w fun e w' => e = .returned (.bool true) ∧ Below w.heap.size w w' := by
  have H1 := fun w => age_Until.calls n t (-1) w (until_no n t (by omega))
  have f0 : decide (0 ≤ n) = false := by simp; omega
  have f1 : decide (n < 0) = true := by simp; omega
  clear c
  go_enter Try.func4, Try.ntmps4
  go_wp2_with fail
  refine (H1 _).mono ?_
  rintro e w1 ⟨rfl, hb1⟩
  go_wp2_with fail
  refine (wellspringlaw12_live.calls true _ (by decide +kernel)).mono ?_
  rintro e w2 ⟨rfl, hb2⟩
  go_wp2_with fail
  go_ret
  exact ⟨rfl, (step _ _ _ hb1 hb2)⟩

set_option maxHeartbeats 400000 in
theorem big (n t u : Int) (w : World) (c : 1099511627776 < n) :
    Calls Try.prog 4 #[.int .i64 n, .int .i64 t, .int .i64 u] w fun e w' => e = .returned (.bool true) ∧ Below w.heap.size w w' := by
  have H1 := fun w => age_Until.calls n t (-1) w (until_no n t (by omega))
  have f0 : decide (0 ≤ n) = true := by simp; omega
  have f1 : decide (n ≤ 1099511627776) = false := by simp; omega
  have f2 : decide (n < 0) = false := by simp; omega
  have f3 : decide (1099511627776 ≤ n) = true := by simp; omega
  clear c
  go_enter Try.func4, Try.ntmps4
  go_wp2_with fail
  refine (H1 _).mono ?_
  rintro e w1 ⟨rfl, hb1⟩
  go_wp2_with fail
  refine (wellspringlaw12_live.calls true _ (by decide +kernel)).mono ?_
  rintro e w2 ⟨rfl, hb2⟩
  go_wp2_with fail
  go_ret
  exact ⟨rfl, (step _ _ _ hb1 hb2)⟩

set_option maxHeartbeats 400000 in
theorem edge_no (n t u : Int) (w : World) (c : n = 1099511627776) (ct : t < 0) :
    Calls Try.prog 4 #[.int .i64 n, .int .i64 t, .int .i64 u] w fun e w' => e = .returned (.bool true) ∧ Below w.heap.size w w' := by
  have H1 := fun w => age_Until.calls n t (-1) w (until_no n t (by omega))
  have f0 : decide (0 ≤ n) = true := by simp; omega
  have f1 : decide (n ≤ 1099511627776) = true := by simp; omega
  have f2 : decide (0 ≤ t) = false := by simp; omega
  have f3 : decide (n < 0) = false := by simp; omega
  have f4 : decide (1099511627776 ≤ n) = true := by simp; omega
  clear c ct
  go_enter Try.func4, Try.ntmps4
  go_wp2_with fail
  refine (H1 _).mono ?_
  rintro e w1 ⟨rfl, hb1⟩
  go_wp2_with fail
  refine (wellspringlaw12_live.calls true _ (by decide +kernel)).mono ?_
  rintro e w2 ⟨rfl, hb2⟩
  go_wp2_with fail
  go_ret
  exact ⟨rfl, (step _ _ _ hb1 hb2)⟩

set_option maxHeartbeats 400000 in
theorem edge_big (n t u : Int) (w : World) (c : n = 1099511627776) (c2 : 604800 < t) :
    Calls Try.prog 4 #[.int .i64 n, .int .i64 t, .int .i64 u] w fun e w' => e = .returned (.bool true) ∧ Below w.heap.size w w' := by
  have c0 : 0 ≤ n := by omega
  have c1 : n ≤ 1099511627776 := by omega
  have hu : age_Until.f n t = some (n + 604800) := by rw [until_yes n t c0 c1 (by omega)]; unfold mn; rw [if_pos (by omega)]
  have hl : age_Left.f n (n + 604800) = some 604800 := by rw [left_yes n _ c0 c1 (by omega) (by omega)]; unfold mn; rw [if_neg (by omega)]; congr 1; omega
  have hv : age_Live.f n (n + 604800) = some true := by rw [live_eq]; congr 1; simp; omega
  have f0 : decide (604800 < t) = true := by simp; omega
  have f1 : decide (0 ≤ n) = true := by simp; omega
  have f2 : decide (n ≤ 1099511627776) = true := by simp; omega
  have f3 : decide (0 ≤ t) = true := by simp; omega
  have f4 : decide (n < 0) = false := by simp; omega
  have f5 : decide (1099511627776 ≤ n) = true := by simp; omega
  have H1 := fun w => age_Until.calls n t _ w hu
  have H3 := fun w => age_Left.calls n _ _ w hl
  have H4 := fun w => age_Live.calls n _ _ w hv
  clear hu hl hv c c2
  go_enter Try.func4, Try.ntmps4
  go_wp2_with fail
  refine (H1 _).mono ?_
  rintro e w1 ⟨rfl, hb1⟩
  go_wp2_with fail
  refine (H3 _).mono ?_
  rintro e w2 ⟨rfl, hb2⟩
  go_wp2_with fail
  refine (H4 _).mono ?_
  rintro e w3 ⟨rfl, hb3⟩
  go_wp2_with fail
  refine (wellspringlaw12_live.calls true _ (by decide +kernel)).mono ?_
  rintro e w4 ⟨rfl, hb4⟩
  go_wp2_with fail
  go_ret
  exact ⟨rfl, (step _ _ _ (step _ _ _ (step _ _ _ hb1 hb2) hb3.below) hb4)⟩

set_option maxHeartbeats 400000 in
theorem edge_small (n t u : Int) (w : World) (c : n = 1099511627776) (c2 : 0 ≤ t ∧ t ≤ 604800) :
    Calls Try.prog 4 #[.int .i64 n, .int .i64 t, .int .i64 u] w fun e w' => e = .returned (.bool true) ∧ Below w.heap.size w w' := by
  have c0 : 0 ≤ n := by omega
  have c1 : n ≤ 1099511627776 := by omega
  have hu : age_Until.f n t = some (n + t) := by rw [until_yes n t c0 c1 (by omega)]; unfold mn; rw [if_neg (by omega)]
  have hl : age_Left.f n (n + t) = some t := by
    by_cases ct : 0 < t
    · rw [left_yes n _ c0 c1 (by omega) (by omega)]; unfold mn; rw [if_neg (by omega)]; congr 1; omega
    · rw [left_no n _ (by omega)]; congr 1; omega
  have hv : age_Live.f n (n + t) = some (decide (0 < t)) := by rw [live_eq]; congr 1; exact decide_eq_decide.2 (by omega)
  have f0 : decide (604800 < t) = false := by simp; omega
  have f1 : decide (0 ≤ n) = true := by simp; omega
  have f2 : decide (n ≤ 1099511627776) = true := by simp; omega
  have f3 : decide (0 ≤ t) = true := by simp; omega
  have f4 : decide (n < 0) = false := by simp; omega
  have f5 : decide (1099511627776 ≤ n) = true := by simp; omega
  have H1 := fun w => age_Until.calls n t _ w hu
  have H3 := fun w => age_Left.calls n _ _ w hl
  have H4 := fun w => age_Live.calls n _ _ w hv
  clear hu hl hv c c2
  go_enter Try.func4, Try.ntmps4
  go_wp2_with fail
  refine (H1 _).mono ?_
  rintro e w1 ⟨rfl, hb1⟩
  go_wp2_with fail
  refine (H3 _).mono ?_
  rintro e w2 ⟨rfl, hb2⟩
  go_wp2_with fail
  refine (H4 _).mono ?_
  rintro e w3 ⟨rfl, hb3⟩
  go_wp2_with fail
  refine (wellspringlaw12_live.calls true _ (by decide +kernel)).mono ?_
  rintro e w4 ⟨rfl, hb4⟩
  go_wp2_with fail
  go_ret
  exact ⟨rfl, (step _ _ _ (step _ _ _ (step _ _ _ hb1 hb2) hb3.below) hb4)⟩

set_option maxHeartbeats 400000 in
theorem rest_no_0 (n t u : Int) (w : World) (c0 : 0 ≤ n) (cn : n < 1099511627776) (c2 : t < 0) (l m : Int) (b : Bool) (e1 : age_Left.f n u = some l) (e2 : age_Left.f (n + 1) u = some m) (e3 : age_Live.f n u = some b) (p0 : 0 ≤ l) (p1 : l ≤ 604800) (p2 : m ≤ l) (p3 : ((l == 0) == b) = false) (p4 : m = l - 1) :
    Calls Try.prog 4 #[.int .i64 n, .int .i64 t, .int .i64 u] w fun e w' => e = .returned (.bool true) ∧ Below w.heap.size w w' := by
  have c1 : n ≤ 1099511627776 := by omega
  have H1 := fun w => age_Until.calls n t (-1) w (until_no n t (by omega))
  have H5 := fun w => age_Left.calls n _ _ w e1
  have H6 := fun w => age_Left.calls (n + 1) _ _ w e2
  have H7 := fun w => age_Live.calls n _ _ w e3
  have f0 : decide (0 ≤ n) = true := by simp; omega
  have f1 : decide (n ≤ 1099511627776) = true := by simp; omega
  have f2 : decide (0 ≤ t) = false := by simp; omega
  have f3 : decide (n < 0) = false := by simp; omega
  have f4 : decide (1099511627776 ≤ n) = false := by simp; omega
  have f5 : decide (l < 0) = false := by simp; omega
  have f6 : decide (604800 < l) = false := by simp; omega
  have f7 : decide (l < m) = false := by simp; omega
  have f8 : (m == l - 1) = true := by simpa using p4
  clear c2 e1 e2 e3 p4
  go_enter Try.func4, Try.ntmps4
  go_wp2_with fail
  refine (H1 _).mono ?_
  rintro e w1 ⟨rfl, hb1⟩
  go_wp2_with fail
  refine (H5 _).mono ?_
  rintro e w2 ⟨rfl, hb2⟩
  go_wp2_with fail
  refine (H6 _).mono ?_
  rintro e w3 ⟨rfl, hb3⟩
  go_wp2_with fail
  refine (H7 _).mono ?_
  rintro e w4 ⟨rfl, hb4⟩
  go_wp2_with fail
  refine (wellspringlaw12_live.calls true _ (by decide +kernel)).mono ?_
  rintro e w5 ⟨rfl, hb5⟩
  go_wp2_with fail
  go_ret
  exact ⟨rfl, (step _ _ _ (step _ _ _ (step _ _ _ (step _ _ _ hb1 hb2) hb3) hb4.below) hb5)⟩

set_option maxHeartbeats 400000 in
theorem rest_no_1 (n t u : Int) (w : World) (c0 : 0 ≤ n) (cn : n < 1099511627776) (c2 : t < 0) (l m : Int) (b : Bool) (e1 : age_Left.f n u = some l) (e2 : age_Left.f (n + 1) u = some m) (e3 : age_Live.f n u = some b) (p0 : 0 ≤ l) (p1 : l ≤ 604800) (p2 : m ≤ l) (p3 : ((l == 0) == b) = false) (p4 : m = l ∧ l = 0) :
    Calls Try.prog 4 #[.int .i64 n, .int .i64 t, .int .i64 u] w fun e w' => e = .returned (.bool true) ∧ Below w.heap.size w w' := by
  have c1 : n ≤ 1099511627776 := by omega
  have H1 := fun w => age_Until.calls n t (-1) w (until_no n t (by omega))
  have H5 := fun w => age_Left.calls n _ _ w e1
  have H6 := fun w => age_Left.calls (n + 1) _ _ w e2
  have H7 := fun w => age_Live.calls n _ _ w e3
  obtain rfl : b = false := by
    cases b
    · rfl
    · rw [p4.2] at p3; simp at p3
  clear p3
  have f0 : decide (0 ≤ n) = true := by simp; omega
  have f1 : decide (n ≤ 1099511627776) = true := by simp; omega
  have f2 : decide (0 ≤ t) = false := by simp; omega
  have f3 : decide (n < 0) = false := by simp; omega
  have f4 : decide (1099511627776 ≤ n) = false := by simp; omega
  have f5 : decide (l < 0) = false := by simp; omega
  have f6 : decide (604800 < l) = false := by simp; omega
  have f7 : decide (l < m) = false := by simp; omega
  have f8 : (m == l - 1) = false := by simp; omega
  have f9 : (m == l) = true := by simpa using p4.1
  have f10 : (l == 0) = true := by simpa using p4.2
  clear c2 e1 e2 e3 p4
  go_enter Try.func4, Try.ntmps4
  go_wp2_with fail
  refine (H1 _).mono ?_
  rintro e w1 ⟨rfl, hb1⟩
  go_wp2_with fail
  refine (H5 _).mono ?_
  rintro e w2 ⟨rfl, hb2⟩
  go_wp2_with fail
  refine (H6 _).mono ?_
  rintro e w3 ⟨rfl, hb3⟩
  go_wp2_with fail
  refine (H7 _).mono ?_
  rintro e w4 ⟨rfl, hb4⟩
  go_wp2_with fail
  refine (wellspringlaw12_live.calls true _ (by decide +kernel)).mono ?_
  rintro e w5 ⟨rfl, hb5⟩
  go_wp2_with fail
  go_ret
  exact ⟨rfl, (step _ _ _ (step _ _ _ (step _ _ _ (step _ _ _ hb1 hb2) hb3) hb4.below) hb5)⟩

set_option maxHeartbeats 400000 in
theorem rest_no_2 (n t u : Int) (w : World) (c0 : 0 ≤ n) (cn : n < 1099511627776) (c2 : t < 0) (l m : Int) (b : Bool) (e1 : age_Left.f n u = some l) (e2 : age_Left.f (n + 1) u = some m) (e3 : age_Live.f n u = some b) (p0 : 0 ≤ l) (p1 : l ≤ 604800) (p2 : m ≤ l) (p3 : ((l == 0) == b) = false) (p4 : m = l ∧ l = 604800) :
    Calls Try.prog 4 #[.int .i64 n, .int .i64 t, .int .i64 u] w fun e w' => e = .returned (.bool true) ∧ Below w.heap.size w w' := by
  have c1 : n ≤ 1099511627776 := by omega
  have H1 := fun w => age_Until.calls n t (-1) w (until_no n t (by omega))
  have H5 := fun w => age_Left.calls n _ _ w e1
  have H6 := fun w => age_Left.calls (n + 1) _ _ w e2
  have H7 := fun w => age_Live.calls n _ _ w e3
  obtain rfl : b = true := by
    cases b
    · rw [p4.2] at p3; simp at p3
    · rfl
  clear p3
  have f0 : decide (0 ≤ n) = true := by simp; omega
  have f1 : decide (n ≤ 1099511627776) = true := by simp; omega
  have f2 : decide (0 ≤ t) = false := by simp; omega
  have f3 : decide (n < 0) = false := by simp; omega
  have f4 : decide (1099511627776 ≤ n) = false := by simp; omega
  have f5 : decide (l < 0) = false := by simp; omega
  have f6 : decide (604800 < l) = false := by simp; omega
  have f7 : decide (l < m) = false := by simp; omega
  have f8 : (m == l - 1) = false := by simp; omega
  have f9 : (m == l) = true := by simpa using p4.1
  have f10 : (l == 0) = false := by simp; omega
  have f11 : (l == 604800) = true := by simpa using p4.2
  clear c2 e1 e2 e3 p4
  go_enter Try.func4, Try.ntmps4
  go_wp2_with fail
  refine (H1 _).mono ?_
  rintro e w1 ⟨rfl, hb1⟩
  go_wp2_with fail
  refine (H5 _).mono ?_
  rintro e w2 ⟨rfl, hb2⟩
  go_wp2_with fail
  refine (H6 _).mono ?_
  rintro e w3 ⟨rfl, hb3⟩
  go_wp2_with fail
  refine (H7 _).mono ?_
  rintro e w4 ⟨rfl, hb4⟩
  go_wp2_with fail
  refine (wellspringlaw12_live.calls true _ (by decide +kernel)).mono ?_
  rintro e w5 ⟨rfl, hb5⟩
  go_wp2_with fail
  go_ret
  exact ⟨rfl, (step _ _ _ (step _ _ _ (step _ _ _ (step _ _ _ hb1 hb2) hb3) hb4.below) hb5)⟩

set_option maxHeartbeats 400000 in
theorem rest_big_0 (n t u : Int) (w : World) (c0 : 0 ≤ n) (cn : n < 1099511627776) (c2 : 604800 < t) (l m : Int) (b : Bool) (e1 : age_Left.f n u = some l) (e2 : age_Left.f (n + 1) u = some m) (e3 : age_Live.f n u = some b) (p0 : 0 ≤ l) (p1 : l ≤ 604800) (p2 : m ≤ l) (p3 : ((l == 0) == b) = false) (p4 : m = l - 1) :
    Calls Try.prog 4 #[.int .i64 n, .int .i64 t, .int .i64 u] w fun e w' => e = .returned (.bool true) ∧ Below w.heap.size w w' := by
  have c1 : n ≤ 1099511627776 := by omega
  have hu : age_Until.f n t = some (n + 604800) := by rw [until_yes n t c0 c1 (by omega)]; unfold mn; rw [if_pos (by omega)]
  have hl : age_Left.f n (n + 604800) = some 604800 := by rw [left_yes n _ c0 c1 (by omega) (by omega)]; unfold mn; rw [if_neg (by omega)]; congr 1; omega
  have hv : age_Live.f n (n + 604800) = some true := by rw [live_eq]; congr 1; simp; omega
  have H1 := fun w => age_Until.calls n t _ w hu
  have H3 := fun w => age_Left.calls n _ _ w hl
  have H4 := fun w => age_Live.calls n _ _ w hv
  have H5 := fun w => age_Left.calls n _ _ w e1
  have H6 := fun w => age_Left.calls (n + 1) _ _ w e2
  have H7 := fun w => age_Live.calls n _ _ w e3
  have f0 : decide (604800 < t) = true := by simp; omega
  have f1 : decide (0 ≤ n) = true := by simp; omega
  have f2 : decide (n ≤ 1099511627776) = true := by simp; omega
  have f3 : decide (0 ≤ t) = true := by simp; omega
  have f4 : decide (n < 0) = false := by simp; omega
  have f5 : decide (1099511627776 ≤ n) = false := by simp; omega
  have f6 : decide (l < 0) = false := by simp; omega
  have f7 : decide (604800 < l) = false := by simp; omega
  have f8 : decide (l < m) = false := by simp; omega
  have f9 : (m == l - 1) = true := by simpa using p4
  clear hu hl hv c2 e1 e2 e3 p4
  go_enter Try.func4, Try.ntmps4
  go_wp2_with fail
  refine (H1 _).mono ?_
  rintro e w1 ⟨rfl, hb1⟩
  go_wp2_with fail
  refine (H3 _).mono ?_
  rintro e w2 ⟨rfl, hb2⟩
  go_wp2_with fail
  refine (H4 _).mono ?_
  rintro e w3 ⟨rfl, hb3⟩
  go_wp2_with fail
  refine (H5 _).mono ?_
  rintro e w4 ⟨rfl, hb4⟩
  go_wp2_with fail
  refine (H6 _).mono ?_
  rintro e w5 ⟨rfl, hb5⟩
  go_wp2_with fail
  refine (H7 _).mono ?_
  rintro e w6 ⟨rfl, hb6⟩
  go_wp2_with fail
  refine (wellspringlaw12_live.calls true _ (by decide +kernel)).mono ?_
  rintro e w7 ⟨rfl, hb7⟩
  go_wp2_with fail
  go_ret
  exact ⟨rfl, (step _ _ _ (step _ _ _ (step _ _ _ (step _ _ _ (step _ _ _ (step _ _ _ hb1 hb2) hb3.below) hb4) hb5) hb6.below) hb7)⟩

set_option maxHeartbeats 400000 in
theorem rest_big_1 (n t u : Int) (w : World) (c0 : 0 ≤ n) (cn : n < 1099511627776) (c2 : 604800 < t) (l m : Int) (b : Bool) (e1 : age_Left.f n u = some l) (e2 : age_Left.f (n + 1) u = some m) (e3 : age_Live.f n u = some b) (p0 : 0 ≤ l) (p1 : l ≤ 604800) (p2 : m ≤ l) (p3 : ((l == 0) == b) = false) (p4 : m = l ∧ l = 0) :
    Calls Try.prog 4 #[.int .i64 n, .int .i64 t, .int .i64 u] w fun e w' => e = .returned (.bool true) ∧ Below w.heap.size w w' := by
  have c1 : n ≤ 1099511627776 := by omega
  have hu : age_Until.f n t = some (n + 604800) := by rw [until_yes n t c0 c1 (by omega)]; unfold mn; rw [if_pos (by omega)]
  have hl : age_Left.f n (n + 604800) = some 604800 := by rw [left_yes n _ c0 c1 (by omega) (by omega)]; unfold mn; rw [if_neg (by omega)]; congr 1; omega
  have hv : age_Live.f n (n + 604800) = some true := by rw [live_eq]; congr 1; simp; omega
  have H1 := fun w => age_Until.calls n t _ w hu
  have H3 := fun w => age_Left.calls n _ _ w hl
  have H4 := fun w => age_Live.calls n _ _ w hv
  have H5 := fun w => age_Left.calls n _ _ w e1
  have H6 := fun w => age_Left.calls (n + 1) _ _ w e2
  have H7 := fun w => age_Live.calls n _ _ w e3
  obtain rfl : b = false := by
    cases b
    · rfl
    · rw [p4.2] at p3; simp at p3
  clear p3
  have f0 : decide (604800 < t) = true := by simp; omega
  have f1 : decide (0 ≤ n) = true := by simp; omega
  have f2 : decide (n ≤ 1099511627776) = true := by simp; omega
  have f3 : decide (0 ≤ t) = true := by simp; omega
  have f4 : decide (n < 0) = false := by simp; omega
  have f5 : decide (1099511627776 ≤ n) = false := by simp; omega
  have f6 : decide (l < 0) = false := by simp; omega
  have f7 : decide (604800 < l) = false := by simp; omega
  have f8 : decide (l < m) = false := by simp; omega
  have f9 : (m == l - 1) = false := by simp; omega
  have f10 : (m == l) = true := by simpa using p4.1
  have f11 : (l == 0) = true := by simpa using p4.2
  clear hu hl hv c2 e1 e2 e3 p4
  go_enter Try.func4, Try.ntmps4
  go_wp2_with fail
  refine (H1 _).mono ?_
  rintro e w1 ⟨rfl, hb1⟩
  go_wp2_with fail
  refine (H3 _).mono ?_
  rintro e w2 ⟨rfl, hb2⟩
  go_wp2_with fail
  refine (H4 _).mono ?_
  rintro e w3 ⟨rfl, hb3⟩
  go_wp2_with fail
  refine (H5 _).mono ?_
  rintro e w4 ⟨rfl, hb4⟩
  go_wp2_with fail
  refine (H6 _).mono ?_
  rintro e w5 ⟨rfl, hb5⟩
  go_wp2_with fail
  refine (H7 _).mono ?_
  rintro e w6 ⟨rfl, hb6⟩
  go_wp2_with fail
  refine (wellspringlaw12_live.calls true _ (by decide +kernel)).mono ?_
  rintro e w7 ⟨rfl, hb7⟩
  go_wp2_with fail
  go_ret
  exact ⟨rfl, (step _ _ _ (step _ _ _ (step _ _ _ (step _ _ _ (step _ _ _ (step _ _ _ hb1 hb2) hb3.below) hb4) hb5) hb6.below) hb7)⟩

set_option maxHeartbeats 400000 in
theorem rest_big_2 (n t u : Int) (w : World) (c0 : 0 ≤ n) (cn : n < 1099511627776) (c2 : 604800 < t) (l m : Int) (b : Bool) (e1 : age_Left.f n u = some l) (e2 : age_Left.f (n + 1) u = some m) (e3 : age_Live.f n u = some b) (p0 : 0 ≤ l) (p1 : l ≤ 604800) (p2 : m ≤ l) (p3 : ((l == 0) == b) = false) (p4 : m = l ∧ l = 604800) :
    Calls Try.prog 4 #[.int .i64 n, .int .i64 t, .int .i64 u] w fun e w' => e = .returned (.bool true) ∧ Below w.heap.size w w' := by
  have c1 : n ≤ 1099511627776 := by omega
  have hu : age_Until.f n t = some (n + 604800) := by rw [until_yes n t c0 c1 (by omega)]; unfold mn; rw [if_pos (by omega)]
  have hl : age_Left.f n (n + 604800) = some 604800 := by rw [left_yes n _ c0 c1 (by omega) (by omega)]; unfold mn; rw [if_neg (by omega)]; congr 1; omega
  have hv : age_Live.f n (n + 604800) = some true := by rw [live_eq]; congr 1; simp; omega
  have H1 := fun w => age_Until.calls n t _ w hu
  have H3 := fun w => age_Left.calls n _ _ w hl
  have H4 := fun w => age_Live.calls n _ _ w hv
  have H5 := fun w => age_Left.calls n _ _ w e1
  have H6 := fun w => age_Left.calls (n + 1) _ _ w e2
  have H7 := fun w => age_Live.calls n _ _ w e3
  obtain rfl : b = true := by
    cases b
    · rw [p4.2] at p3; simp at p3
    · rfl
  clear p3
  have f0 : decide (604800 < t) = true := by simp; omega
  have f1 : decide (0 ≤ n) = true := by simp; omega
  have f2 : decide (n ≤ 1099511627776) = true := by simp; omega
  have f3 : decide (0 ≤ t) = true := by simp; omega
  have f4 : decide (n < 0) = false := by simp; omega
  have f5 : decide (1099511627776 ≤ n) = false := by simp; omega
  have f6 : decide (l < 0) = false := by simp; omega
  have f7 : decide (604800 < l) = false := by simp; omega
  have f8 : decide (l < m) = false := by simp; omega
  have f9 : (m == l - 1) = false := by simp; omega
  have f10 : (m == l) = true := by simpa using p4.1
  have f11 : (l == 0) = false := by simp; omega
  have f12 : (l == 604800) = true := by simpa using p4.2
  clear hu hl hv c2 e1 e2 e3 p4
  go_enter Try.func4, Try.ntmps4
  go_wp2_with fail
  refine (H1 _).mono ?_
  rintro e w1 ⟨rfl, hb1⟩
  go_wp2_with fail
  refine (H3 _).mono ?_
  rintro e w2 ⟨rfl, hb2⟩
  go_wp2_with fail
  refine (H4 _).mono ?_
  rintro e w3 ⟨rfl, hb3⟩
  go_wp2_with fail
  refine (H5 _).mono ?_
  rintro e w4 ⟨rfl, hb4⟩
  go_wp2_with fail
  refine (H6 _).mono ?_
  rintro e w5 ⟨rfl, hb5⟩
  go_wp2_with fail
  refine (H7 _).mono ?_
  rintro e w6 ⟨rfl, hb6⟩
  go_wp2_with fail
  refine (wellspringlaw12_live.calls true _ (by decide +kernel)).mono ?_
  rintro e w7 ⟨rfl, hb7⟩
  go_wp2_with fail
  go_ret
  exact ⟨rfl, (step _ _ _ (step _ _ _ (step _ _ _ (step _ _ _ (step _ _ _ (step _ _ _ hb1 hb2) hb3.below) hb4) hb5) hb6.below) hb7)⟩

set_option maxHeartbeats 400000 in
theorem rest_small_0 (n t u : Int) (w : World) (c0 : 0 ≤ n) (cn : n < 1099511627776) (c2 : 0 ≤ t ∧ t ≤ 604800) (l m : Int) (b : Bool) (e1 : age_Left.f n u = some l) (e2 : age_Left.f (n + 1) u = some m) (e3 : age_Live.f n u = some b) (p0 : 0 ≤ l) (p1 : l ≤ 604800) (p2 : m ≤ l) (p3 : ((l == 0) == b) = false) (p4 : m = l - 1) :
    Calls Try.prog 4 #[.int .i64 n, .int .i64 t, .int .i64 u] w fun e w' => e = .returned (.bool true) ∧ Below w.heap.size w w' := by
  have c1 : n ≤ 1099511627776 := by omega
  have hu : age_Until.f n t = some (n + t) := by rw [until_yes n t c0 c1 (by omega)]; unfold mn; rw [if_neg (by omega)]
  have hl : age_Left.f n (n + t) = some t := by
    by_cases ct : 0 < t
    · rw [left_yes n _ c0 c1 (by omega) (by omega)]; unfold mn; rw [if_neg (by omega)]; congr 1; omega
    · rw [left_no n _ (by omega)]; congr 1; omega
  have hv : age_Live.f n (n + t) = some (decide (0 < t)) := by rw [live_eq]; congr 1; exact decide_eq_decide.2 (by omega)
  have H1 := fun w => age_Until.calls n t _ w hu
  have H3 := fun w => age_Left.calls n _ _ w hl
  have H4 := fun w => age_Live.calls n _ _ w hv
  have H5 := fun w => age_Left.calls n _ _ w e1
  have H6 := fun w => age_Left.calls (n + 1) _ _ w e2
  have H7 := fun w => age_Live.calls n _ _ w e3
  have f0 : decide (604800 < t) = false := by simp; omega
  have f1 : decide (0 ≤ n) = true := by simp; omega
  have f2 : decide (n ≤ 1099511627776) = true := by simp; omega
  have f3 : decide (0 ≤ t) = true := by simp; omega
  have f4 : decide (n < 0) = false := by simp; omega
  have f5 : decide (1099511627776 ≤ n) = false := by simp; omega
  have f6 : decide (l < 0) = false := by simp; omega
  have f7 : decide (604800 < l) = false := by simp; omega
  have f8 : decide (l < m) = false := by simp; omega
  have f9 : (m == l - 1) = true := by simpa using p4
  clear hu hl hv c2 e1 e2 e3 p4
  go_enter Try.func4, Try.ntmps4
  go_wp2_with fail
  refine (H1 _).mono ?_
  rintro e w1 ⟨rfl, hb1⟩
  go_wp2_with fail
  refine (H3 _).mono ?_
  rintro e w2 ⟨rfl, hb2⟩
  go_wp2_with fail
  refine (H4 _).mono ?_
  rintro e w3 ⟨rfl, hb3⟩
  go_wp2_with fail
  refine (H5 _).mono ?_
  rintro e w4 ⟨rfl, hb4⟩
  go_wp2_with fail
  refine (H6 _).mono ?_
  rintro e w5 ⟨rfl, hb5⟩
  go_wp2_with fail
  refine (H7 _).mono ?_
  rintro e w6 ⟨rfl, hb6⟩
  go_wp2_with fail
  refine (wellspringlaw12_live.calls true _ (by decide +kernel)).mono ?_
  rintro e w7 ⟨rfl, hb7⟩
  go_wp2_with fail
  go_ret
  exact ⟨rfl, (step _ _ _ (step _ _ _ (step _ _ _ (step _ _ _ (step _ _ _ (step _ _ _ hb1 hb2) hb3.below) hb4) hb5) hb6.below) hb7)⟩

set_option maxHeartbeats 400000 in
theorem rest_small_1 (n t u : Int) (w : World) (c0 : 0 ≤ n) (cn : n < 1099511627776) (c2 : 0 ≤ t ∧ t ≤ 604800) (l m : Int) (b : Bool) (e1 : age_Left.f n u = some l) (e2 : age_Left.f (n + 1) u = some m) (e3 : age_Live.f n u = some b) (p0 : 0 ≤ l) (p1 : l ≤ 604800) (p2 : m ≤ l) (p3 : ((l == 0) == b) = false) (p4 : m = l ∧ l = 0) :
    Calls Try.prog 4 #[.int .i64 n, .int .i64 t, .int .i64 u] w fun e w' => e = .returned (.bool true) ∧ Below w.heap.size w w' := by
  have c1 : n ≤ 1099511627776 := by omega
  have hu : age_Until.f n t = some (n + t) := by rw [until_yes n t c0 c1 (by omega)]; unfold mn; rw [if_neg (by omega)]
  have hl : age_Left.f n (n + t) = some t := by
    by_cases ct : 0 < t
    · rw [left_yes n _ c0 c1 (by omega) (by omega)]; unfold mn; rw [if_neg (by omega)]; congr 1; omega
    · rw [left_no n _ (by omega)]; congr 1; omega
  have hv : age_Live.f n (n + t) = some (decide (0 < t)) := by rw [live_eq]; congr 1; exact decide_eq_decide.2 (by omega)
  have H1 := fun w => age_Until.calls n t _ w hu
  have H3 := fun w => age_Left.calls n _ _ w hl
  have H4 := fun w => age_Live.calls n _ _ w hv
  have H5 := fun w => age_Left.calls n _ _ w e1
  have H6 := fun w => age_Left.calls (n + 1) _ _ w e2
  have H7 := fun w => age_Live.calls n _ _ w e3
  obtain rfl : b = false := by
    cases b
    · rfl
    · rw [p4.2] at p3; simp at p3
  clear p3
  have f0 : decide (604800 < t) = false := by simp; omega
  have f1 : decide (0 ≤ n) = true := by simp; omega
  have f2 : decide (n ≤ 1099511627776) = true := by simp; omega
  have f3 : decide (0 ≤ t) = true := by simp; omega
  have f4 : decide (n < 0) = false := by simp; omega
  have f5 : decide (1099511627776 ≤ n) = false := by simp; omega
  have f6 : decide (l < 0) = false := by simp; omega
  have f7 : decide (604800 < l) = false := by simp; omega
  have f8 : decide (l < m) = false := by simp; omega
  have f9 : (m == l - 1) = false := by simp; omega
  have f10 : (m == l) = true := by simpa using p4.1
  have f11 : (l == 0) = true := by simpa using p4.2
  clear hu hl hv c2 e1 e2 e3 p4
  go_enter Try.func4, Try.ntmps4
  go_wp2_with fail
  refine (H1 _).mono ?_
  rintro e w1 ⟨rfl, hb1⟩
  go_wp2_with fail
  refine (H3 _).mono ?_
  rintro e w2 ⟨rfl, hb2⟩
  go_wp2_with fail
  refine (H4 _).mono ?_
  rintro e w3 ⟨rfl, hb3⟩
  go_wp2_with fail
  refine (H5 _).mono ?_
  rintro e w4 ⟨rfl, hb4⟩
  go_wp2_with fail
  refine (H6 _).mono ?_
  rintro e w5 ⟨rfl, hb5⟩
  go_wp2_with fail
  refine (H7 _).mono ?_
  rintro e w6 ⟨rfl, hb6⟩
  go_wp2_with fail
  refine (wellspringlaw12_live.calls true _ (by decide +kernel)).mono ?_
  rintro e w7 ⟨rfl, hb7⟩
  go_wp2_with fail
  go_ret
  exact ⟨rfl, (step _ _ _ (step _ _ _ (step _ _ _ (step _ _ _ (step _ _ _ (step _ _ _ hb1 hb2) hb3.below) hb4) hb5) hb6.below) hb7)⟩

set_option maxHeartbeats 400000 in
theorem rest_small_2 (n t u : Int) (w : World) (c0 : 0 ≤ n) (cn : n < 1099511627776) (c2 : 0 ≤ t ∧ t ≤ 604800) (l m : Int) (b : Bool) (e1 : age_Left.f n u = some l) (e2 : age_Left.f (n + 1) u = some m) (e3 : age_Live.f n u = some b) (p0 : 0 ≤ l) (p1 : l ≤ 604800) (p2 : m ≤ l) (p3 : ((l == 0) == b) = false) (p4 : m = l ∧ l = 604800) :
    Calls Try.prog 4 #[.int .i64 n, .int .i64 t, .int .i64 u] w fun e w' => e = .returned (.bool true) ∧ Below w.heap.size w w' := by
  have c1 : n ≤ 1099511627776 := by omega
  have hu : age_Until.f n t = some (n + t) := by rw [until_yes n t c0 c1 (by omega)]; unfold mn; rw [if_neg (by omega)]
  have hl : age_Left.f n (n + t) = some t := by
    by_cases ct : 0 < t
    · rw [left_yes n _ c0 c1 (by omega) (by omega)]; unfold mn; rw [if_neg (by omega)]; congr 1; omega
    · rw [left_no n _ (by omega)]; congr 1; omega
  have hv : age_Live.f n (n + t) = some (decide (0 < t)) := by rw [live_eq]; congr 1; exact decide_eq_decide.2 (by omega)
  have H1 := fun w => age_Until.calls n t _ w hu
  have H3 := fun w => age_Left.calls n _ _ w hl
  have H4 := fun w => age_Live.calls n _ _ w hv
  have H5 := fun w => age_Left.calls n _ _ w e1
  have H6 := fun w => age_Left.calls (n + 1) _ _ w e2
  have H7 := fun w => age_Live.calls n _ _ w e3
  obtain rfl : b = true := by
    cases b
    · rw [p4.2] at p3; simp at p3
    · rfl
  clear p3
  have f0 : decide (604800 < t) = false := by simp; omega
  have f1 : decide (0 ≤ n) = true := by simp; omega
  have f2 : decide (n ≤ 1099511627776) = true := by simp; omega
  have f3 : decide (0 ≤ t) = true := by simp; omega
  have f4 : decide (n < 0) = false := by simp; omega
  have f5 : decide (1099511627776 ≤ n) = false := by simp; omega
  have f6 : decide (l < 0) = false := by simp; omega
  have f7 : decide (604800 < l) = false := by simp; omega
  have f8 : decide (l < m) = false := by simp; omega
  have f9 : (m == l - 1) = false := by simp; omega
  have f10 : (m == l) = true := by simpa using p4.1
  have f11 : (l == 0) = false := by simp; omega
  have f12 : (l == 604800) = true := by simpa using p4.2
  clear hu hl hv c2 e1 e2 e3 p4
  go_enter Try.func4, Try.ntmps4
  go_wp2_with fail
  refine (H1 _).mono ?_
  rintro e w1 ⟨rfl, hb1⟩
  go_wp2_with fail
  refine (H3 _).mono ?_
  rintro e w2 ⟨rfl, hb2⟩
  go_wp2_with fail
  refine (H4 _).mono ?_
  rintro e w3 ⟨rfl, hb3⟩
  go_wp2_with fail
  refine (H5 _).mono ?_
  rintro e w4 ⟨rfl, hb4⟩
  go_wp2_with fail
  refine (H6 _).mono ?_
  rintro e w5 ⟨rfl, hb5⟩
  go_wp2_with fail
  refine (H7 _).mono ?_
  rintro e w6 ⟨rfl, hb6⟩
  go_wp2_with fail
  refine (wellspringlaw12_live.calls true _ (by decide +kernel)).mono ?_
  rintro e w7 ⟨rfl, hb7⟩
  go_wp2_with fail
  go_ret
  exact ⟨rfl, (step _ _ _ (step _ _ _ (step _ _ _ (step _ _ _ (step _ _ _ (step _ _ _ hb1 hb2) hb3.below) hb4) hb5) hb6.below) hb7)⟩

theorem falls_walk (n t u : Int) (w : World) (w1 : (Lit.int .i64 u).wf = true) :
    Calls Try.prog 4 #[.int .i64 n, .int .i64 t, .int .i64 u] w fun e w' => e = .returned (.bool true) ∧ Below w.heap.size w w' := by
  obtain ⟨_, u1⟩ := wf_i64 w1
  by_cases c : n < 0
  · exact neg n t u w c
  by_cases c2 : 1099511627776 < n
  · exact big n t u w c2
  by_cases c3 : n = 1099511627776
  · by_cases c4 : t < 0
    · exact edge_no n t u w c3 c4
    · by_cases c5 : 604800 < t
      · exact edge_big n t u w c3 c5
      · exact edge_small n t u w c3 (by omega)
  · obtain ⟨l, m, b, e1, e2, e3, p0, p1, p2, p3, p4⟩ := last n u (by omega) (by omega) u1
    by_cases c4 : t < 0
    · rcases p4 with p4 | ⟨p4, p5 | p5⟩
      · exact rest_no_0 n t u w (by omega) (by omega) c4 l m b e1 e2 e3 p0 p1 p2 p3 p4
      · exact rest_no_1 n t u w (by omega) (by omega) c4 l m b e1 e2 e3 p0 p1 p2 p3 ⟨p4, p5⟩
      · exact rest_no_2 n t u w (by omega) (by omega) c4 l m b e1 e2 e3 p0 p1 p2 p3 ⟨p4, p5⟩
    · by_cases c5 : 604800 < t
      · rcases p4 with p4 | ⟨p4, p5 | p5⟩
        · exact rest_big_0 n t u w (by omega) (by omega) c5 l m b e1 e2 e3 p0 p1 p2 p3 p4
        · exact rest_big_1 n t u w (by omega) (by omega) c5 l m b e1 e2 e3 p0 p1 p2 p3 ⟨p4, p5⟩
        · exact rest_big_2 n t u w (by omega) (by omega) c5 l m b e1 e2 e3 p0 p1 p2 p3 ⟨p4, p5⟩
      · rcases p4 with p4 | ⟨p4, p5 | p5⟩
        · exact rest_small_0 n t u w (by omega) (by omega) (by omega) l m b e1 e2 e3 p0 p1 p2 p3 p4
        · exact rest_small_1 n t u w (by omega) (by omega) (by omega) l m b e1 e2 e3 p0 p1 p2 p3 ⟨p4, p5⟩
        · exact rest_small_2 n t u w (by omega) (by omega) (by omega) l m b e1 e2 e3 p0 p1 p2 p3 ⟨p4, p5⟩

theorem own : ownKnob Try.prog.godebug = none := by kernel_rfl
set_option maxRecDepth 100000 in
theorem lifted (os : Os) (started : os.Started) (H : Type) (enc : TypeId × Value → H) :
    ReturnsInHanded {} Try.checked os 4 .any (Rows.ageFallsSpec.pre6 enc Try.prog Try.f4 Rows.ageFallsRow.domain false) (Rows.ageFallsSpec.post enc Try.prog Try.f4 false true false false) := by
  refine returnsInHanded_of_change_sized (C := Try.checked) own started (by kernel_rfl) Try.func4
    (ChangeSpec.witness6 (enc := enc) (C := Try.checked) false ⟨#[], #[.int .i64 0, .int .i64 0, .int .i64 0], []⟩ 8 (by kernel_rfl) (by kernel_rfl) (by kernel_rfl) (by kernel_rfl)) ?_
  intro W base args ds gs before hval0 hW hcnd hsz0 _
  have hsz : (DataW.weightsEach Try.prog (Try.f4.params.toList ++ Rows.ageFallsSpec.plain.varTypes Try.prog) (ds ++ gs)).all (· ≤ reachBytes) = true := hsz0
  have hval : ∀ (j : Nat) t v, Try.f4.params[j]? = some t → args[j]? = some v → Value.okWide Try.prog W .any base t v := hval0
  have hW' := hW
  obtain ⟨p, q, hA0, hV, rfl, hfz, hnd⟩ := hW
  have hA : DataW.TrodAll enc Try.prog W 0 (fun _ => true) true Try.f4.params.toList args.toList ds p := hA0
  rw [Try.params4] at hA hval hsz
  obtain ⟨v0, vs0, d0, ds0, p0, q0, hargs, rfl, rfl, h0, r0⟩ := trodAll_cons hA
  obtain ⟨v1, vs1, d1, ds1, p1, q1, rfl, rfl, rfl, h1, r1⟩ := trodAll_cons r0
  obtain ⟨v2, vs2, d2, ds2, p2, q2, rfl, rfl, rfl, h2, r2⟩ := trodAll_cons r1
  obtain ⟨rfl, rfl, rfl⟩ := trodAll_nil r2
  obtain rfl : args = #[v0, v1, v2] := by cases args; simp_all
  obtain ⟨rfl, rfl⟩ := trodVars_none hV
  obtain ⟨a0, rfl, rfl, rfl, w0⟩ := open_int Try.underlying3 (hval 0 3 v0 rfl rfl) h0
  obtain ⟨a1, rfl, rfl, rfl, w1⟩ := open_int Try.underlying3 (hval 1 3 v1 rfl rfl) h1
  obtain ⟨a2, rfl, rfl, rfl, w2⟩ := open_int Try.underlying3 (hval 2 3 v2 rfl rfl) h2
  clear hA0 hval0 hsz0 hsz
  refine (falls_walk a0 a1 a2 W w2).mono fun e W' ⟨he, bel⟩ => ?_
  subst he
  exact ⟨_, rfl, _, _, _, [], _, [], hW', trodAll_mk1 (shut_bool Try.underlying4 _), (trodAll_cons_mk (shut_int Try.underlying3 w0) (trodAll_cons_mk (shut_int Try.underlying3 w1) (trodAll_cons_mk (shut_int Try.underlying3 w2) trodAll_mk0))), rfl, bel.frame _, fun h => by cases h⟩
theorem over : Rows.ageFallsRow.holds Try.pinned (OpenSpec.ofChange Rows.ageFallsSpec) :=
  OpenClaim.holds_of_wide 4 Try.f4 rfl rfl rfl rfl rfl rfl rfl ⟨rfl, rfl, rfl, rfl, rfl⟩ rfl rfl rfl rfl rfl (by kernel_rfl) Try.func4 (by kernel_rfl)
    (of_decide_eq_true (by kernel_rfl)) (by unfold Func.isWrapper; first | (rw [if_pos (by decide +kernel)]; kernel_rfl) | (rw [if_neg (by decide +kernel)]; exact ⟨rfl, rfl⟩))
    (fun os started H enc _ => lifted os started H enc)
theorem proved : Rows.AgeFallsSaid := over

end Go.Proofs.Ytmjnkcogcbillaa.Falls
namespace Go.Proofs.Ytmjnkcogcbillaa
/-- The row, under a short name, for the claim. -/
theorem ageFalls_holds : Rows.AgeFallsSaid := Falls.proved
end Go.Proofs.Ytmjnkcogcbillaa
