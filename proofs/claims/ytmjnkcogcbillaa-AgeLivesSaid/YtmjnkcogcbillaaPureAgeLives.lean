/- What was put later, of the same time, lives longer; at every three whole numbers; no condition. -/
import Derived.Test.YtmjnkcogcbillaaPAgeLivesx1
namespace Go.Proofs.Ytmjnkcogcbillaa.Pure
open Go.RowKit Go.Proofs.Ytmjnkcogcbillaa.PAgeLives Go.Proofs.YtmjnkcogcbillaaW.PrintWords Go.Proofs.YtmjnkcogcbillaaW.PrintLast

theorem wf_i64 {a : Int} (h : (Lit.int .i64 a).wf = true) : -9223372036854775808 ≤ a ∧ a ≤ 9223372036854775807 := by
  simp [Lit.wf] at h
  exact h

theorem within_eq (a b : Int) : age_within_int.f a b = some (decide (0 ≤ a ∧ a ≤ b)) := by
  unfold age_within_int.f
  by_cases h : a ≥ 0
  · rw [if_pos h]; congr 1; exact decide_eq_decide.2 (by omega)
  · rw [if_neg h]; congr 1; exact (decide_eq_false (by omega)).symm

theorem until_no (a b : Int) (h : ¬(0 ≤ a ∧ a ≤ 1099511627776 ∧ 0 ≤ b)) : age_Until.f a b = some (-1) := by
  unfold age_Until.f
  rw [within_eq]; simp only [Option.bind_some, decide_eq_true_eq]
  by_cases h1 : 0 ≤ a ∧ a ≤ 1099511627776
  · rw [if_pos h1, if_pos (by omega)]
  · rw [if_neg h1]

theorem until_yes (a b : Int) (h0 : 0 ≤ a) (h1 : a ≤ 1099511627776) (h2 : 0 ≤ b) : age_Until.f a b = some (a + mn b 604800) := by
  unfold age_Until.f
  rw [within_eq]; simp only [Option.bind_some, decide_eq_true_eq]
  rw [if_pos ⟨h0, h1⟩, if_neg (by omega)]
  congr 1
  unfold wrap64 mn
  split <;> omega

theorem live_eq (a b : Int) : age_Live.f a b = some (decide (0 ≤ a ∧ a ≤ 1099511627776 ∧ a < b)) := by
  unfold age_Live.f
  rw [within_eq]; simp only [Option.bind_some, decide_eq_true_eq]
  by_cases h1 : 0 ≤ a ∧ a ≤ 1099511627776
  · rw [if_pos h1]; congr 1; exact decide_eq_decide.2 (by omega)
  · rw [if_neg h1]; congr 1; exact (decide_eq_false (by omega)).symm

theorem left_no (a b : Int) (h : ¬(0 ≤ a ∧ a ≤ 1099511627776 ∧ a < b)) : age_Left.f a b = some 0 := by
  unfold age_Left.f
  rw [live_eq]; simp only [Option.bind_some, decide_eq_true_eq]
  rw [if_neg h]

theorem left_yes (a b : Int) (h0 : 0 ≤ a) (h1 : a ≤ 1099511627776) (h2 : a < b) (hb : b ≤ 9223372036854775807) : age_Left.f a b = some (mn (b - a) 604800) := by
  unfold age_Left.f
  rw [live_eq]; simp only [Option.bind_some, decide_eq_true_eq]
  rw [if_pos ⟨h0, h1, h2⟩]
  congr 1
  have : wrap64 (b - a) = b - a := by unfold wrap64; omega
  rw [this]

theorem due_no (a b : Int) (h : ¬(0 ≤ a ∧ a ≤ 1099511627776 ∧ 0 ≤ b ∧ a + b ≤ 1099511627776)) : age_Due.f a b = some (0, false) := by
  unfold age_Due.f
  rw [within_eq]; simp only [Option.bind_some, decide_eq_true_eq]
  by_cases h1 : 0 ≤ a ∧ a ≤ 1099511627776
  · have e : wrap64 (1099511627776 - a) = 1099511627776 - a := by unfold wrap64; omega
    rw [if_pos h1, e, within_eq]; simp only [Option.bind_some, decide_eq_true_eq]
    rw [if_neg (by omega)]
  · rw [if_neg h1]

theorem due_yes (a b : Int) (h0 : 0 ≤ a) (h1 : a ≤ 1099511627776) (h2 : 0 ≤ b) (h3 : a + b ≤ 1099511627776) : age_Due.f a b = some (a + b, true) := by
  unfold age_Due.f
  rw [within_eq]; simp only [Option.bind_some, decide_eq_true_eq]
  have e : wrap64 (1099511627776 - a) = 1099511627776 - a := by unfold wrap64; omega
  rw [if_pos ⟨h0, h1⟩, e, within_eq]; simp only [Option.bind_some, decide_eq_true_eq]
  rw [if_pos (by omega)]
  have e2 : wrap64 (a + b) = a + b := by unfold wrap64; omega
  rw [e2]

theorem live_true : wellspringlaw12_live.f = some true := by decide +kernel

theorem j0_true (k : Nat) (a b c : Int) : wellspringlaw12_AgeLives.j0 (k + 1) a b c true = some true := by
  simp only [wellspringlaw12_AgeLives.j0]
  rw [if_pos trivial, live_true]; rfl

theorem AgeLives : wellspringlaw12_AgeLives.Pure := by
  intro n t m hn ht hm
  obtain ⟨n0, n1⟩ := wf_i64 hn
  obtain ⟨t0, t1⟩ := wf_i64 ht
  obtain ⟨m0, m1⟩ := wf_i64 hm
  refine ⟨9, ?_⟩
  unfold wellspringlaw12_AgeLives.f
  by_cases c0 : n < 0
  · rw [if_pos c0]; exact j0_true 8 n t m
  rw [if_neg c0]
  by_cases c1 : t < 0
  · rw [if_pos c1]; exact j0_true 8 n t m
  rw [if_neg c1]
  by_cases c2 : m < 0
  · rw [if_pos c2]; exact j0_true 8 n t m
  rw [if_neg c2]
  by_cases c3 : n > 549755813888
  · rw [if_pos c3]; exact j0_true 8 n t m
  rw [if_neg c3]
  by_cases c4 : m > 549755813888
  · have e : decide (m > 549755813888) = true := by simpa using c4
    rw [e]; exact j0_true 8 n t m
  have e : decide (m > 549755813888) = false := by simpa using c4
  rw [e]
  simp only [wellspringlaw12_AgeLives.j0]
  have e1 : wrap64 (n + m) = n + m := by unfold wrap64; omega
  rw [if_neg (by simp), e1, until_yes n t (by omega) (by omega) (by omega), until_yes (n + m) t (by omega) (by omega) (by omega)]
  simp only [Option.bind_some]
  have hb0 : 0 ≤ mn t 604800 := by unfold mn; split <;> omega
  have hb1 : mn t 604800 ≤ 604800 := by unfold mn; split <;> omega
  generalize mn t 604800 = x at hb0 hb1
  have e2 : wrap64 (n + m + x - (n + x)) = m := by unfold wrap64; omega
  have e3 : wrap64 (n + 604800) = n + 604800 := by unfold wrap64; omega
  rw [if_pos e2, if_neg (by omega), e3]
  have e4 : decide (n + x > n + 604800) = false := by simp; omega
  rw [e4]
  simp only [wellspringlaw12_AgeLives.j1]
  rw [if_neg (by simp), e1, live_eq, live_eq, live_true]
  have hl : age_Left.f n (n + x) = age_Left.f (n + m) (n + m + x) := by
    by_cases c : 0 < x
    · rw [left_yes n (n + x) (by omega) (by omega) (by omega) (by omega), left_yes (n + m) (n + m + x) (by omega) (by omega) (by omega) (by omega)]
      congr 2; omega
    · rw [left_no n (n + x) (by omega), left_no (n + m) (n + m + x) (by omega)]
  have hs : ∃ r, age_Left.f (n + m) (n + m + x) = some r := by
    by_cases c : 0 < x
    · exact ⟨_, left_yes (n + m) (n + m + x) (by omega) (by omega) (by omega) (by omega)⟩
    · exact ⟨_, left_no (n + m) (n + m + x) (by omega)⟩
  obtain ⟨r, hr⟩ := hs
  rw [hl, hr]
  simp only [Option.bind_some, decide_eq_true_eq]
  by_cases c : 0 ≤ n + m ∧ n + m ≤ 1099511627776 ∧ n + m < n + x
  · rw [if_pos c, if_pos (by omega), if_pos trivial]
  · rw [if_neg c, if_pos trivial]

end Go.Proofs.Ytmjnkcogcbillaa.Pure
