/- What is due so much later is so much later, and waiting twice is waiting once for both; at every three whole numbers; no condition. -/
import Derived.Test.YtmjnkcogcbillaaPAgeDuex1
namespace Go.Proofs.Ytmjnkcogcbillaa.Pure
open Go.RowKit Go.Proofs.Ytmjnkcogcbillaa.PAgeDue Go.Proofs.YtmjnkcogcbillaaW.PrintWords Go.Proofs.YtmjnkcogcbillaaW.PrintLast

theorem wf_i64 {a : Int} (h : (Lit.int .i64 a).wf = true) : -9223372036854775808 ≤ a ∧ a ≤ 9223372036854775807 := by
  simp [Lit.wf] at h
  exact h

theorem within_eq (a b : Int) : age_within_int.f a b = some (decide (0 ≤ a ∧ a ≤ b)) := by
  unfold age_within_int.f
  by_cases h : a ≥ 0
  · rw [if_pos h]; congr 1; exact decide_eq_decide.2 (by omega)
  · rw [if_neg h]; congr 1; exact (decide_eq_false (by omega)).symm

theorem until_no (a b : Int) (h : ¬(0 ≤ a ∧ a ≤ 1099511627776 ∧ 0 ≤ b)) : age_Until.f a b = some (-1) := by
  unfold age_Until.f
  rw [within_eq]; simp only [Option.bind_some, decide_eq_true_eq]
  by_cases h1 : 0 ≤ a ∧ a ≤ 1099511627776
  · rw [if_pos h1, if_pos (by omega)]
  · rw [if_neg h1]

theorem until_yes (a b : Int) (h0 : 0 ≤ a) (h1 : a ≤ 1099511627776) (h2 : 0 ≤ b) : age_Until.f a b = some (a + mn b 604800) := by
  unfold age_Until.f
  rw [within_eq]; simp only [Option.bind_some, decide_eq_true_eq]
  rw [if_pos ⟨h0, h1⟩, if_neg (by omega)]
  congr 1
  unfold wrap64 mn
  split <;> omega

theorem live_eq (a b : Int) : age_Live.f a b = some (decide (0 ≤ a ∧ a ≤ 1099511627776 ∧ a < b)) := by
  unfold age_Live.f
  rw [within_eq]; simp only [Option.bind_some, decide_eq_true_eq]
  by_cases h1 : 0 ≤ a ∧ a ≤ 1099511627776
  · rw [if_pos h1]; congr 1; exact decide_eq_decide.2 (by omega)
  · rw [if_neg h1]; congr 1; exact (decide_eq_false (by omega)).symm

theorem left_no (a b : Int) (h : ¬(0 ≤ a ∧ a ≤ 1099511627776 ∧ a < b)) : age_Left.f a b = some 0 := by
  unfold age_Left.f
  rw [live_eq]; simp only [Option.bind_some, decide_eq_true_eq]
  rw [if_neg h]

theorem left_yes (a b : Int) (h0 : 0 ≤ a) (h1 : a ≤ 1099511627776) (h2 : a < b) (hb : b ≤ 9223372036854775807) : age_Left.f a b = some (mn (b - a) 604800) := by
  unfold age_Left.f
  rw [live_eq]; simp only [Option.bind_some, decide_eq_true_eq]
  rw [if_pos ⟨h0, h1, h2⟩]
  congr 1
  have : wrap64 (b - a) = b - a := by unfold wrap64; omega
  rw [this]

theorem due_no (a b : Int) (h : ¬(0 ≤ a ∧ a ≤ 1099511627776 ∧ 0 ≤ b ∧ a + b ≤ 1099511627776)) : age_Due.f a b = some (0, false) := by
  unfold age_Due.f
  rw [within_eq]; simp only [Option.bind_some, decide_eq_true_eq]
  by_cases h1 : 0 ≤ a ∧ a ≤ 1099511627776
  · have e : wrap64 (1099511627776 - a) = 1099511627776 - a := by unfold wrap64; omega
    rw [if_pos h1, e, within_eq]; simp only [Option.bind_some, decide_eq_true_eq]
    rw [if_neg (by omega)]
  · rw [if_neg h1]

theorem due_yes (a b : Int) (h0 : 0 ≤ a) (h1 : a ≤ 1099511627776) (h2 : 0 ≤ b) (h3 : a + b ≤ 1099511627776) : age_Due.f a b = some (a + b, true) := by
  unfold age_Due.f
  rw [within_eq]; simp only [Option.bind_some, decide_eq_true_eq]
  have e : wrap64 (1099511627776 - a) = 1099511627776 - a := by unfold wrap64; omega
  rw [if_pos ⟨h0, h1⟩, e, within_eq]; simp only [Option.bind_some, decide_eq_true_eq]
  rw [if_pos (by omega)]
  have e2 : wrap64 (a + b) = a + b := by unfold wrap64; omega
  rw [e2]

theorem live_true : wellspringlaw12_live.f = some true := by decide +kernel

theorem AgeDue : wellspringlaw12_AgeDue.Pure := by
  intro n a b hn ha hb
  obtain ⟨n0, n1⟩ := wf_i64 hn
  obtain ⟨a0, a1⟩ := wf_i64 ha
  obtain ⟨b0, b1⟩ := wf_i64 hb
  refine ⟨9, ?_⟩
  unfold wellspringlaw12_AgeDue.f
  by_cases h : 0 ≤ n ∧ n ≤ 1099511627776 ∧ 0 ≤ a ∧ n + a ≤ 1099511627776
  · obtain ⟨h0, h1, h2, h3⟩ := h
    rw [due_yes n a h0 h1 h2 h3]; simp only [Option.bind_some, if_true]
    have e : wrap64 (n + a - n) = a := by unfold wrap64; omega
    rw [if_pos e, if_neg (by omega)]
    have e2 : decide (n + a > 1099511627776) = false := by simp; omega
    rw [e2]
    simp only [wellspringlaw12_AgeDue.j0]
    rw [if_neg (by simp), if_pos trivial]
    by_cases c : 0 ≤ b ∧ b ≤ 1099511627776
    · have e3 : wrap64 (a + b) = a + b := by unfold wrap64; omega
      by_cases c2 : n + a + b ≤ 1099511627776
      · rw [due_yes (n + a) b (by omega) h3 c.1 c2]; simp only [Option.bind_some]
        rw [if_neg (by omega)]
        have e4 : decide (b > 1099511627776) = false := by simp; omega
        rw [e4]
        simp only [wellspringlaw12_AgeDue.j1]
        rw [if_neg (by simp), e3, due_yes n (a + b) h0 h1 (by omega) (by omega)]; simp only [Option.bind_some]
        rw [if_pos (by simp), if_pos trivial, if_pos (by omega), live_true]; rfl
      · rw [due_no (n + a) b (by omega)]; simp only [Option.bind_some]
        rw [if_neg (by omega)]
        have e4 : decide (b > 1099511627776) = false := by simp; omega
        rw [e4]
        simp only [wellspringlaw12_AgeDue.j1]
        rw [if_neg (by simp), e3, due_no n (a + b) (by omega)]; simp only [Option.bind_some]
        rw [if_pos (by simp), if_neg (by simp), live_true]; rfl
    · rw [due_no (n + a) b (by omega)]; simp only [Option.bind_some]
      have key : wellspringlaw12_AgeDue.j1 8 n a b 0 false true = some true := by
        simp only [wellspringlaw12_AgeDue.j1]
        rw [if_pos trivial, if_neg (by simp), live_true]; rfl
      by_cases c2 : b < 0
      · rw [if_pos c2]; exact key
      · rw [if_neg c2]
        have e4 : decide (b > 1099511627776) = true := by simp; omega
        rw [e4]; exact key
  · rw [due_no n a h]; simp only [Option.bind_some]
    rw [if_neg (by simp)]
    simp only [wellspringlaw12_AgeDue.j0]
    rw [if_neg (by simp), if_neg (by simp), if_pos trivial, live_true]; rfl

end Go.Proofs.Ytmjnkcogcbillaa.Pure
