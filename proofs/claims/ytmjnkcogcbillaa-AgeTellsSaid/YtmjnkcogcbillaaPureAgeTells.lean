/- What is due, how long it lives, whether it lives and what is left of it is what the document's answer says, at every two whole numbers; no condition. -/
import Derived.Test.YtmjnkcogcbillaaPAgeTellsx1
namespace Go.Proofs.Ytmjnkcogcbillaa.Pure
open Go.RowKit Go.Proofs.Ytmjnkcogcbillaa.PAgeTells Go.Proofs.YtmjnkcogcbillaaW.PrintWords Go.Proofs.YtmjnkcogcbillaaW.PrintLast

theorem wf_i64 {a : Int} (h : (Lit.int .i64 a).wf = true) : -9223372036854775808 ≤ a ∧ a ≤ 9223372036854775807 := by
  simp [Lit.wf] at h
  exact h

theorem within_eq (a b : Int) : age_within_int.f a b = some (decide (0 ≤ a ∧ a ≤ b)) := by
  unfold age_within_int.f
  by_cases h : a ≥ 0
  · rw [if_pos h]; congr 1; exact decide_eq_decide.2 (by omega)
  · rw [if_neg h]; congr 1; exact (decide_eq_false (by omega)).symm

theorem until_no (a b : Int) (h : ¬(0 ≤ a ∧ a ≤ 1099511627776 ∧ 0 ≤ b)) : age_Until.f a b = some (-1) := by
  unfold age_Until.f
  rw [within_eq]; simp only [Option.bind_some, decide_eq_true_eq]
  by_cases h1 : 0 ≤ a ∧ a ≤ 1099511627776
  · rw [if_pos h1, if_pos (by omega)]
  · rw [if_neg h1]

theorem until_yes (a b : Int) (h0 : 0 ≤ a) (h1 : a ≤ 1099511627776) (h2 : 0 ≤ b) : age_Until.f a b = some (a + mn b 604800) := by
  unfold age_Until.f
  rw [within_eq]; simp only [Option.bind_some, decide_eq_true_eq]
  rw [if_pos ⟨h0, h1⟩, if_neg (by omega)]
  congr 1
  unfold wrap64 mn
  split <;> omega

theorem live_eq (a b : Int) : age_Live.f a b = some (decide (0 ≤ a ∧ a ≤ 1099511627776 ∧ a < b)) := by
  unfold age_Live.f
  rw [within_eq]; simp only [Option.bind_some, decide_eq_true_eq]
  by_cases h1 : 0 ≤ a ∧ a ≤ 1099511627776
  · rw [if_pos h1]; congr 1; exact decide_eq_decide.2 (by omega)
  · rw [if_neg h1]; congr 1; exact (decide_eq_false (by omega)).symm

theorem left_no (a b : Int) (h : ¬(0 ≤ a ∧ a ≤ 1099511627776 ∧ a < b)) : age_Left.f a b = some 0 := by
  unfold age_Left.f
  rw [live_eq]; simp only [Option.bind_some, decide_eq_true_eq]
  rw [if_neg h]

theorem left_yes (a b : Int) (h0 : 0 ≤ a) (h1 : a ≤ 1099511627776) (h2 : a < b) (hb : b ≤ 9223372036854775807) : age_Left.f a b = some (mn (b - a) 604800) := by
  unfold age_Left.f
  rw [live_eq]; simp only [Option.bind_some, decide_eq_true_eq]
  rw [if_pos ⟨h0, h1, h2⟩]
  congr 1
  have : wrap64 (b - a) = b - a := by unfold wrap64; omega
  rw [this]

theorem due_no (a b : Int) (h : ¬(0 ≤ a ∧ a ≤ 1099511627776 ∧ 0 ≤ b ∧ a + b ≤ 1099511627776)) : age_Due.f a b = some (0, false) := by
  unfold age_Due.f
  rw [within_eq]; simp only [Option.bind_some, decide_eq_true_eq]
  by_cases h1 : 0 ≤ a ∧ a ≤ 1099511627776
  · have e : wrap64 (1099511627776 - a) = 1099511627776 - a := by unfold wrap64; omega
    rw [if_pos h1, e, within_eq]; simp only [Option.bind_some, decide_eq_true_eq]
    rw [if_neg (by omega)]
  · rw [if_neg h1]

theorem due_yes (a b : Int) (h0 : 0 ≤ a) (h1 : a ≤ 1099511627776) (h2 : 0 ≤ b) (h3 : a + b ≤ 1099511627776) : age_Due.f a b = some (a + b, true) := by
  unfold age_Due.f
  rw [within_eq]; simp only [Option.bind_some, decide_eq_true_eq]
  have e : wrap64 (1099511627776 - a) = 1099511627776 - a := by unfold wrap64; omega
  rw [if_pos ⟨h0, h1⟩, e, within_eq]; simp only [Option.bind_some, decide_eq_true_eq]
  rw [if_pos (by omega)]
  have e2 : wrap64 (a + b) = a + b := by unfold wrap64; omega
  rw [e2]

theorem live_true : wellspringlaw12_live.f = some true := by decide +kernel

theorem time_eq (a : Int) : wellspringref12_Time.f a = some (decide (0 ≤ a ∧ a ≤ 1099511627776)) := by
  unfold wellspringref12_Time.f
  by_cases h : a ≥ 0
  · rw [if_pos h]; congr 1; exact decide_eq_decide.2 (by omega)
  · rw [if_neg h]; congr 1; exact (decide_eq_false (by omega)).symm

theorem rdue_eq (a b : Int) : wellspringref12_Due.f a b = age_Due.f a b := by
  unfold wellspringref12_Due.f
  rw [time_eq, time_eq]; simp only [Option.bind_some, decide_eq_true_eq]
  by_cases h1 : 0 ≤ a ∧ a ≤ 1099511627776
  · rw [if_pos h1]
    by_cases h2 : 0 ≤ b ∧ b ≤ 1099511627776
    · have e2 : wrap64 (a + b) = a + b := by unfold wrap64; omega
      rw [if_pos h2, e2, time_eq]; simp only [Option.bind_some, decide_eq_true_eq]
      by_cases h3 : 0 ≤ a + b ∧ a + b ≤ 1099511627776
      · rw [if_pos h3, due_yes a b h1.1 h1.2 h2.1 h3.2]
      · rw [if_neg h3, due_no a b (by omega)]
    · rw [if_neg h2, due_no a b (by omega)]
  · rw [if_neg h1, due_no a b (by omega)]

theorem runtil_eq (a b : Int) : wellspringref12_Until.f a b = age_Until.f a b := by
  unfold wellspringref12_Until.f age_Until.f
  rw [time_eq, within_eq]

theorem rlive_eq (a b : Int) : wellspringref12_Live.f a b = age_Live.f a b := by
  unfold wellspringref12_Live.f age_Live.f
  rw [time_eq, within_eq]

theorem rleft_eq (a b : Int) : wellspringref12_Left.f a b = age_Left.f a b := by
  unfold wellspringref12_Left.f age_Left.f
  rw [rlive_eq]

theorem due_some (a b : Int) : ∃ r, age_Due.f a b = some r := by
  by_cases h : 0 ≤ a ∧ a ≤ 1099511627776 ∧ 0 ≤ b ∧ a + b ≤ 1099511627776
  · exact ⟨_, due_yes a b h.1 h.2.1 h.2.2.1 h.2.2.2⟩
  · exact ⟨_, due_no a b h⟩
theorem until_some (a b : Int) : ∃ r, age_Until.f a b = some r := by
  by_cases h : 0 ≤ a ∧ a ≤ 1099511627776 ∧ 0 ≤ b
  · exact ⟨_, until_yes a b h.1 h.2.1 h.2.2⟩
  · exact ⟨_, until_no a b h⟩
theorem left_some (a b : Int) (hb : b ≤ 9223372036854775807) : ∃ r, age_Left.f a b = some r := by
  by_cases h : 0 ≤ a ∧ a ≤ 1099511627776 ∧ a < b
  · exact ⟨_, left_yes a b h.1 h.2.1 h.2.2 hb⟩
  · exact ⟨_, left_no a b h⟩

theorem AgeTells : wellspringlaw12_AgeTells.Pure := by
  intro a b ha hb
  obtain ⟨b0, b1⟩ := wf_i64 hb
  unfold wellspringlaw12_AgeTells.f
  rw [rdue_eq, runtil_eq, rlive_eq, rleft_eq, live_true]
  obtain ⟨d, hd⟩ := due_some a b
  obtain ⟨u, hu⟩ := until_some a b
  obtain ⟨l, hl⟩ := left_some a b b1
  rw [hd, hu, live_eq, hl]
  simp

end Go.Proofs.Ytmjnkcogcbillaa.Pure
