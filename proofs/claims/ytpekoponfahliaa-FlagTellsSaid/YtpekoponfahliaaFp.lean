/- What the document's P7.4 leans on, in numbers alone: a field that is laid is told, and no other one is another. -/
import Derived.Test.YtpekoponfahliaaFm
namespace Go.Proofs.Ytpekoponfahliaa.Fp
open Go.Proofs.Ytpekoponfahliaa.Fl Go.Proofs.Ytpekoponfahliaa.Fm

theorem may_iff (f b : Int) : mayB f b = true ↔ (0 ≤ b ∧ b ≤ 65535 ∧ 0 ≤ f ∧ f < 9) := by unfold mayB; simp
theorem nine {f : Int} (h0 : 0 ≤ f) (h1 : f < 9) : f = 0 ∨ f = 1 ∨ f = 2 ∨ f = 3 ∨ f = 4 ∨ f = 5 ∨ f = 6 ∨ f = 7 ∨ f = 8 := by omega

theorem of0_eq (b : Int) (h0 : 0 ≤ b) (h1 : b ≤ 65535) : ofF 0 b = b / 32768 % 2 := by
  unfold ofF; rw [if_pos ((may_iff 0 b).2 ⟨h0, h1, by omega, by omega⟩)]; rfl
theorem with0_eq (b v : Int) (h0 : 0 ≤ b) (h1 : b ≤ 65535) (v0 : 0 ≤ v) (v1 : v < 2) : withF 0 b v = b + (v - b / 32768 % 2) * 32768 := by
  unfold withF
  have : okB 0 b v = true := by unfold okB; rw [(may_iff 0 b).2 ⟨h0, h1, by omega, by omega⟩]; have e : wid 0 = 2 := rfl; rw [e]; simp [v0, v1]
  rw [if_pos this, of0_eq b h0 h1]; rfl
theorem of0_bd (b : Int) : 0 ≤ ofF 0 b ∧ ofF 0 b < 2 := by
  by_cases h : 0 ≤ b ∧ b ≤ 65535
  · rw [of0_eq b h.1 h.2]; omega
  · unfold ofF; rw [if_neg (by rw [may_iff]; omega)]; omega

theorem of1_eq (b : Int) (h0 : 0 ≤ b) (h1 : b ≤ 65535) : ofF 1 b = b / 2048 % 16 := by
  unfold ofF; rw [if_pos ((may_iff 1 b).2 ⟨h0, h1, by omega, by omega⟩)]; rfl
theorem with1_eq (b v : Int) (h0 : 0 ≤ b) (h1 : b ≤ 65535) (v0 : 0 ≤ v) (v1 : v < 16) : withF 1 b v = b + (v - b / 2048 % 16) * 2048 := by
  unfold withF
  have : okB 1 b v = true := by unfold okB; rw [(may_iff 1 b).2 ⟨h0, h1, by omega, by omega⟩]; have e : wid 1 = 16 := rfl; rw [e]; simp [v0, v1]
  rw [if_pos this, of1_eq b h0 h1]; rfl
theorem of1_bd (b : Int) : 0 ≤ ofF 1 b ∧ ofF 1 b < 16 := by
  by_cases h : 0 ≤ b ∧ b ≤ 65535
  · rw [of1_eq b h.1 h.2]; omega
  · unfold ofF; rw [if_neg (by rw [may_iff]; omega)]; omega

theorem of2_eq (b : Int) (h0 : 0 ≤ b) (h1 : b ≤ 65535) : ofF 2 b = b / 1024 % 2 := by
  unfold ofF; rw [if_pos ((may_iff 2 b).2 ⟨h0, h1, by omega, by omega⟩)]; rfl
theorem with2_eq (b v : Int) (h0 : 0 ≤ b) (h1 : b ≤ 65535) (v0 : 0 ≤ v) (v1 : v < 2) : withF 2 b v = b + (v - b / 1024 % 2) * 1024 := by
  unfold withF
  have : okB 2 b v = true := by unfold okB; rw [(may_iff 2 b).2 ⟨h0, h1, by omega, by omega⟩]; have e : wid 2 = 2 := rfl; rw [e]; simp [v0, v1]
  rw [if_pos this, of2_eq b h0 h1]; rfl
theorem of2_bd (b : Int) : 0 ≤ ofF 2 b ∧ ofF 2 b < 2 := by
  by_cases h : 0 ≤ b ∧ b ≤ 65535
  · rw [of2_eq b h.1 h.2]; omega
  · unfold ofF; rw [if_neg (by rw [may_iff]; omega)]; omega

theorem of3_eq (b : Int) (h0 : 0 ≤ b) (h1 : b ≤ 65535) : ofF 3 b = b / 512 % 2 := by
  unfold ofF; rw [if_pos ((may_iff 3 b).2 ⟨h0, h1, by omega, by omega⟩)]; rfl
theorem with3_eq (b v : Int) (h0 : 0 ≤ b) (h1 : b ≤ 65535) (v0 : 0 ≤ v) (v1 : v < 2) : withF 3 b v = b + (v - b / 512 % 2) * 512 := by
  unfold withF
  have : okB 3 b v = true := by unfold okB; rw [(may_iff 3 b).2 ⟨h0, h1, by omega, by omega⟩]; have e : wid 3 = 2 := rfl; rw [e]; simp [v0, v1]
  rw [if_pos this, of3_eq b h0 h1]; rfl
theorem of3_bd (b : Int) : 0 ≤ ofF 3 b ∧ ofF 3 b < 2 := by
  by_cases h : 0 ≤ b ∧ b ≤ 65535
  · rw [of3_eq b h.1 h.2]; omega
  · unfold ofF; rw [if_neg (by rw [may_iff]; omega)]; omega

theorem of4_eq (b : Int) (h0 : 0 ≤ b) (h1 : b ≤ 65535) : ofF 4 b = b / 256 % 2 := by
  unfold ofF; rw [if_pos ((may_iff 4 b).2 ⟨h0, h1, by omega, by omega⟩)]; rfl
theorem with4_eq (b v : Int) (h0 : 0 ≤ b) (h1 : b ≤ 65535) (v0 : 0 ≤ v) (v1 : v < 2) : withF 4 b v = b + (v - b / 256 % 2) * 256 := by
  unfold withF
  have : okB 4 b v = true := by unfold okB; rw [(may_iff 4 b).2 ⟨h0, h1, by omega, by omega⟩]; have e : wid 4 = 2 := rfl; rw [e]; simp [v0, v1]
  rw [if_pos this, of4_eq b h0 h1]; rfl
theorem of4_bd (b : Int) : 0 ≤ ofF 4 b ∧ ofF 4 b < 2 := by
  by_cases h : 0 ≤ b ∧ b ≤ 65535
  · rw [of4_eq b h.1 h.2]; omega
  · unfold ofF; rw [if_neg (by rw [may_iff]; omega)]; omega

theorem of5_eq (b : Int) (h0 : 0 ≤ b) (h1 : b ≤ 65535) : ofF 5 b = b / 128 % 2 := by
  unfold ofF; rw [if_pos ((may_iff 5 b).2 ⟨h0, h1, by omega, by omega⟩)]; rfl
theorem with5_eq (b v : Int) (h0 : 0 ≤ b) (h1 : b ≤ 65535) (v0 : 0 ≤ v) (v1 : v < 2) : withF 5 b v = b + (v - b / 128 % 2) * 128 := by
  unfold withF
  have : okB 5 b v = true := by unfold okB; rw [(may_iff 5 b).2 ⟨h0, h1, by omega, by omega⟩]; have e : wid 5 = 2 := rfl; rw [e]; simp [v0, v1]
  rw [if_pos this, of5_eq b h0 h1]; rfl
theorem of5_bd (b : Int) : 0 ≤ ofF 5 b ∧ ofF 5 b < 2 := by
  by_cases h : 0 ≤ b ∧ b ≤ 65535
  · rw [of5_eq b h.1 h.2]; omega
  · unfold ofF; rw [if_neg (by rw [may_iff]; omega)]; omega

theorem of6_eq (b : Int) (h0 : 0 ≤ b) (h1 : b ≤ 65535) : ofF 6 b = b / 32 % 2 := by
  unfold ofF; rw [if_pos ((may_iff 6 b).2 ⟨h0, h1, by omega, by omega⟩)]; rfl
theorem with6_eq (b v : Int) (h0 : 0 ≤ b) (h1 : b ≤ 65535) (v0 : 0 ≤ v) (v1 : v < 2) : withF 6 b v = b + (v - b / 32 % 2) * 32 := by
  unfold withF
  have : okB 6 b v = true := by unfold okB; rw [(may_iff 6 b).2 ⟨h0, h1, by omega, by omega⟩]; have e : wid 6 = 2 := rfl; rw [e]; simp [v0, v1]
  rw [if_pos this, of6_eq b h0 h1]; rfl
theorem of6_bd (b : Int) : 0 ≤ ofF 6 b ∧ ofF 6 b < 2 := by
  by_cases h : 0 ≤ b ∧ b ≤ 65535
  · rw [of6_eq b h.1 h.2]; omega
  · unfold ofF; rw [if_neg (by rw [may_iff]; omega)]; omega

theorem of7_eq (b : Int) (h0 : 0 ≤ b) (h1 : b ≤ 65535) : ofF 7 b = b / 16 % 2 := by
  unfold ofF; rw [if_pos ((may_iff 7 b).2 ⟨h0, h1, by omega, by omega⟩)]; rfl
theorem with7_eq (b v : Int) (h0 : 0 ≤ b) (h1 : b ≤ 65535) (v0 : 0 ≤ v) (v1 : v < 2) : withF 7 b v = b + (v - b / 16 % 2) * 16 := by
  unfold withF
  have : okB 7 b v = true := by unfold okB; rw [(may_iff 7 b).2 ⟨h0, h1, by omega, by omega⟩]; have e : wid 7 = 2 := rfl; rw [e]; simp [v0, v1]
  rw [if_pos this, of7_eq b h0 h1]; rfl
theorem of7_bd (b : Int) : 0 ≤ ofF 7 b ∧ ofF 7 b < 2 := by
  by_cases h : 0 ≤ b ∧ b ≤ 65535
  · rw [of7_eq b h.1 h.2]; omega
  · unfold ofF; rw [if_neg (by rw [may_iff]; omega)]; omega

theorem of8_eq (b : Int) (h0 : 0 ≤ b) (h1 : b ≤ 65535) : ofF 8 b = b / 1 % 16 := by
  unfold ofF; rw [if_pos ((may_iff 8 b).2 ⟨h0, h1, by omega, by omega⟩)]; rfl
theorem with8_eq (b v : Int) (h0 : 0 ≤ b) (h1 : b ≤ 65535) (v0 : 0 ≤ v) (v1 : v < 16) : withF 8 b v = b + (v - b / 1 % 16) * 1 := by
  unfold withF
  have : okB 8 b v = true := by unfold okB; rw [(may_iff 8 b).2 ⟨h0, h1, by omega, by omega⟩]; have e : wid 8 = 16 := rfl; rw [e]; simp [v0, v1]
  rw [if_pos this, of8_eq b h0 h1]; rfl
theorem of8_bd (b : Int) : 0 ≤ ofF 8 b ∧ ofF 8 b < 16 := by
  by_cases h : 0 ≤ b ∧ b ≤ 65535
  · rw [of8_eq b h.1 h.2]; omega
  · unfold ofF; rw [if_neg (by rw [may_iff]; omega)]; omega

theorem capC_bd (c : Int) : 0 ≤ capC c ∧ capC c < 16 := by unfold capC; split <;> omega
/-- The bits of an answer, as a sum. -/
theorem ans_eq (a c : Int) : ans3 a c = 32896 + capC c + ofF 1 a * 2048 + ofF 4 a * 256 + ofF 7 a * 16 := by
  have hc := capC_bd c
  have h1 := of1_bd a
  have h4 := of4_bd a
  have h7 := of7_bd a
  have e0 : ans0 c = 32896 + capC c := by
    unfold ans0; rw [with8_eq _ _ (by omega) (by omega) hc.1 hc.2]; omega
  have e1 : ans1 a c = 32896 + capC c + ofF 1 a * 2048 := by
    unfold ans1; rw [e0, with1_eq _ _ (by omega) (by omega) h1.1 h1.2]; omega
  have e2 : ans2 a c = 32896 + capC c + ofF 1 a * 2048 + ofF 4 a * 256 := by
    unfold ans2; rw [e1, with4_eq _ _ (by omega) (by omega) h4.1 h4.2]; omega
  unfold ans3; rw [e2, with7_eq _ _ (by omega) (by omega) h7.1 h7.2]; omega
theorem ans_bd (a c : Int) : 0 ≤ ans3 a c ∧ ans3 a c ≤ 65535 := by
  have hc := capC_bd c
  have h1 := of1_bd a
  have h4 := of4_bd a
  have h7 := of7_bd a
  rw [ans_eq]; omega
theorem ans_fields (a c : Int) : ofF 0 (ans3 a c) = 1 ∧ ofF 5 (ans3 a c) = 1 ∧ ofF 2 (ans3 a c) = 0 ∧ ofF 3 (ans3 a c) = 0 ∧ ofF 6 (ans3 a c) = 0 ∧ ofF 1 (ans3 a c) = ofF 1 a ∧ ofF 4 (ans3 a c) = ofF 4 a ∧ ofF 7 (ans3 a c) = ofF 7 a ∧ ofF 8 (ans3 a c) = capC c := by
  have hb := ans_bd a c
  have hc := capC_bd c
  have h1 := of1_bd a
  have h4 := of4_bd a
  have h7 := of7_bd a
  rw [of0_eq _ hb.1 hb.2, of5_eq _ hb.1 hb.2, of2_eq _ hb.1 hb.2, of3_eq _ hb.1 hb.2, of6_eq _ hb.1 hb.2, of1_eq (ans3 a c) hb.1 hb.2, of4_eq (ans3 a c) hb.1 hb.2, of7_eq (ans3 a c) hb.1 hb.2, of8_eq _ hb.1 hb.2]
  rw [ans_eq]
  generalize ofF 1 a = x at *
  generalize ofF 4 a = y at *
  generalize ofF 7 a = z at *
  generalize capC c = u at *
  refine ⟨?_, ?_, ?_, ?_, ?_, ?_, ?_, ?_, ?_⟩ <;> omega
theorem ans_again (a c : Int) : ans3 (ans3 a c) c = ans3 a c := by
  obtain ⟨_, _, _, _, _, h1, h4, h7, _⟩ := ans_fields a c
  rw [ans_eq (ans3 a c) c, h1, h4, h7, ← ans_eq]
end Go.Proofs.Ytpekoponfahliaa.Fp
