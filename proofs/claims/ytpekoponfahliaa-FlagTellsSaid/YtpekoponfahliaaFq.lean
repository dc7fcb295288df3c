/- A field that is laid is told, no other one is another, and fields are laid in any order: in numbers alone. -/
import Derived.Test.YtpekoponfahliaaFp
namespace Go.Proofs.Ytpekoponfahliaa.Fq
open Go.Proofs.Ytpekoponfahliaa.Fb Go.Proofs.Ytpekoponfahliaa.Fl Go.Proofs.Ytpekoponfahliaa.Fm Go.Proofs.Ytpekoponfahliaa.Fp

theorem ok_iff (f b v : Int) : okB f b v = true ↔ ((0 ≤ b ∧ b ≤ 65535 ∧ 0 ≤ f ∧ f < 9) ∧ 0 ≤ v ∧ v < wid f) := by
  unfold okB; rw [Bool.and_eq_true, may_iff]; simp
theorem with_bd (f b v : Int) (h : okB f b v = true) : 0 ≤ withF f b v ∧ withF f b v ≤ 65535 := by
  obtain ⟨⟨h0, h1, h2, h3⟩, v0, v1⟩ := (ok_iff f b v).1 h
  rcases nine h2 h3 with rfl | rfl | rfl | rfl | rfl | rfl | rfl | rfl | rfl
  · have v2 : v < 2 := v1
    rw [with0_eq b v h0 h1 v0 v2]; omega
  · have v2 : v < 16 := v1
    rw [with1_eq b v h0 h1 v0 v2]; omega
  · have v2 : v < 2 := v1
    rw [with2_eq b v h0 h1 v0 v2]; omega
  · have v2 : v < 2 := v1
    rw [with3_eq b v h0 h1 v0 v2]; omega
  · have v2 : v < 2 := v1
    rw [with4_eq b v h0 h1 v0 v2]; omega
  · have v2 : v < 2 := v1
    rw [with5_eq b v h0 h1 v0 v2]; omega
  · have v2 : v < 2 := v1
    rw [with6_eq b v h0 h1 v0 v2]; omega
  · have v2 : v < 2 := v1
    rw [with7_eq b v h0 h1 v0 v2]; omega
  · have v2 : v < 16 := v1
    rw [with8_eq b v h0 h1 v0 v2]; omega
theorem of_lt (f b : Int) (h2 : 0 ≤ f) (h3 : f < 9) : 0 ≤ ofF f b ∧ ofF f b < wid f := by
  rcases nine h2 h3 with rfl | rfl | rfl | rfl | rfl | rfl | rfl | rfl | rfl
  · exact of0_bd b
  · exact of1_bd b
  · exact of2_bd b
  · exact of3_bd b
  · exact of4_bd b
  · exact of5_bd b
  · exact of6_bd b
  · exact of7_bd b
  · exact of8_bd b

theorem told_0 (g b v : Int) (h0 : 0 ≤ b) (h1 : b ≤ 65535) (v0 : 0 ≤ v) (v1 : v < 2) (g0 : 0 ≤ g) (g1 : g < 9) : ofF g (withF 0 b v) = if g = 0 then v else ofF g b := by
  have hb := with_bd 0 b v ((ok_iff _ _ _).2 ⟨⟨h0, h1, by omega, by omega⟩, v0, v1⟩)
  rcases nine g0 g1 with rfl | rfl | rfl | rfl | rfl | rfl | rfl | rfl | rfl
  · rw [of0_eq _ hb.1 hb.2, with0_eq b v h0 h1 v0 v1, if_pos rfl]; omega
  · rw [of1_eq _ hb.1 hb.2, with0_eq b v h0 h1 v0 v1, if_neg (by decide), of1_eq b h0 h1]; omega
  · rw [of2_eq _ hb.1 hb.2, with0_eq b v h0 h1 v0 v1, if_neg (by decide), of2_eq b h0 h1]; omega
  · rw [of3_eq _ hb.1 hb.2, with0_eq b v h0 h1 v0 v1, if_neg (by decide), of3_eq b h0 h1]; omega
  · rw [of4_eq _ hb.1 hb.2, with0_eq b v h0 h1 v0 v1, if_neg (by decide), of4_eq b h0 h1]; omega
  · rw [of5_eq _ hb.1 hb.2, with0_eq b v h0 h1 v0 v1, if_neg (by decide), of5_eq b h0 h1]; omega
  · rw [of6_eq _ hb.1 hb.2, with0_eq b v h0 h1 v0 v1, if_neg (by decide), of6_eq b h0 h1]; omega
  · rw [of7_eq _ hb.1 hb.2, with0_eq b v h0 h1 v0 v1, if_neg (by decide), of7_eq b h0 h1]; omega
  · rw [of8_eq _ hb.1 hb.2, with0_eq b v h0 h1 v0 v1, if_neg (by decide), of8_eq b h0 h1]; omega

theorem told_1 (g b v : Int) (h0 : 0 ≤ b) (h1 : b ≤ 65535) (v0 : 0 ≤ v) (v1 : v < 16) (g0 : 0 ≤ g) (g1 : g < 9) : ofF g (withF 1 b v) = if g = 1 then v else ofF g b := by
  have hb := with_bd 1 b v ((ok_iff _ _ _).2 ⟨⟨h0, h1, by omega, by omega⟩, v0, v1⟩)
  rcases nine g0 g1 with rfl | rfl | rfl | rfl | rfl | rfl | rfl | rfl | rfl
  · rw [of0_eq _ hb.1 hb.2, with1_eq b v h0 h1 v0 v1, if_neg (by decide), of0_eq b h0 h1]; omega
  · rw [of1_eq _ hb.1 hb.2, with1_eq b v h0 h1 v0 v1, if_pos rfl]; omega
  · rw [of2_eq _ hb.1 hb.2, with1_eq b v h0 h1 v0 v1, if_neg (by decide), of2_eq b h0 h1]; omega
  · rw [of3_eq _ hb.1 hb.2, with1_eq b v h0 h1 v0 v1, if_neg (by decide), of3_eq b h0 h1]; omega
  · rw [of4_eq _ hb.1 hb.2, with1_eq b v h0 h1 v0 v1, if_neg (by decide), of4_eq b h0 h1]; omega
  · rw [of5_eq _ hb.1 hb.2, with1_eq b v h0 h1 v0 v1, if_neg (by decide), of5_eq b h0 h1]; omega
  · rw [of6_eq _ hb.1 hb.2, with1_eq b v h0 h1 v0 v1, if_neg (by decide), of6_eq b h0 h1]; omega
  · rw [of7_eq _ hb.1 hb.2, with1_eq b v h0 h1 v0 v1, if_neg (by decide), of7_eq b h0 h1]; omega
  · rw [of8_eq _ hb.1 hb.2, with1_eq b v h0 h1 v0 v1, if_neg (by decide), of8_eq b h0 h1]; omega

theorem told_2 (g b v : Int) (h0 : 0 ≤ b) (h1 : b ≤ 65535) (v0 : 0 ≤ v) (v1 : v < 2) (g0 : 0 ≤ g) (g1 : g < 9) : ofF g (withF 2 b v) = if g = 2 then v else ofF g b := by
  have hb := with_bd 2 b v ((ok_iff _ _ _).2 ⟨⟨h0, h1, by omega, by omega⟩, v0, v1⟩)
  rcases nine g0 g1 with rfl | rfl | rfl | rfl | rfl | rfl | rfl | rfl | rfl
  · rw [of0_eq _ hb.1 hb.2, with2_eq b v h0 h1 v0 v1, if_neg (by decide), of0_eq b h0 h1]; omega
  · rw [of1_eq _ hb.1 hb.2, with2_eq b v h0 h1 v0 v1, if_neg (by decide), of1_eq b h0 h1]; omega
  · rw [of2_eq _ hb.1 hb.2, with2_eq b v h0 h1 v0 v1, if_pos rfl]; omega
  · rw [of3_eq _ hb.1 hb.2, with2_eq b v h0 h1 v0 v1, if_neg (by decide), of3_eq b h0 h1]; omega
  · rw [of4_eq _ hb.1 hb.2, with2_eq b v h0 h1 v0 v1, if_neg (by decide), of4_eq b h0 h1]; omega
  · rw [of5_eq _ hb.1 hb.2, with2_eq b v h0 h1 v0 v1, if_neg (by decide), of5_eq b h0 h1]; omega
  · rw [of6_eq _ hb.1 hb.2, with2_eq b v h0 h1 v0 v1, if_neg (by decide), of6_eq b h0 h1]; omega
  · rw [of7_eq _ hb.1 hb.2, with2_eq b v h0 h1 v0 v1, if_neg (by decide), of7_eq b h0 h1]; omega
  · rw [of8_eq _ hb.1 hb.2, with2_eq b v h0 h1 v0 v1, if_neg (by decide), of8_eq b h0 h1]; omega

theorem told_3 (g b v : Int) (h0 : 0 ≤ b) (h1 : b ≤ 65535) (v0 : 0 ≤ v) (v1 : v < 2) (g0 : 0 ≤ g) (g1 : g < 9) : ofF g (withF 3 b v) = if g = 3 then v else ofF g b := by
  have hb := with_bd 3 b v ((ok_iff _ _ _).2 ⟨⟨h0, h1, by omega, by omega⟩, v0, v1⟩)
  rcases nine g0 g1 with rfl | rfl | rfl | rfl | rfl | rfl | rfl | rfl | rfl
  · rw [of0_eq _ hb.1 hb.2, with3_eq b v h0 h1 v0 v1, if_neg (by decide), of0_eq b h0 h1]; omega
  · rw [of1_eq _ hb.1 hb.2, with3_eq b v h0 h1 v0 v1, if_neg (by decide), of1_eq b h0 h1]; omega
  · rw [of2_eq _ hb.1 hb.2, with3_eq b v h0 h1 v0 v1, if_neg (by decide), of2_eq b h0 h1]; omega
  · rw [of3_eq _ hb.1 hb.2, with3_eq b v h0 h1 v0 v1, if_pos rfl]; omega
  · rw [of4_eq _ hb.1 hb.2, with3_eq b v h0 h1 v0 v1, if_neg (by decide), of4_eq b h0 h1]; omega
  · rw [of5_eq _ hb.1 hb.2, with3_eq b v h0 h1 v0 v1, if_neg (by decide), of5_eq b h0 h1]; omega
  · rw [of6_eq _ hb.1 hb.2, with3_eq b v h0 h1 v0 v1, if_neg (by decide), of6_eq b h0 h1]; omega
  · rw [of7_eq _ hb.1 hb.2, with3_eq b v h0 h1 v0 v1, if_neg (by decide), of7_eq b h0 h1]; omega
  · rw [of8_eq _ hb.1 hb.2, with3_eq b v h0 h1 v0 v1, if_neg (by decide), of8_eq b h0 h1]; omega

theorem told_4 (g b v : Int) (h0 : 0 ≤ b) (h1 : b ≤ 65535) (v0 : 0 ≤ v) (v1 : v < 2) (g0 : 0 ≤ g) (g1 : g < 9) : ofF g (withF 4 b v) = if g = 4 then v else ofF g b := by
  have hb := with_bd 4 b v ((ok_iff _ _ _).2 ⟨⟨h0, h1, by omega, by omega⟩, v0, v1⟩)
  rcases nine g0 g1 with rfl | rfl | rfl | rfl | rfl | rfl | rfl | rfl | rfl
  · rw [of0_eq _ hb.1 hb.2, with4_eq b v h0 h1 v0 v1, if_neg (by decide), of0_eq b h0 h1]; omega
  · rw [of1_eq _ hb.1 hb.2, with4_eq b v h0 h1 v0 v1, if_neg (by decide), of1_eq b h0 h1]; omega
  · rw [of2_eq _ hb.1 hb.2, with4_eq b v h0 h1 v0 v1, if_neg (by decide), of2_eq b h0 h1]; omega
  · rw [of3_eq _ hb.1 hb.2, with4_eq b v h0 h1 v0 v1, if_neg (by decide), of3_eq b h0 h1]; omega
  · rw [of4_eq _ hb.1 hb.2, with4_eq b v h0 h1 v0 v1, if_pos rfl]; omega
  · rw [of5_eq _ hb.1 hb.2, with4_eq b v h0 h1 v0 v1, if_neg (by decide), of5_eq b h0 h1]; omega
  · rw [of6_eq _ hb.1 hb.2, with4_eq b v h0 h1 v0 v1, if_neg (by decide), of6_eq b h0 h1]; omega
  · rw [of7_eq _ hb.1 hb.2, with4_eq b v h0 h1 v0 v1, if_neg (by decide), of7_eq b h0 h1]; omega
  · rw [of8_eq _ hb.1 hb.2, with4_eq b v h0 h1 v0 v1, if_neg (by decide), of8_eq b h0 h1]; omega

theorem told_5 (g b v : Int) (h0 : 0 ≤ b) (h1 : b ≤ 65535) (v0 : 0 ≤ v) (v1 : v < 2) (g0 : 0 ≤ g) (g1 : g < 9) : ofF g (withF 5 b v) = if g = 5 then v else ofF g b := by
  have hb := with_bd 5 b v ((ok_iff _ _ _).2 ⟨⟨h0, h1, by omega, by omega⟩, v0, v1⟩)
  rcases nine g0 g1 with rfl | rfl | rfl | rfl | rfl | rfl | rfl | rfl | rfl
  · rw [of0_eq _ hb.1 hb.2, with5_eq b v h0 h1 v0 v1, if_neg (by decide), of0_eq b h0 h1]; omega
  · rw [of1_eq _ hb.1 hb.2, with5_eq b v h0 h1 v0 v1, if_neg (by decide), of1_eq b h0 h1]; omega
  · rw [of2_eq _ hb.1 hb.2, with5_eq b v h0 h1 v0 v1, if_neg (by decide), of2_eq b h0 h1]; omega
  · rw [of3_eq _ hb.1 hb.2, with5_eq b v h0 h1 v0 v1, if_neg (by decide), of3_eq b h0 h1]; omega
  · rw [of4_eq _ hb.1 hb.2, with5_eq b v h0 h1 v0 v1, if_neg (by decide), of4_eq b h0 h1]; omega
  · rw [of5_eq _ hb.1 hb.2, with5_eq b v h0 h1 v0 v1, if_pos rfl]; omega
  · rw [of6_eq _ hb.1 hb.2, with5_eq b v h0 h1 v0 v1, if_neg (by decide), of6_eq b h0 h1]; omega
  · rw [of7_eq _ hb.1 hb.2, with5_eq b v h0 h1 v0 v1, if_neg (by decide), of7_eq b h0 h1]; omega
  · rw [of8_eq _ hb.1 hb.2, with5_eq b v h0 h1 v0 v1, if_neg (by decide), of8_eq b h0 h1]; omega

theorem told_6 (g b v : Int) (h0 : 0 ≤ b) (h1 : b ≤ 65535) (v0 : 0 ≤ v) (v1 : v < 2) (g0 : 0 ≤ g) (g1 : g < 9) : ofF g (withF 6 b v) = if g = 6 then v else ofF g b := by
  have hb := with_bd 6 b v ((ok_iff _ _ _).2 ⟨⟨h0, h1, by omega, by omega⟩, v0, v1⟩)
  rcases nine g0 g1 with rfl | rfl | rfl | rfl | rfl | rfl | rfl | rfl | rfl
  · rw [of0_eq _ hb.1 hb.2, with6_eq b v h0 h1 v0 v1, if_neg (by decide), of0_eq b h0 h1]; omega
  · rw [of1_eq _ hb.1 hb.2, with6_eq b v h0 h1 v0 v1, if_neg (by decide), of1_eq b h0 h1]; omega
  · rw [of2_eq _ hb.1 hb.2, with6_eq b v h0 h1 v0 v1, if_neg (by decide), of2_eq b h0 h1]; omega
  · rw [of3_eq _ hb.1 hb.2, with6_eq b v h0 h1 v0 v1, if_neg (by decide), of3_eq b h0 h1]; omega
  · rw [of4_eq _ hb.1 hb.2, with6_eq b v h0 h1 v0 v1, if_neg (by decide), of4_eq b h0 h1]; omega
  · rw [of5_eq _ hb.1 hb.2, with6_eq b v h0 h1 v0 v1, if_neg (by decide), of5_eq b h0 h1]; omega
  · rw [of6_eq _ hb.1 hb.2, with6_eq b v h0 h1 v0 v1, if_pos rfl]; omega
  · rw [of7_eq _ hb.1 hb.2, with6_eq b v h0 h1 v0 v1, if_neg (by decide), of7_eq b h0 h1]; omega
  · rw [of8_eq _ hb.1 hb.2, with6_eq b v h0 h1 v0 v1, if_neg (by decide), of8_eq b h0 h1]; omega

theorem told_7 (g b v : Int) (h0 : 0 ≤ b) (h1 : b ≤ 65535) (v0 : 0 ≤ v) (v1 : v < 2) (g0 : 0 ≤ g) (g1 : g < 9) : ofF g (withF 7 b v) = if g = 7 then v else ofF g b := by
  have hb := with_bd 7 b v ((ok_iff _ _ _).2 ⟨⟨h0, h1, by omega, by omega⟩, v0, v1⟩)
  rcases nine g0 g1 with rfl | rfl | rfl | rfl | rfl | rfl | rfl | rfl | rfl
  · rw [of0_eq _ hb.1 hb.2, with7_eq b v h0 h1 v0 v1, if_neg (by decide), of0_eq b h0 h1]; omega
  · rw [of1_eq _ hb.1 hb.2, with7_eq b v h0 h1 v0 v1, if_neg (by decide), of1_eq b h0 h1]; omega
  · rw [of2_eq _ hb.1 hb.2, with7_eq b v h0 h1 v0 v1, if_neg (by decide), of2_eq b h0 h1]; omega
  · rw [of3_eq _ hb.1 hb.2, with7_eq b v h0 h1 v0 v1, if_neg (by decide), of3_eq b h0 h1]; omega
  · rw [of4_eq _ hb.1 hb.2, with7_eq b v h0 h1 v0 v1, if_neg (by decide), of4_eq b h0 h1]; omega
  · rw [of5_eq _ hb.1 hb.2, with7_eq b v h0 h1 v0 v1, if_neg (by decide), of5_eq b h0 h1]; omega
  · rw [of6_eq _ hb.1 hb.2, with7_eq b v h0 h1 v0 v1, if_neg (by decide), of6_eq b h0 h1]; omega
  · rw [of7_eq _ hb.1 hb.2, with7_eq b v h0 h1 v0 v1, if_pos rfl]; omega
  · rw [of8_eq _ hb.1 hb.2, with7_eq b v h0 h1 v0 v1, if_neg (by decide), of8_eq b h0 h1]; omega

theorem told_8 (g b v : Int) (h0 : 0 ≤ b) (h1 : b ≤ 65535) (v0 : 0 ≤ v) (v1 : v < 16) (g0 : 0 ≤ g) (g1 : g < 9) : ofF g (withF 8 b v) = if g = 8 then v else ofF g b := by
  have hb := with_bd 8 b v ((ok_iff _ _ _).2 ⟨⟨h0, h1, by omega, by omega⟩, v0, v1⟩)
  rcases nine g0 g1 with rfl | rfl | rfl | rfl | rfl | rfl | rfl | rfl | rfl
  · rw [of0_eq _ hb.1 hb.2, with8_eq b v h0 h1 v0 v1, if_neg (by decide), of0_eq b h0 h1]; omega
  · rw [of1_eq _ hb.1 hb.2, with8_eq b v h0 h1 v0 v1, if_neg (by decide), of1_eq b h0 h1]; omega
  · rw [of2_eq _ hb.1 hb.2, with8_eq b v h0 h1 v0 v1, if_neg (by decide), of2_eq b h0 h1]; omega
  · rw [of3_eq _ hb.1 hb.2, with8_eq b v h0 h1 v0 v1, if_neg (by decide), of3_eq b h0 h1]; omega
  · rw [of4_eq _ hb.1 hb.2, with8_eq b v h0 h1 v0 v1, if_neg (by decide), of4_eq b h0 h1]; omega
  · rw [of5_eq _ hb.1 hb.2, with8_eq b v h0 h1 v0 v1, if_neg (by decide), of5_eq b h0 h1]; omega
  · rw [of6_eq _ hb.1 hb.2, with8_eq b v h0 h1 v0 v1, if_neg (by decide), of6_eq b h0 h1]; omega
  · rw [of7_eq _ hb.1 hb.2, with8_eq b v h0 h1 v0 v1, if_neg (by decide), of7_eq b h0 h1]; omega
  · rw [of8_eq _ hb.1 hb.2, with8_eq b v h0 h1 v0 v1, if_pos rfl]; omega

/-- A field that is laid is told, and no other one is another. -/
theorem told (f g b v : Int) (h : okB f b v = true) (g0 : 0 ≤ g) (g1 : g < 9) : ofF g (withF f b v) = if g = f then v else ofF g b := by
  obtain ⟨⟨h0, h1, h2, h3⟩, v0, v1⟩ := (ok_iff f b v).1 h
  rcases nine h2 h3 with rfl | rfl | rfl | rfl | rfl | rfl | rfl | rfl | rfl
  · exact told_0 g b v h0 h1 v0 v1 g0 g1
  · exact told_1 g b v h0 h1 v0 v1 g0 g1
  · exact told_2 g b v h0 h1 v0 v1 g0 g1
  · exact told_3 g b v h0 h1 v0 v1 g0 g1
  · exact told_4 g b v h0 h1 v0 v1 g0 g1
  · exact told_5 g b v h0 h1 v0 v1 g0 g1
  · exact told_6 g b v h0 h1 v0 v1 g0 g1
  · exact told_7 g b v h0 h1 v0 v1 g0 g1
  · exact told_8 g b v h0 h1 v0 v1 g0 g1

/-- With as a sum, whatever the field. -/
theorem with_sum (f b v : Int) (h : okB f b v = true) : withF f b v = b + (v - ofF f b) * low f := by
  unfold withF; rw [if_pos h]
theorem back (f b v : Int) (h : okB f b v = true) : okB f (withF f b v) (ofF f b) = true ∧ withF f (withF f b v) (ofF f b) = b := by
  obtain ⟨⟨h0, h1, h2, h3⟩, v0, v1⟩ := (ok_iff f b v).1 h
  have hb := with_bd f b v h
  have hl := of_lt f b h2 h3
  have hk : okB f (withF f b v) (ofF f b) = true := (ok_iff _ _ _).2 ⟨⟨hb.1, hb.2, h2, h3⟩, hl⟩
  refine ⟨hk, ?_⟩
  rw [with_sum _ _ _ hk, told f f b v h h2 h3, if_pos rfl, with_sum f b v h, Int.sub_mul, Int.sub_mul]; omega
/-- Laid twice, the last one counts; two fields are laid in any order. -/
theorem twice_ok (f g b v u : Int) (h : okB f b v = true) (k : okB g b u = true) : okB g (withF f b v) u = true := by
  obtain ⟨⟨h0, h1, h2, h3⟩, v0, v1⟩ := (ok_iff g b u).1 k
  have hb := with_bd f b v h
  exact (ok_iff _ _ _).2 ⟨⟨hb.1, hb.2, h2, h3⟩, v0, v1⟩
theorem twice_same (f b v u : Int) (h : okB f b v = true) (k : okB f b u = true) : withF f (withF f b v) u = withF f b u := by
  obtain ⟨⟨h0, h1, h2, h3⟩, v0, v1⟩ := (ok_iff f b v).1 h
  rw [with_sum _ _ _ (twice_ok f f b v u h k), told f f b v h h2 h3, if_pos rfl, with_sum f b v h, with_sum f b u k, Int.sub_mul, Int.sub_mul, Int.sub_mul]; omega
theorem twice_other (f g b v u : Int) (h : okB f b v = true) (k : okB g b u = true) (hne : f ≠ g) : withF g (withF f b v) u = withF f (withF g b u) v := by
  obtain ⟨⟨h0, h1, h2, h3⟩, v0, v1⟩ := (ok_iff f b v).1 h
  obtain ⟨⟨_, _, g2, g3⟩, u0, u1⟩ := (ok_iff g b u).1 k
  rw [with_sum _ _ _ (twice_ok f g b v u h k), with_sum _ _ _ (twice_ok g f b u v k h), told f g b v h g2 g3, if_neg (fun e => hne e.symm), told g f b u k h2 h3, if_neg hne, with_sum f b v h, with_sum g b u k]; omega

/-- Bit 6 of sixteen. -/
def six (b : Int) : Int := b / 64 % 2 * 64
theorem six_eq (b : Int) (h0 : 0 ≤ b) (h1 : b ≤ 65535) : bits .and .i64 b 64 = six b := by
  obtain ⟨n, rfl⟩ := Int.eq_ofNat_of_zero_le h0
  have h := (bits_nat .i64 63 (by decide) wraps n 64 (by omega) (by decide)).1
  have e : ((64 : Nat) : Int) = 64 := rfl
  rw [e] at h
  rw [h]
  have := nat_bit 6 n
  have e2 : (2 : Nat) ^ 6 = 64 := rfl
  rw [e2] at this
  rw [this]; unfold six; omega
theorem six_bd (b : Int) : 0 ≤ six b ∧ six b ≤ 65535 := by unfold six; omega
theorem six_with (f b v : Int) (h : okB f b v = true) : six (withF f b v) = six b := by
  obtain ⟨⟨h0, h1, h2, h3⟩, v0, v1⟩ := (ok_iff f b v).1 h
  rcases nine h2 h3 with rfl | rfl | rfl | rfl | rfl | rfl | rfl | rfl | rfl
  · have v2 : v < 2 := v1
    rw [with0_eq b v h0 h1 v0 v2]; unfold six; omega
  · have v2 : v < 16 := v1
    rw [with1_eq b v h0 h1 v0 v2]; unfold six; omega
  · have v2 : v < 2 := v1
    rw [with2_eq b v h0 h1 v0 v2]; unfold six; omega
  · have v2 : v < 2 := v1
    rw [with3_eq b v h0 h1 v0 v2]; unfold six; omega
  · have v2 : v < 2 := v1
    rw [with4_eq b v h0 h1 v0 v2]; unfold six; omega
  · have v2 : v < 2 := v1
    rw [with5_eq b v h0 h1 v0 v2]; unfold six; omega
  · have v2 : v < 2 := v1
    rw [with6_eq b v h0 h1 v0 v2]; unfold six; omega
  · have v2 : v < 2 := v1
    rw [with7_eq b v h0 h1 v0 v2]; unfold six; omega
  · have v2 : v < 16 := v1
    rw [with8_eq b v h0 h1 v0 v2]; unfold six; omega

/-- What the fields ahead of a number come to, with bit 6. -/
def sumTo (b k : Int) : Int := six b + (if 0 < k then b / 32768 % 2 * 32768 else 0) + (if 1 < k then b / 2048 % 16 * 2048 else 0) + (if 2 < k then b / 1024 % 2 * 1024 else 0) + (if 3 < k then b / 512 % 2 * 512 else 0) + (if 4 < k then b / 256 % 2 * 256 else 0) + (if 5 < k then b / 128 % 2 * 128 else 0) + (if 6 < k then b / 32 % 2 * 32 else 0) + (if 7 < k then b / 16 % 2 * 16 else 0) + (if 8 < k then b % 16 else 0)
theorem sum_0 (b : Int) : sumTo b 0 = six b := by unfold sumTo; simp
theorem sum_9 (b : Int) (h0 : 0 ≤ b) (h1 : b ≤ 65535) : sumTo b 9 = b := by unfold sumTo six; simp; omega
theorem sum_step (b k : Int) (h0 : 0 ≤ b) (h1 : b ≤ 65535) (k0 : 0 ≤ k) (k1 : k < 9) : okB k (sumTo b k) (ofF k b) = true ∧ withF k (sumTo b k) (ofF k b) = sumTo b (k + 1) := by
  have hl := of_lt k b k0 k1
  have hp : 0 ≤ sumTo b k ∧ sumTo b k ≤ 65535 := by
    rcases nine k0 k1 with rfl | rfl | rfl | rfl | rfl | rfl | rfl | rfl | rfl <;> (unfold sumTo six; simp; omega)
  have hk : okB k (sumTo b k) (ofF k b) = true := (ok_iff _ _ _).2 ⟨⟨hp.1, hp.2, k0, k1⟩, hl⟩
  refine ⟨hk, ?_⟩
  clear hl
  rcases nine k0 k1 with rfl | rfl | rfl | rfl | rfl | rfl | rfl | rfl | rfl
  · rw [with0_eq _ _ hp.1 hp.2 (of0_bd b).1 (of0_bd b).2, of0_eq b h0 h1]; unfold sumTo six; simp; omega
  · rw [with1_eq _ _ hp.1 hp.2 (of1_bd b).1 (of1_bd b).2, of1_eq b h0 h1]; unfold sumTo six; simp; omega
  · rw [with2_eq _ _ hp.1 hp.2 (of2_bd b).1 (of2_bd b).2, of2_eq b h0 h1]; unfold sumTo six; simp; omega
  · rw [with3_eq _ _ hp.1 hp.2 (of3_bd b).1 (of3_bd b).2, of3_eq b h0 h1]; unfold sumTo six; simp; omega
  · rw [with4_eq _ _ hp.1 hp.2 (of4_bd b).1 (of4_bd b).2, of4_eq b h0 h1]; unfold sumTo six; simp; omega
  · rw [with5_eq _ _ hp.1 hp.2 (of5_bd b).1 (of5_bd b).2, of5_eq b h0 h1]; unfold sumTo six; simp; omega
  · rw [with6_eq _ _ hp.1 hp.2 (of6_bd b).1 (of6_bd b).2, of6_eq b h0 h1]; unfold sumTo six; simp; omega
  · rw [with7_eq _ _ hp.1 hp.2 (of7_bd b).1 (of7_bd b).2, of7_eq b h0 h1]; unfold sumTo six; simp; omega
  · rw [with8_eq _ _ hp.1 hp.2 (of8_bd b).1 (of8_bd b).2, of8_eq b h0 h1]; unfold sumTo six; simp; omega
end Go.Proofs.Ytpekoponfahliaa.Fq
