/- Package lru's Cut. -/
import Derived.Test.YtiblkhohlfnhnaaLe
namespace Go.Proofs.Ytiblkhohlfnhnaa.Lf
open Go.RowKit
open Go.Proofs.Ytiblkhohlfnhnaa.La
open Go.Proofs.Ytiblkhohlfnhnaa.Lb
open Go.Proofs.Ytiblkhohlfnhnaa.Lc
open Go.Proofs.Ytiblkhohlfnhnaa.Ld
open Go.Proofs.Ytiblkhohlfnhnaa.Le
set_option linter.unusedVariables false

theorem sv_drop {α : Type} {mk : α → Value} {w : World} {A : Option Addr} {n c : Nat} {xs : List α} (h : Sv mk w A n c xs) (i : Nat) (hi : i ≤ n) : Sv mk w (if c = i then A else Option.map (fun x => x.add i) A) (n - i) (c - i) (xs.drop i) := by
  obtain ⟨h1, h2, h3, h4⟩ := h
  refine ⟨by rw [List.length_drop]; omega, by omega, by omega, ?_⟩
  by_cases h0 : n - i = 0
  · exact .inl h0
  · rcases h4 with h | ⟨b, off, rfl, hlt, hr⟩
    · omega
    · rw [if_neg (by omega)]
      refine .inr ⟨b, off + i, by simp [addr_add], hlt, fun k x hx => ?_⟩
      rw [List.getElem?_drop] at hx
      have := hr (i + k) x hx
      rw [show off + i + k = off + (i + k) by omega]
      exact this

set_option maxHeartbeats 1000000 in
theorem cut_mid (A : Option Addr) (n c at_ : Nat) (m : Int) (w : World) (hn : n ≤ 65536) (hc : n ≤ c) (hm : 0 ≤ m) (hmn : m ≤ n) (q : (n : Int) - m = (at_ : Int)) (hca : ¬ c = at_) (hat : at_ ≤ n) (xs : List Int)
    (F1 : ∀ W, Below w.heap.size w W → Calls Try.prog 26 #[.slice (Option.map (fun x => x.add at_) A) (n - at_) (c - at_)] W fun e w' => ∃ v, e = .returned v ∧ Hid (w'.ownsRow W.heap.size 3 1 v (n - at_) ((xs.drop at_).map mki)) ∧ Below W.heap.size W w')
    (F2 : ∀ W, Below w.heap.size w W → Calls Try.prog 26 #[.slice A at_ c] W fun e w' => ∃ v, e = .returned v ∧ Hid (w'.ownsRow W.heap.size 3 1 v at_ ((xs.take at_).map mki)) ∧ Below W.heap.size W w') :
    Calls Try.prog 8 #[.slice A n c, .int .i64 m] w fun e w' => ∃ v1 v2, e = .returned (.tuple #[v1, v2]) ∧ w'.ownsRow w.heap.size 3 1 v1 (n - at_) ((xs.drop at_).map mki) ∧ w'.ownsRow w.heap.size 3 1 v2 at_ ((xs.take at_).map mki) ∧ Below w.heap.size w w' := by
  have hac : at_ ≤ c := by omega
  have h0 : Below w.heap.size w w.drew := Below.drew (Below.refl _ _)
  have HF1 := Lib.hid F1
  have HF2 := Lib.hid F2
  clear F1 F2
  go_enter Try.func8, Try.ntmps8
  go_wp2
  go_region_held3 (fun W => Below w.heap.size w W ∧ True)
    (first | assumption | exact ⟨h0, trivial⟩)
    (first
      | (go_at_call 26; refine (HF1.out _ (‹Below w.heap.size w _ ∧ True›).1).mono ?_; rintro e w1 ⟨v1, rfl, own1, hb1⟩; have own1 := Lib.hid (own_weak own1.out (‹Below w.heap.size w _ ∧ True›).1.size); have h9 := And.intro ((‹Below w.heap.size w _ ∧ True›).1.trans (hb1.mono (‹Below w.heap.size w _ ∧ True›).1.size)) trivial; clear hb1)
      | (go_at_call 26; refine (HF2.out _ (‹Below w.heap.size w _ ∧ True›).1).mono ?_; rintro e w2 ⟨v2, rfl, own2, hb2⟩; have own2 := Lib.hid (own_weak own2.out (‹Below w.heap.size w _ ∧ True›).1.size); have own3 := Lib.hid (own_below own1.out hb2); have h9 := And.intro ((‹Below w.heap.size w _ ∧ True›).1.trans (hb2.mono (‹Below w.heap.size w _ ∧ True›).1.size)) trivial; clear hb2))
  all_goals go_wp2
  all_goals (rename_i hh; exact bodyPost_ret (v := .tuple #[v1, v2]) (by simp [results, Try.results8, go_sem]) rfl ⟨v1, v2, rfl, own3.out, own2.out, hh.1⟩)

set_option maxHeartbeats 1000000 in
theorem cut_neg (A : Option Addr) (n c : Nat) (m : Int) (w : World) (hn : n ≤ 65536) (hc : n ≤ c) (hm : m < 0) (hca : ¬ c = n) (xs : List Int)
    (F1 : ∀ W, Below w.heap.size w W → Calls Try.prog 26 #[.slice (Option.map (fun x => x.add n) A) 0 (c - n)] W fun e w' => ∃ v, e = .returned v ∧ Hid (w'.ownsRow W.heap.size 3 1 v (n - n) ((xs.drop n).map mki)) ∧ Below W.heap.size W w')
    (F2 : ∀ W, Below w.heap.size w W → Calls Try.prog 26 #[.slice A n c] W fun e w' => ∃ v, e = .returned v ∧ Hid (w'.ownsRow W.heap.size 3 1 v n ((xs.take n).map mki)) ∧ Below W.heap.size W w') :
    Calls Try.prog 8 #[.slice A n c, .int .i64 m] w fun e w' => ∃ v1 v2, e = .returned (.tuple #[v1, v2]) ∧ w'.ownsRow w.heap.size 3 1 v1 (n - n) ((xs.drop n).map mki) ∧ w'.ownsRow w.heap.size 3 1 v2 n ((xs.take n).map mki) ∧ Below w.heap.size w w' := by
  have hac : n ≤ c := by omega
  have h0 : Below w.heap.size w w.drew := Below.drew (Below.refl _ _)
  have HF1 := Lib.hid F1
  have HF2 := Lib.hid F2
  clear F1 F2
  go_enter Try.func8, Try.ntmps8
  go_wp2
  go_region_held3 (fun W => Below w.heap.size w W ∧ True)
    (first | assumption | exact ⟨h0, trivial⟩)
    (first
      | (go_at_call 26; refine (HF1.out _ (‹Below w.heap.size w _ ∧ True›).1).mono ?_; rintro e w1 ⟨v1, rfl, own1, hb1⟩; have own1 := Lib.hid (own_weak own1.out (‹Below w.heap.size w _ ∧ True›).1.size); have h9 := And.intro ((‹Below w.heap.size w _ ∧ True›).1.trans (hb1.mono (‹Below w.heap.size w _ ∧ True›).1.size)) trivial; clear hb1)
      | (go_at_call 26; refine (HF2.out _ (‹Below w.heap.size w _ ∧ True›).1).mono ?_; rintro e w2 ⟨v2, rfl, own2, hb2⟩; have own2 := Lib.hid (own_weak own2.out (‹Below w.heap.size w _ ∧ True›).1.size); have own3 := Lib.hid (own_below own1.out hb2); have h9 := And.intro ((‹Below w.heap.size w _ ∧ True›).1.trans (hb2.mono (‹Below w.heap.size w _ ∧ True›).1.size)) trivial; clear hb2))
  all_goals go_wp2
  all_goals (rename_i hh; exact bodyPost_ret (v := .tuple #[v1, v2]) (by simp [results, Try.results8, go_sem]) rfl ⟨v1, v2, rfl, own3.out, own2.out, hh.1⟩)

set_option maxHeartbeats 1000000 in
theorem cut_nege (A : Option Addr) (n : Nat) (m : Int) (w : World) (hn : n ≤ 65536) (hm : m < 0) (xs : List Int)
    (F1 : ∀ W, Below w.heap.size w W → Calls Try.prog 26 #[.slice A 0 0] W fun e w' => ∃ v, e = .returned v ∧ Hid (w'.ownsRow W.heap.size 3 1 v (n - n) ((xs.drop n).map mki)) ∧ Below W.heap.size W w')
    (F2 : ∀ W, Below w.heap.size w W → Calls Try.prog 26 #[.slice A n n] W fun e w' => ∃ v, e = .returned v ∧ Hid (w'.ownsRow W.heap.size 3 1 v n ((xs.take n).map mki)) ∧ Below W.heap.size W w') :
    Calls Try.prog 8 #[.slice A n n, .int .i64 m] w fun e w' => ∃ v1 v2, e = .returned (.tuple #[v1, v2]) ∧ w'.ownsRow w.heap.size 3 1 v1 (n - n) ((xs.drop n).map mki) ∧ w'.ownsRow w.heap.size 3 1 v2 n ((xs.take n).map mki) ∧ Below w.heap.size w w' := by
  have h0 : Below w.heap.size w w.drew := Below.drew (Below.refl _ _)
  have HF1 := Lib.hid F1
  have HF2 := Lib.hid F2
  clear F1 F2
  go_enter Try.func8, Try.ntmps8
  go_wp2
  go_region_held3 (fun W => Below w.heap.size w W ∧ True)
    (first | assumption | exact ⟨h0, trivial⟩)
    (first
      | (go_at_call 26; refine (HF1.out _ (‹Below w.heap.size w _ ∧ True›).1).mono ?_; rintro e w1 ⟨v1, rfl, own1, hb1⟩; have own1 := Lib.hid (own_weak own1.out (‹Below w.heap.size w _ ∧ True›).1.size); have h9 := And.intro ((‹Below w.heap.size w _ ∧ True›).1.trans (hb1.mono (‹Below w.heap.size w _ ∧ True›).1.size)) trivial; clear hb1)
      | (go_at_call 26; refine (HF2.out _ (‹Below w.heap.size w _ ∧ True›).1).mono ?_; rintro e w2 ⟨v2, rfl, own2, hb2⟩; have own2 := Lib.hid (own_weak own2.out (‹Below w.heap.size w _ ∧ True›).1.size); have own3 := Lib.hid (own_below own1.out hb2); have h9 := And.intro ((‹Below w.heap.size w _ ∧ True›).1.trans (hb2.mono (‹Below w.heap.size w _ ∧ True›).1.size)) trivial; clear hb2))
  all_goals go_wp2
  all_goals (rename_i hh; exact bodyPost_ret (v := .tuple #[v1, v2]) (by simp [results, Try.results8, go_sem]) rfl ⟨v1, v2, rfl, own3.out, own2.out, hh.1⟩)

set_option maxHeartbeats 1000000 in
theorem cut_zeroe (A : Option Addr) (n : Nat) (w : World) (hn : n ≤ 65536)  (xs : List Int)
    (F1 : ∀ W, Below w.heap.size w W → Calls Try.prog 26 #[.slice A 0 0] W fun e w' => ∃ v, e = .returned v ∧ Hid (w'.ownsRow W.heap.size 3 1 v (n - n) ((xs.drop n).map mki)) ∧ Below W.heap.size W w')
    (F2 : ∀ W, Below w.heap.size w W → Calls Try.prog 26 #[.slice A n n] W fun e w' => ∃ v, e = .returned v ∧ Hid (w'.ownsRow W.heap.size 3 1 v n ((xs.take n).map mki)) ∧ Below W.heap.size W w') :
    Calls Try.prog 8 #[.slice A n n, .int .i64 0] w fun e w' => ∃ v1 v2, e = .returned (.tuple #[v1, v2]) ∧ w'.ownsRow w.heap.size 3 1 v1 (n - n) ((xs.drop n).map mki) ∧ w'.ownsRow w.heap.size 3 1 v2 n ((xs.take n).map mki) ∧ Below w.heap.size w w' := by
  have h0 : Below w.heap.size w w.drew := Below.drew (Below.refl _ _)
  have HF1 := Lib.hid F1
  have HF2 := Lib.hid F2
  clear F1 F2
  go_enter Try.func8, Try.ntmps8
  go_wp2
  go_region_held3 (fun W => Below w.heap.size w W ∧ True)
    (first | assumption | exact ⟨h0, trivial⟩)
    (first
      | (go_at_call 26; refine (HF1.out _ (‹Below w.heap.size w _ ∧ True›).1).mono ?_; rintro e w1 ⟨v1, rfl, own1, hb1⟩; have own1 := Lib.hid (own_weak own1.out (‹Below w.heap.size w _ ∧ True›).1.size); have h9 := And.intro ((‹Below w.heap.size w _ ∧ True›).1.trans (hb1.mono (‹Below w.heap.size w _ ∧ True›).1.size)) trivial; clear hb1)
      | (go_at_call 26; refine (HF2.out _ (‹Below w.heap.size w _ ∧ True›).1).mono ?_; rintro e w2 ⟨v2, rfl, own2, hb2⟩; have own2 := Lib.hid (own_weak own2.out (‹Below w.heap.size w _ ∧ True›).1.size); have own3 := Lib.hid (own_below own1.out hb2); have h9 := And.intro ((‹Below w.heap.size w _ ∧ True›).1.trans (hb2.mono (‹Below w.heap.size w _ ∧ True›).1.size)) trivial; clear hb2))
  all_goals go_wp2
  all_goals (rename_i hh; exact bodyPost_ret (v := .tuple #[v1, v2]) (by simp [results, Try.results8, go_sem]) rfl ⟨v1, v2, rfl, own3.out, own2.out, hh.1⟩)

set_option maxHeartbeats 1000000 in
theorem cut_hi (A : Option Addr) (n c : Nat) (m : Int) (w : World) (hn : n ≤ 65536) (hc : n ≤ c) (hm : (n : Int) < m) (xs : List Int)
    (F1 : ∀ W, Below w.heap.size w W → Calls Try.prog 26 #[.slice A n c] W fun e w' => ∃ v, e = .returned v ∧ Hid (w'.ownsRow W.heap.size 3 1 v n ((xs.drop 0).map mki)) ∧ Below W.heap.size W w')
    (F2 : ∀ W, Below w.heap.size w W → Calls Try.prog 26 #[.slice A 0 c] W fun e w' => ∃ v, e = .returned v ∧ Hid (w'.ownsRow W.heap.size 3 1 v 0 ((xs.take 0).map mki)) ∧ Below W.heap.size W w') :
    Calls Try.prog 8 #[.slice A n c, .int .i64 m] w fun e w' => ∃ v1 v2, e = .returned (.tuple #[v1, v2]) ∧ w'.ownsRow w.heap.size 3 1 v1 n ((xs.drop 0).map mki) ∧ w'.ownsRow w.heap.size 3 1 v2 0 ((xs.take 0).map mki) ∧ Below w.heap.size w w' := by
  have h0 : Below w.heap.size w w.drew := Below.drew (Below.refl _ _)
  have HF1 := Lib.hid F1
  have HF2 := Lib.hid F2
  clear F1 F2
  go_enter Try.func8, Try.ntmps8
  go_wp2
  go_region_held3 (fun W => Below w.heap.size w W ∧ True)
    (first | assumption | exact ⟨h0, trivial⟩)
    (first
      | (go_at_call 26; refine (HF1.out _ (‹Below w.heap.size w _ ∧ True›).1).mono ?_; rintro e w1 ⟨v1, rfl, own1, hb1⟩; have own1 := Lib.hid (own_weak own1.out (‹Below w.heap.size w _ ∧ True›).1.size); have h9 := And.intro ((‹Below w.heap.size w _ ∧ True›).1.trans (hb1.mono (‹Below w.heap.size w _ ∧ True›).1.size)) trivial; clear hb1)
      | (go_at_call 26; refine (HF2.out _ (‹Below w.heap.size w _ ∧ True›).1).mono ?_; rintro e w2 ⟨v2, rfl, own2, hb2⟩; have own2 := Lib.hid (own_weak own2.out (‹Below w.heap.size w _ ∧ True›).1.size); have own3 := Lib.hid (own_below own1.out hb2); have h9 := And.intro ((‹Below w.heap.size w _ ∧ True›).1.trans (hb2.mono (‹Below w.heap.size w _ ∧ True›).1.size)) trivial; clear hb2))
  all_goals go_wp2
  all_goals (rename_i hh; exact bodyPost_ret (v := .tuple #[v1, v2]) (by simp [results, Try.results8, go_sem]) rfl ⟨v1, v2, rfl, own3.out, own2.out, hh.1⟩)

end Go.Proofs.Ytiblkhohlfnhnaa.Lf
