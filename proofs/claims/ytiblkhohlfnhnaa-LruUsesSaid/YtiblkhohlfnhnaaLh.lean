/- The reference's Cut at any number; when. -/
import Derived.Test.YtiblkhohlfnhnaaLg
namespace Go.Proofs.Ytiblkhohlfnhnaa.Lh
open Go.RowKit
open Go.Proofs.Ytiblkhohlfnhnaa.La
open Go.Proofs.Ytiblkhohlfnhnaa.Lb
open Go.Proofs.Ytiblkhohlfnhnaa.Lc
open Go.Proofs.Ytiblkhohlfnhnaa.Ld
open Go.Proofs.Ytiblkhohlfnhnaa.Le
open Go.Proofs.Ytiblkhohlfnhnaa.Lf
open Go.Proofs.Ytiblkhohlfnhnaa.Lg
set_option linter.unusedVariables false

theorem rcut_nil (A : Option Addr) (c : Nat) (m : Int) (w : World) : Calls Try.prog 9 #[.slice A 0 c, .int .i64 m] w fun e w' => e = .returned (.tuple #[.slice none 0 0, .slice none 0 0]) ∧ w = w' := by
  go_enter Try.func9, Try.ntmps9
  go_wp2
  refine wp_loop_rounds 1 ?_
  rw [rounds_succ]
  go_wp2
  exact bodyPost_ret (v := .tuple #[.slice none 0 0, .slice none 0 0]) (by simp [results, Try.results9, go_sem]) rfl ⟨rfl, rfl⟩
theorem rcut_any {A : Option Addr} {n c : Nat} {xs : List Int} {w : World} (m : Int) (h : Sv mki w A n c xs) (hn : n ≤ 60000) :
    Calls Try.prog 9 #[.slice A n c, .int .i64 m] w fun e w' => ∃ v1 v2, e = .returned (.tuple #[v1, v2]) ∧ w'.ownsRow w.heap.size 3 1 v1 (xs.drop (cutAt n m)).length ((xs.drop (cutAt n m)).map mki) ∧ w'.ownsRow w.heap.size 3 1 v2 (xs.take (cutAt n m)).length ((xs.take (cutAt n m)).map mki) ∧ Below w.heap.size w w' := by
  have hle := cutAt_le n m
  obtain ⟨h1, h2, h3, h4⟩ := h
  rcases h4 with rfl | ⟨b, off, rfl, hlt, hr⟩
  · obtain rfl : xs = [] := List.eq_nil_of_length_eq_zero h1.symm
    refine (rcut_nil A c m w).mono ?_
    rintro e w' ⟨rfl, rfl⟩
    exact ⟨_, _, rfl, ⟨by simp, .inl ⟨rfl, by simp⟩⟩, ⟨by simp, .inl ⟨rfl, by simp⟩⟩, Below.refl _ _⟩
  · by_cases k1 : m < 0
    · have e : cutAt n m = n := by unfold cutAt; rw [if_pos k1]
      rw [e]
      exact rcut_neg b off n c m xs (Lib.hid h1) hn k1 w hlt (Lib.hid hr)
    · by_cases k2 : (n : Int) < m
      · have e : cutAt n m = 0 := by unfold cutAt; rw [if_neg k1, if_pos k2]
        rw [e]
        exact rcut_hi b off n c m xs (Lib.hid h1) hn k2 w hlt (Lib.hid hr)
      · have e : (cutAt n m : Int) = n - m := by unfold cutAt; rw [if_neg k1, if_neg k2]; omega
        exact rcut_mid b off n c (cutAt n m) m xs (Lib.hid h1) hn (by omega) (by omega) e.symm w hlt (Lib.hid hr)

/-- The last place of a number. -/
def lastAt (k : Int) (xs : List Int) : Nat → Int
  | 0 => -1
  | i + 1 => if xs[i]? = some k then (i : Int) else lastAt k xs i
set_option maxHeartbeats 1000000 in
theorem when_some (b off n c : Nat) (k : Int) (xs : List Int) (HN : Hid (n = xs.length)) (hn : n ≤ 65536) (w : World) (hlt : b < w.heap.size) (HR : Hid (∀ (j : Nat) x, xs[j]? = some x → w.cell? ⟨b, off + j, none⟩ = some (.int .i64 x))) :
    Calls Try.prog 23 #[.slice (some ⟨b, off, none⟩) n c, .int .i64 k] w fun e w' => e = .returned (.int .i64 (lastAt k xs n)) ∧ w = w' := by
  go_enter Try.func23, Try.ntmps23
  go_wp2
  go_loopw [5, 6] (fun s5 t wr => ∃ (i : Nat) (a : Int), s5 = .int .i64 a ∧ i ≤ n ∧ t = .int .i64 (i : Int) ∧ Hid (a = lastAt k xs i) ∧ w = wr) (fun _ t _ => n - (intOf t).toNat)
  case atStart => exact ⟨0, -1, rfl, Nat.zero_le _, rfl, Lib.hid rfl, rfl⟩
  case round =>
    obtain ⟨i, a, rfl, hi, rfl, ha, rfl⟩ := hrel
    by_cases hlk : i < n
    · obtain ⟨x, hx⟩ : ∃ x, xs[i]? = some x := ⟨xs[i]'(by have := HN.out; omega), List.getElem?_eq_getElem _⟩
      have c0 := HR.out i x hx
      have hx := Lib.hid hx
      by_cases ht : x = k
      · have q0 : (x == k) = true := by simpa using ht
        have hn' : Hid ((i : Int) = lastAt k xs (i + 1)) := Lib.hid (by unfold lastAt; rw [if_pos (by rw [hx.out, ht])])
        clear ht
        go_wp2
        go_roundw
        case rel => exact ⟨i + 1, (i : Int), rfl, by omega, by go_num, hn', trivial⟩
        case measure => simp [intOf]; omega
      · have q0 : (x == k) = false := by simpa using ht
        have hn' : Hid (a = lastAt k xs (i + 1)) := Lib.hid (by unfold lastAt; rw [if_neg (by rw [hx.out]; intro e; injection e with e; exact ht e)]; exact ha.out)
        clear ht
        go_wp2
        go_roundw
        case rel => exact ⟨i + 1, a, rfl, by omega, by go_num, hn', trivial⟩
        case measure => simp [intOf]; omega
    · have e1 : i = n := by omega
      have hf : Hid (a = lastAt k xs n) := by rw [← e1]; exact ha
      clear ha
      go_wp2
      go_ret
      exact ⟨congrArg (fun n => Ending.returned (.int .i64 n)) hf.out, rfl⟩
theorem when_nil (A : Option Addr) (c : Nat) (k : Int) (w : World) : Calls Try.prog 23 #[.slice A 0 c, .int .i64 k] w fun e w' => e = .returned (.int .i64 (-1)) ∧ w = w' := by
  go_enter Try.func23, Try.ntmps23
  go_wp2
  refine wp_loop_rounds 1 ?_
  rw [rounds_succ]
  go_wp2
  go_ret
  exact ⟨rfl, rfl⟩
theorem when_any {A : Option Addr} {n c : Nat} {xs : List Int} {w : World} (k : Int) (h : Sv mki w A n c xs) : Calls Try.prog 23 #[.slice A n c, .int .i64 k] w fun e w' => e = .returned (.int .i64 (lastAt k xs n)) ∧ w = w' := by
  obtain ⟨h1, h2, h3, h4⟩ := h
  rcases h4 with rfl | ⟨b, off, rfl, hlt, hr⟩
  · exact when_nil A c k w
  · exact when_some b off n c k xs (Lib.hid h1) h3 w hlt (Lib.hid hr)

end Go.Proofs.Ytiblkhohlfnhnaa.Lh
