/- The bits of a header as numbers: what a shift, a mask, an and-not and an or of sixteen bits come to. -/
import Derived.Laws.BitsLemmas
import Derived.Laws.BitsAllLaws
import Derived.RowKit
namespace Go.Proofs.Ytnbngkecabacaaa.Fb
open Go.RowKit

theorem wraps (n : Int) (h0 : 0 ≤ n) (h1 : n < 2 ^ 63) : IntKind.i64.wrap n = n := by rw [IntKind.wrap_i64]; omega
theorem ofInt_i64 (a : Nat) (ha : a < 9223372036854775808) : (BitVec.ofInt 64 (a : Int)).toNat = a := by
  rw [BitVec.ofInt_natCast, BitVec.toNat_ofNat]; exact Nat.mod_eq_of_lt (by omega)
theorem andNot_i64 (a b : Nat) (ha : a < 65536) (hb : b < 65536) : bits .andNot .i64 (a : Int) (b : Int) = ((a &&& (18446744073709551615 - b) : Nat) : Int) := by
  have hx : a &&& (18446744073709551615 - b) ≤ a := Nat.and_le_left
  show IntKind.i64.wrap ((BitVec.ofInt 64 (a : Int) &&& ~~~BitVec.ofInt 64 (b : Int)).toNat : Int) = _
  rw [BitVec.toNat_and, BitVec.toNat_not, ofInt_i64 a (by omega), ofInt_i64 b (by omega)]
  have e : 2 ^ 64 - 1 - b = 18446744073709551615 - b := by omega
  rw [e]
  exact wraps _ (by omega) (by omega)

theorem cut_nat (l m b : Nat) (hb : b < 2 ^ 64) (hl : l + m ≤ 64) : b &&& (2 ^ 64 - 1 - (2 ^ m - 1) * 2 ^ l) = 2 ^ (l + m) * (b / 2 ^ (l + m)) + b % 2 ^ l := by
  have hx : (2 ^ m - 1) * 2 ^ l < 2 ^ 64 := by
    have h1 : (2 ^ m - 1) * 2 ^ l < 2 ^ m * 2 ^ l := Nat.mul_lt_mul_of_pos_right (Nat.sub_lt (Nat.two_pow_pos m) (by decide)) (Nat.two_pow_pos l)
    have h2 : 2 ^ m * 2 ^ l ≤ 2 ^ 64 := by rw [← Nat.pow_add]; exact Nat.pow_le_pow_right (by decide) (by omega)
    omega
  have e : 2 ^ 64 - 1 - (2 ^ m - 1) * 2 ^ l = 2 ^ 64 - ((2 ^ m - 1) * 2 ^ l + 1) := by omega
  have hr : b % 2 ^ l < 2 ^ (l + m) := Nat.lt_of_lt_of_le (Nat.mod_lt _ (Nat.two_pow_pos l)) (Nat.pow_le_pow_right (by decide) (by omega))
  apply Nat.eq_of_testBit_eq
  intro i
  rw [e, Nat.testBit_and, Nat.testBit_two_pow_sub_succ hx, Nat.testBit_mul_two_pow, Nat.testBit_two_pow_sub_one, Nat.testBit_two_pow_mul_add _ hr, Nat.testBit_mod_two_pow, Nat.testBit_div_two_pow]
  by_cases h1 : i < l + m
  · by_cases h2 : i < l
    · have h3 : i < 64 := by omega
      have h4 : ¬ l ≤ i := by omega
      simp [h1, h2, h3, h4]
    · have h3 : l ≤ i := by omega
      have h4 : i - l < m := by omega
      simp [h1, h2, h3, h4]
  · have h4 : ¬ i - l < m := by omega
    have h5 : i - (l + m) + (l + m) = i := by omega
    by_cases h3 : i < 64
    · simp [h1, h3, h4, h5]
    · have h6 : b.testBit i = false := Nat.testBit_lt_two_pow (Nat.lt_of_lt_of_le hb (Nat.pow_le_pow_right (by decide) (by omega)))
      simp [h1, h3, h5, h6]

theorem lay_nat (l m q r v : Nat) (hr : r < 2 ^ l) (hv : v < 2 ^ m) : (2 ^ (l + m) * q + r) ||| (v * 2 ^ l) = 2 ^ (l + m) * q + (2 ^ l * v + r) := by
  have hle : 2 ^ l ≤ 2 ^ (l + m) := Nat.pow_le_pow_right (by decide) (by omega)
  have h1 : 2 ^ l * v + r < 2 ^ (l + m) := by
    have : 2 ^ l * (v + 1) ≤ 2 ^ l * 2 ^ m := Nat.mul_le_mul_left _ hv
    rw [Nat.mul_add, ← Nat.pow_add] at this
    omega
  rw [Nat.two_pow_add_eq_or_of_lt h1, Nat.two_pow_add_eq_or_of_lt (Nat.lt_of_lt_of_le hr hle), Nat.two_pow_add_eq_or_of_lt hr, Nat.or_assoc, Nat.or_comm r, Nat.mul_comm v]

theorem of8 (b : Int) (h0 : 0 ≤ b) (h1 : b ≤ 65535) : bits .and .i64 (b / 1) 15 = b / 1 % 16 := by
  have := bits_mask .i64 63 (by decide) wraps 4 (by decide) (b / 1) (by omega) (by omega)
  simpa using this
theorem with8 (b v : Int) (h0 : 0 ≤ b) (h1 : b ≤ 65535) (v0 : 0 ≤ v) (v1 : v ≤ 15) : bits .or .i64 (bits .andNot .i64 b 15) (v * 1) = b + (v - b / 1 % 16) * 1 := by
  obtain ⟨n, rfl⟩ := Int.eq_ofNat_of_zero_le h0
  obtain ⟨x, rfl⟩ := Int.eq_ofNat_of_zero_le v0
  have e0 : bits .andNot .i64 (n : Int) 15 = ((2 ^ (0 + 4) * (n / 2 ^ (0 + 4)) + n % 2 ^ 0 : Nat) : Int) := by
    have h := andNot_i64 n 15 (by omega) (by omega)
    have c := cut_nat 0 4 n (by omega) (by omega)
    have e : 2 ^ 64 - 1 - (2 ^ 4 - 1) * 2 ^ 0 = 18446744073709551615 - 15 := by decide
    rw [e] at c
    rw [← c]
    exact h
  have e1 : (x : Int) * 1 = ((x * 2 ^ 0 : Nat) : Int) := by simp
  rw [e0, e1, (bits_nat .i64 63 (by decide) wraps _ _ (by omega) (by omega)).2, lay_nat 0 4 (n / 2 ^ (0 + 4)) (n % 2 ^ 0) x (Nat.mod_lt _ (by decide)) (by omega)]
  omega
end Go.Proofs.Ytnbngkecabacaaa.Fb
