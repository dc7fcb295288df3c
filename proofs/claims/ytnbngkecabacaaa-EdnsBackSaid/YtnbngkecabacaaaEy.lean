/- Whether a message is small: some bool comes back. -/
import Derived.Test.YtnbngkecabacaaaEx
import Derived.WalkKit
import Derived.Below
import Derived.KernelRfl
import Derived.LoopTactic
import Derived.LoopN
import Derived.Outline
import Derived.Deep.RegionHeld3
import Derived.Lib.Hide
import Derived.Laws.Tables
import Derived.Laws.Rows
namespace Go.Proofs.Ytnbngkecabacaaa.Ey
open Go.RowKit Go.Proofs.Ytnbngkecabacaaa.Fb Go.Proofs.Ytnbngkecabacaaa.Fl Go.Proofs.Ytnbngkecabacaaa.Fr Go.Proofs.Ytnbngkecabacaaa.Ed
set_option linter.unusedVariables false
open Go.Proofs.Ytnbngkecabacaaa.Ef
open Go.Proofs.Ytnbngkecabacaaa.Eg
open Go.Proofs.Ytnbngkecabacaaa.Ev
open Go.Proofs.Ytnbngkecabacaaa.Ex

/-- Either bool. -/
def Bo (e : Ending) : Prop := ∃ b : Bool, e = .returned (.bool b)

set_option maxHeartbeats 2000000 in
theorem few_some (b off n c : Nat) (rs : List RV) (hN : n = rs.length) (hn : n ≤ 140737488351232) (w : World) (hlt : b < w.heap.size) (hrow : Row w b off rs) :
    Calls Try.prog 19 #[.slice (some ⟨b, off, none⟩) n c] w fun e w' => Bo e ∧ w = w' := by
  have HN := Lib.hid hN
  clear hN
  have HR := Lib.hid hrow
  clear hrow
  go_enter Try.func19, Try.ntmps19
  go_wp2
  go_loop [3] (fun t => ∃ k : Nat, k ≤ n ∧ t = .int .i64 (k : Int)) (fun t => n - (intOf t).toNat)
  case atStart => exact ⟨0, Nat.zero_le _, rfl⟩
  case round =>
    obtain ⟨k, hk, rfl⟩ := hrel
    by_cases hlk : k < n
    · obtain ⟨r, hr⟩ : ∃ r, rs[k]? = some r := ⟨rs[k]'(by have := HN.out; omega), List.getElem?_eq_getElem _⟩
      obtain ⟨c0, c1, c2, c3, c4⟩ := HR.out k r hr
      clear hr
      by_cases h1 : 300 < r.name.size
      · have d1 : decide ((300 : Int) < (r.name.size : Int)) = true := by simp; omega
        go_wp2
        go_ret
        exact ⟨⟨_, rfl⟩, rfl⟩
      · have d1 : decide ((300 : Int) < (r.name.size : Int)) = false := by simp; omega
        by_cases h2 : 70000 < r.data.size
        · have d2 : decide ((70000 : Int) < (r.data.size : Int)) = true := by simp; omega
          go_wp2
          go_ret
          exact ⟨⟨_, rfl⟩, rfl⟩
        · have d2 : decide ((70000 : Int) < (r.data.size : Int)) = false := by simp; omega
          go_wp2
          go_round
          case rel => exact ⟨k + 1, by omega, by go_num⟩
          case measure => simp [intOf]; omega
    · go_wp2
      go_ret
      exact ⟨⟨_, rfl⟩, rfl⟩
theorem few_nil (A : Option Addr) (c : Nat) (w : World) : Calls Try.prog 19 #[.slice A 0 c] w fun e w' => Bo e ∧ w = w' := by
  go_enter Try.func19, Try.ntmps19
  go_wp2
  refine wp_loop_rounds 1 ?_
  rw [rounds_succ]
  go_wp2
  go_ret
  exact ⟨⟨_, rfl⟩, rfl⟩
theorem few_any {A : Option Addr} {n c : Nat} {rs : List RV} {w : World} (h : Sl w A n c rs) : Calls Try.prog 19 #[.slice A n c] w fun e w' => Bo e ∧ w = w' := by
  obtain ⟨h1, h2, h3, h4⟩ := h
  rcases h4 with rfl | ⟨b, off, rfl, hlt, hr⟩
  · exact few_nil A c w
  · exact few_some b off n c rs h1 (by omega) w hlt hr

/-- A slice of questions: of each the name lies in memory. -/
def Qn (w : World) (A : Option Addr) (n : Nat) : Prop :=
  n * 32 ≤ 140737488351232 ∧ (n = 0 ∨ ∃ b off, A = some ⟨b, off, none⟩ ∧ b < w.heap.size ∧ ∀ k : Nat, k < n → ∃ nm, w.cell? ⟨b, off + k * 3, none⟩ = some (.string nm))
theorem Qn.below {w w' : World} {A : Option Addr} {n : Nat} (h : Qn w A n) (hb : Below w.heap.size w w') : Qn w' A n := by
  obtain ⟨h1, h2⟩ := h
  refine ⟨h1, ?_⟩
  rcases h2 with h | ⟨b, off, rfl, hlt, hr⟩
  · exact .inl h
  · exact .inr ⟨b, off, rfl, Nat.lt_of_lt_of_le hlt hb.size, fun k hk => by
      obtain ⟨nm, hc⟩ := hr k hk
      exact ⟨nm, (hb.cell (p := ⟨b, off + k * 3, none⟩) hlt).trans hc⟩⟩

def MB (id bits : Int) (Q A1 A2 A3 : Option Addr) (qn qc n1 c1 n2 c2 n3 c3 : Nat) : Array Value := #[.int .i64 id, .int .i64 bits, .slice Q qn qc, .slice A1 n1 c1, .slice A2 n2 c2, .slice A3 n3 c3]

set_option maxHeartbeats 4000000 in
theorem small_some (id bits : Int) (b off : Nat) (A1 A2 A3 : Option Addr) (qn qc n1 c1 n2 c2 n3 c3 : Nat) (w : World) (hlt : b < w.heap.size) (hq : qn ≤ 140737488351232) (h1 : n1 ≤ 140737488351232) (h2 : n2 ≤ 140737488351232) (h3 : n3 ≤ 140737488351232)
    (HQ : Hid (∀ k : Nat, k < qn → ∃ nm, w.cell? ⟨b, off + k * 3, none⟩ = some (.string nm)))
    (F1 : ∀ w', Below w.heap.size w w' → Calls Try.prog 19 #[.slice A1 n1 c1] w' fun e w'' => Bo e ∧ w' = w'') (F2 : ∀ w', Below w.heap.size w w' → Calls Try.prog 19 #[.slice A2 n2 c2] w' fun e w'' => Bo e ∧ w' = w'') (F3 : ∀ w', Below w.heap.size w w' → Calls Try.prog 19 #[.slice A3 n3 c3] w' fun e w'' => Bo e ∧ w' = w'') :
    Calls Try.prog 8 #[.agg #[.int .i64 id, .int .i64 bits, .slice (some ⟨b, off, none⟩) qn qc, .slice A1 n1 c1, .slice A2 n2 c2, .slice A3 n3 c3]] w fun e w' => Bo e ∧ Below w.heap.size w w' := by
  have wz : Below w.heap.size w (w.alloc (.cells #[.int .i64 id, .int .i64 bits, .slice (some ⟨b, off, none⟩) qn qc, .slice A1 n1 c1, .slice A2 n2 c2, .slice A3 n3 c3] 25)) := (Below.refl _ _).alloc (Nat.le_refl _) _
  by_cases hs : 200 < (qn : Int) + n1 + n2 + n3
  · go_enter Try.func8, Try.ntmps8
    go_wp2
    go_ret
    exact ⟨⟨_, rfl⟩, wz⟩
  · go_enter Try.func8, Try.ntmps8
    go_wp2
    go_loop [4] (fun t => ∃ k : Nat, k ≤ qn ∧ t = .int .i64 (k : Int)) (fun t => qn - (intOf t).toNat)
    case atStart => exact ⟨0, Nat.zero_le _, rfl⟩
    case round =>
      obtain ⟨k, hk, rfl⟩ := hrel
      by_cases hlk : k < qn
      · obtain ⟨nm, hc⟩ := HQ.out k hlk
        by_cases hl : 300 < nm.size
        · have d1 : decide ((300 : Int) < (nm.size : Int)) = true := by simp; omega
          go_wp2
          go_ret
          exact ⟨⟨_, rfl⟩, wz⟩
        · have d1 : decide ((300 : Int) < (nm.size : Int)) = false := by simp; omega
          go_wp2
          go_round
          case rel => exact ⟨k + 1, by omega, by go_num⟩
          case measure => simp [intOf]; omega
      · go_wp2_with fail
        refine (F1 _ wz).mono ?_
        rintro e w' ⟨⟨b1, rfl⟩, rfl⟩
        cases b1
        · go_wp2_with fail
          go_ret
          exact ⟨⟨_, rfl⟩, wz⟩
        · go_wp2_with fail
          refine (F2 _ wz).mono ?_
          rintro e w' ⟨⟨b1, rfl⟩, rfl⟩
          cases b1
          · go_wp2_with fail
            go_ret
            exact ⟨⟨_, rfl⟩, wz⟩
          · go_wp2_with fail
            refine (F3 _ wz).mono ?_
            rintro e w' ⟨⟨b1, rfl⟩, rfl⟩
            go_wp2_with fail
            go_ret
            exact ⟨⟨_, rfl⟩, wz⟩

set_option maxHeartbeats 4000000 in
theorem small_nil (id bits : Int) (Q A1 A2 A3 : Option Addr) (qc n1 c1 n2 c2 n3 c3 : Nat) (w : World) (h1 : n1 ≤ 140737488351232) (h2 : n2 ≤ 140737488351232) (h3 : n3 ≤ 140737488351232)
    (F1 : ∀ w', Below w.heap.size w w' → Calls Try.prog 19 #[.slice A1 n1 c1] w' fun e w'' => Bo e ∧ w' = w'') (F2 : ∀ w', Below w.heap.size w w' → Calls Try.prog 19 #[.slice A2 n2 c2] w' fun e w'' => Bo e ∧ w' = w'') (F3 : ∀ w', Below w.heap.size w w' → Calls Try.prog 19 #[.slice A3 n3 c3] w' fun e w'' => Bo e ∧ w' = w'') :
    Calls Try.prog 8 #[.agg #[.int .i64 id, .int .i64 bits, .slice Q 0 qc, .slice A1 n1 c1, .slice A2 n2 c2, .slice A3 n3 c3]] w fun e w' => Bo e ∧ Below w.heap.size w w' := by
  have wz : Below w.heap.size w (w.alloc (.cells #[.int .i64 id, .int .i64 bits, .slice Q 0 qc, .slice A1 n1 c1, .slice A2 n2 c2, .slice A3 n3 c3] 25)) := (Below.refl _ _).alloc (Nat.le_refl _) _
  by_cases hs : 200 < (0 : Int) + n1 + n2 + n3
  · go_enter Try.func8, Try.ntmps8
    go_wp2
    go_ret
    exact ⟨⟨_, rfl⟩, wz⟩
  · go_enter Try.func8, Try.ntmps8
    go_wp2
    refine wp_loop_rounds 1 ?_
    rw [rounds_succ]
    go_wp2_with fail
    refine (F1 _ wz).mono ?_
    rintro e w' ⟨⟨b1, rfl⟩, rfl⟩
    cases b1
    · go_wp2_with fail
      go_ret
      exact ⟨⟨_, rfl⟩, wz⟩
    · go_wp2_with fail
      refine (F2 _ wz).mono ?_
      rintro e w' ⟨⟨b1, rfl⟩, rfl⟩
      cases b1
      · go_wp2_with fail
        go_ret
        exact ⟨⟨_, rfl⟩, wz⟩
      · go_wp2_with fail
        refine (F3 _ wz).mono ?_
        rintro e w' ⟨⟨b1, rfl⟩, rfl⟩
        go_wp2_with fail
        go_ret
        exact ⟨⟨_, rfl⟩, wz⟩

theorem small_any (id bits : Int) (Q A1 A2 A3 : Option Addr) (qn qc n1 c1 n2 c2 n3 c3 : Nat) (an ns ar : List RV) (w : World) (q : Qn w Q qn) (s1 : Sl w A1 n1 c1 an) (s2 : Sl w A2 n2 c2 ns) (s3 : Sl w A3 n3 c3 ar) :
    Calls Try.prog 8 #[.agg #[.int .i64 id, .int .i64 bits, .slice Q qn qc, .slice A1 n1 c1, .slice A2 n2 c2, .slice A3 n3 c3]] w fun e w' => Bo e ∧ Below w.heap.size w w' := by
  have h1 := s1.2.2.1
  have h2 := s2.2.2.1
  have h3 := s3.2.2.1
  obtain ⟨q1, q2⟩ := q
  rcases q2 with rfl | ⟨b, off, rfl, hlt, hr⟩
  · exact small_nil id bits Q A1 A2 A3 qc n1 c1 n2 c2 n3 c3 w (by omega) (by omega) (by omega) (fun w' hb => few_any (s1.below hb)) (fun w' hb => few_any (s2.below hb)) (fun w' hb => few_any (s3.below hb))
  · exact small_some id bits b off A1 A2 A3 qn qc n1 c1 n2 c2 n3 c3 w hlt (by omega) (by omega) (by omega) (by omega) (Lib.hid hr) (fun w' hb => few_any (s1.below hb)) (fun w' hb => few_any (s2.below hb)) (fun w' hb => few_any (s3.below hb))

end Go.Proofs.Ytnbngkecabacaaa.Ey
