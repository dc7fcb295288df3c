/- Contracts of slices.IndexFunc and slices.ContainsFunc at the predicate of package edns, over records in memory. -/
import Derived.Test.YtnbngkecabacaaaFr
import Derived.WalkKit
import Derived.Below
import Derived.KernelRfl
import Derived.LoopTactic
import Derived.LoopN
import Derived.Outline
import Derived.Deep.RegionHeld3
import Derived.Lib.Hide
import Derived.Laws.Tables
import Derived.Laws.Rows
namespace Go.Proofs.Ytnbngkecabacaaa.Ed
open Go.RowKit Go.Proofs.Ytnbngkecabacaaa.Fb Go.Proofs.Ytnbngkecabacaaa.Fl Go.Proofs.Ytnbngkecabacaaa.Fr
set_option linter.unusedVariables false

theorem step (a b c : World) (h : Below a.heap.size a b) (k : Below b.heap.size b c) : Below a.heap.size a c := h.trans (k.mono h.size)
theorem bcell {W w1 : World} (hb : Below W.heap.size W w1) : (∀ b o, b < W.heap.size → w1.cell? ⟨b, o, none⟩ = W.cell? ⟨b, o, none⟩) ∧ (∀ b o, b < W.heap.size → w1.frozen? ⟨b, o, none⟩ = W.frozen? ⟨b, o, none⟩) :=
  ⟨fun b o h => hb.cell (p := ⟨b, o, none⟩) h, fun b o h => hb.frozen (p := ⟨b, o, none⟩) h⟩
/-- A record, as its five cells. -/
structure RV where
  name : ByteArray
  type : Int
  cls : Int
  ttl : Int
  data : ByteArray

/-- A slice's records lie in memory, from a place on. -/
def Row (w : World) (b off : Nat) (rs : List RV) : Prop := ∀ (k : Nat) (r : RV), rs[k]? = some r →
  w.cell? ⟨b, off + k * 5, none⟩ = some (.string r.name) ∧ w.cell? ⟨b, off + k * 5 + 1, none⟩ = some (.int .i64 r.type) ∧ w.cell? ⟨b, off + k * 5 + 2, none⟩ = some (.int .i64 r.cls) ∧
  w.cell? ⟨b, off + k * 5 + 3, none⟩ = some (.int .i64 r.ttl) ∧ w.cell? ⟨b, off + k * 5 + 4, none⟩ = some (.string r.data)
theorem Row.below {B : Nat} {w w' : World} {b off : Nat} {rs : List RV} (h : Row w b off rs) (hb : Below B w w') (hlt : b < B) : Row w' b off rs := fun k r hr => by
  obtain ⟨h0, h1, h2, h3, h4⟩ := h k r hr
  exact ⟨(hb.cell (p := ⟨b, off + k * 5, none⟩) hlt).trans h0, (hb.cell (p := ⟨b, off + k * 5 + 1, none⟩) hlt).trans h1, (hb.cell (p := ⟨b, off + k * 5 + 2, none⟩) hlt).trans h2, (hb.cell (p := ⟨b, off + k * 5 + 3, none⟩) hlt).trans h3, (hb.cell (p := ⟨b, off + k * 5 + 4, none⟩) hlt).trans h4⟩
theorem Row.drop {w : World} {b off : Nat} {rs : List RV} (h : Row w b off rs) (m : Nat) : Row w b (off + m * 5) (rs.drop m) := fun k r hr => by
  rw [List.getElem?_drop] at hr
  have e : off + m * 5 + k * 5 = off + (m + k) * 5 := by omega
  rw [e]
  exact h (m + k) r hr

/-- A slice of records: nil, or laid from a place on. -/
def Sl (w : World) (A : Option Addr) (n c : Nat) (rs : List RV) : Prop :=
  n = rs.length ∧ n ≤ c ∧ n * 56 ≤ 140737488355328 ∧ (n = 0 ∨ ∃ b off, A = some ⟨b, off, none⟩ ∧ b < w.heap.size ∧ Row w b off rs)
theorem Sl.below {w w' : World} {A : Option Addr} {n c : Nat} {rs : List RV} (h : Sl w A n c rs) (hb : Below w.heap.size w w') : Sl w' A n c rs := by
  obtain ⟨h1, h2, h3, h4⟩ := h
  refine ⟨h1, h2, h3, ?_⟩
  rcases h4 with h4 | ⟨b, off, rfl, hlt, hr⟩
  · exact .inl h4
  · exact .inr ⟨b, off, rfl, Nat.lt_of_lt_of_le hlt hb.size, hr.below hb hlt⟩

def inB (n m : Int) : Bool := decide (0 ≤ n ∧ n ≤ m)
theorem in_any (n m : Int) (w : World) : Calls Try.prog 23 #[.int .i64 n, .int .i64 m] w fun e w' => e = .returned (.bool (inB n m)) ∧ w = w' := by
  by_cases c : 0 ≤ n
  · have c1 : decide (0 ≤ n) = true := by simpa using c
    have c2 : inB n m = decide (n ≤ m) := by unfold inB; simp [c]
    rw [c2]; clear c2 c
    go_enter Try.func23, Try.ntmps23
    go_wp2
    go_ret
    exact ⟨rfl, rfl⟩
  · have c1 : decide (0 ≤ n) = false := by simpa using c
    have c2 : inB n m = false := by unfold inB; simp [c]
    rw [c2]; clear c2 c
    go_enter Try.func23, Try.ntmps23
    go_wp2
    go_ret
    exact ⟨rfl, rfl⟩
theorem opt_any (nm d : ByteArray) (t c l : Int) (w : World) : Calls Try.prog 21 #[.agg #[.string nm, .int .i64 t, .int .i64 c, .int .i64 l, .string d]] w fun e w' => e = .returned (.bool (t == 41)) ∧ Below w.heap.size w w' := by
  go_enter Try.func21, Try.ntmps21
  go_wp2
  go_ret
  exact ⟨rfl, (Below.refl _ _).alloc (Nat.le_refl _) _⟩

/-- The first record that is an OPT record, or -1. -/
def idx : List RV → Int
  | [] => -1
  | r :: l => if r.type = 41 then 0 else if idx l < 0 then -1 else idx l + 1
theorem idx_ge : ∀ rs, -1 ≤ idx rs ∧ idx rs < rs.length
  | [] => by simp [idx]
  | r :: l => by
    have := idx_ge l
    simp only [idx, List.length_cons]
    (repeat' split) <;> omega
theorem idx_none : ∀ (rs : List RV), (∀ (j : Nat) r, rs[j]? = some r → r.type ≠ 41) → idx rs = -1
  | [], _ => rfl
  | r :: l, h => by
    have h0 := h 0 r rfl
    have h1 := idx_none l (fun j x hx => h (j + 1) x (by simpa using hx))
    simp only [idx]
    rw [if_neg h0, h1]; rfl
theorem idx_at : ∀ (rs : List RV) (k : Nat) (r : RV), rs[k]? = some r → r.type = 41 → (∀ (j : Nat) x, j < k → rs[j]? = some x → x.type ≠ 41) → idx rs = k
  | [], k, r, h, _, _ => by simp at h
  | x :: l, 0, r, h, ht, _ => by
    simp at h; subst h
    simp [idx, ht]
  | x :: l, k + 1, r, h, ht, hn => by
    have h0 := hn 0 x (by omega) rfl
    have h1 := idx_at l k r (by simpa using h) ht (fun j y hj hy => hn (j + 1) y (by omega) (by simpa using hy))
    simp only [idx]
    rw [if_neg h0, h1, if_neg (by omega)]; omega
theorem idx_get (rs : List RV) (h : 0 ≤ idx rs) : ∃ r, rs[(idx rs).toNat]? = some r ∧ r.type = 41 := by
  induction rs with
  | nil => simp [idx] at h
  | cons x l ih =>
    simp only [idx] at h ⊢
    by_cases h0 : x.type = 41
    · rw [if_pos h0]; exact ⟨x, rfl, h0⟩
    · rw [if_neg h0] at h ⊢
      by_cases h1 : idx l < 0
      · rw [if_pos h1] at h; omega
      · rw [if_neg h1]
        obtain ⟨r, hr, ht⟩ := ih (by omega)
        refine ⟨r, ?_, ht⟩
        have e : (idx l + 1).toNat = (idx l).toNat + 1 := by omega
        rw [e]; simpa using hr

set_option maxHeartbeats 800000 in
theorem idx_some (b off n c : Nat) (rs : List RV) (hN : n = rs.length) (hn : n ≤ 140737488351232) (w : World) (hlt : b < w.heap.size) (hrow : Row w b off rs) :
    Calls Try.prog 20 #[.slice (some ⟨b, off, none⟩) n c, .func (.func 21) #[] #[]] w fun e w' => e = .returned (.int .i64 (idx rs)) ∧ Below w.heap.size w w' := by
  have HN := Lib.hid hN
  clear hN
  go_enter Try.func20, Try.ntmps20
  go_wp2
  go_loopw [5, 8] (fun _ t wr => ∃ k : Nat, k ≤ n ∧ t = .int .i64 (k : Int) ∧ Hid (∀ (j : Nat) r, j < k → rs[j]? = some r → r.type ≠ 41) ∧ Below w.heap.size w wr) (fun _ t _ => n - (intOf t).toNat)
  case atStart => exact ⟨0, Nat.zero_le _, rfl, Lib.hid (fun j r h => by omega), Below.refl _ _⟩
  case round =>
    obtain ⟨k, hk, rfl, hno, hbr⟩ := hrel
    by_cases hlk : k < n
    · obtain ⟨r, hr⟩ : ∃ r, rs[k]? = some r := ⟨rs[k]'(by have := HN.out; omega), List.getElem?_eq_getElem _⟩
      obtain ⟨c0, c1, c2, c3, c4⟩ := (hrow.below hbr hlt) k r hr
      have hr' := Lib.hid hr
      clear hr
      have O := opt_any r.name r.data r.type r.cls r.ttl
      by_cases ht : r.type = 41
      · have hi := Lib.hid (idx_at rs k r hr'.out ht hno.out)
        have e : (r.type == 41) = true := by simpa using ht
        rw [e] at O
        clear e ht
        go_wp2_with fail
        refine (O _).mono ?_
        rintro e x1 ⟨rfl, xb⟩
        go_wp2_with fail
        go_ret
        exact ⟨congrArg (fun n => Ending.returned (.int .i64 n)) hi.out.symm, step _ _ _ hbr xb⟩
      · have hno' : Hid (∀ (j : Nat) r, j < k + 1 → rs[j]? = some r → r.type ≠ 41) := Lib.hid (fun j x hj hx => by
          by_cases hjk : j = k
          · subst hjk
            have := hr'.out.symm.trans hx
            injection this with this
            rw [← this]; exact ht
          · exact hno.out j x (by omega) hx)
        have e : (r.type == 41) = false := by simpa using ht
        rw [e] at O
        clear e ht
        go_wp2_with fail
        refine (O _).mono ?_
        rintro e x1 ⟨rfl, xb⟩
        go_wp2_with fail
        go_roundw
        case rel => exact ⟨k + 1, by omega, by go_num, hno', step _ _ _ hbr xb⟩
        case measure => simp [intOf]; omega
    · have hi := Lib.hid (idx_none rs (fun j r hr => hno.out j r (by
        have := (List.getElem?_eq_some_iff.1 hr).1
        have := HN.out
        omega) hr))
      go_wp2_with fail
      go_ret
      exact ⟨congrArg (fun n => Ending.returned (.int .i64 n)) hi.out.symm, hbr⟩
theorem idx_nil (A : Option Addr) (c : Nat) (w : World) : Calls Try.prog 20 #[.slice A 0 c, .func (.func 21) #[] #[]] w fun e w' => e = .returned (.int .i64 (-1)) ∧ Below w.heap.size w w' := by
  go_enter Try.func20, Try.ntmps20
  go_wp2
  refine wp_loop_rounds 1 ?_
  rw [rounds_succ]
  go_wp2
  go_ret
  exact ⟨rfl, Below.refl _ _⟩
theorem idx_any {A : Option Addr} {n c : Nat} {rs : List RV} {w : World} (h : Sl w A n c rs) : Calls Try.prog 20 #[.slice A n c, .func (.func 21) #[] #[]] w fun e w' => e = .returned (.int .i64 (idx rs)) ∧ Below w.heap.size w w' := by
  obtain ⟨h1, h2, h3, h4⟩ := h
  rcases h4 with rfl | ⟨b, off, rfl, hlt, hr⟩
  · have e : rs = [] := List.eq_nil_of_length_eq_zero h1.symm
    subst e
    exact idx_nil A c w
  · exact idx_some b off n c rs h1 (by omega) w hlt hr
theorem has_any {A : Option Addr} {n c : Nat} {rs : List RV} {w : World} (h : Sl w A n c rs) : Calls Try.prog 22 #[.slice A n c, .func (.func 21) #[] #[]] w fun e w' => e = .returned (.bool (decide (0 ≤ idx rs))) ∧ Below w.heap.size w w' := by
  have I := idx_any h
  clear h
  generalize idx rs = i at *
  go_enter Try.func22, Try.ntmps22
  go_wp2_with fail
  refine I.mono ?_
  rintro e w1 ⟨rfl, hb⟩
  go_wp2_with fail
  go_ret
  exact ⟨rfl, hb⟩

end Go.Proofs.Ytnbngkecabacaaa.Ed
