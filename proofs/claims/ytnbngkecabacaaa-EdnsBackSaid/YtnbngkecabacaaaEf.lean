/- The ways through package edns's Find. -/
import Derived.Test.YtnbngkecabacaaaEd
import Derived.WalkKit
import Derived.Below
import Derived.KernelRfl
import Derived.LoopTactic
import Derived.LoopN
import Derived.Outline
import Derived.Deep.RegionHeld3
import Derived.Lib.Hide
import Derived.Laws.Tables
import Derived.Laws.Rows
namespace Go.Proofs.Ytnbngkecabacaaa.Ef
open Go.RowKit Go.Proofs.Ytnbngkecabacaaa.Fb Go.Proofs.Ytnbngkecabacaaa.Fl Go.Proofs.Ytnbngkecabacaaa.Fr Go.Proofs.Ytnbngkecabacaaa.Ed
set_option linter.unusedVariables false

structure OV where
  has : Bool
  size : Int
  ext : Int
  vers : Int
  dob : Bool
def OV.agg (o : OV) : Value := .agg #[.bool o.has, .int .i64 o.size, .int .i64 o.ext, .int .i64 o.vers, .bool o.dob]
def zeroO : OV := ⟨false, 0, 0, 0, false⟩
def root : ByteArray := ⟨#[0]⟩
def optOf (r : RV) : OV := ⟨true, r.cls, r.ttl / 16777216, r.ttl / 65536 % 256, decide (r.ttl / 32768 % 2 = 1)⟩

theorem sl_cut {w : World} {b off n c : Nat} {rs : List RV} (k : Nat) (hk : k ≤ n) (k0 : 0 < n) (h : Sl w (some ⟨b, off, none⟩) n c rs) : Sl w (some ⟨b, off + k * 5, none⟩) (n - k) (c - k) (rs.drop k) := by
  obtain ⟨h1, h2, h3, h4⟩ := h
  rcases h4 with h | ⟨b', off', he, hlt, hr⟩
  · omega
  · simp only [Option.some.injEq, Addr.mk.injEq] at he
    obtain ⟨rfl, rfl, _⟩ := he
    exact ⟨by rw [List.length_drop, h1], by omega, by omega, .inr ⟨b, off + k * 5, rfl, hlt, hr.drop k⟩⟩
theorem sl_cut0 {w : World} {A : Option Addr} {n c : Nat} {rs : List RV} (h : Sl w A n c rs) : Sl w A (n - n) 0 (rs.drop n) := by
  obtain ⟨h1, h2, h3, h4⟩ := h
  have e : rs.drop n = [] := List.drop_eq_nil_of_le (by omega)
  rw [e]
  exact ⟨by simp, by omega, by omega, .inl (by omega)⟩
theorem sl_row {w : World} {A : Option Addr} {n c : Nat} {rs : List RV} (k0 : 0 < n) (h : Sl w A n c rs) : ∃ b off, A = some ⟨b, off, none⟩ ∧ b < w.heap.size ∧ Row w b off rs := by
  rcases h.2.2.2 with h | ⟨b', off', he, hlt, hr⟩
  · omega
  · exact ⟨b', off', he, hlt, hr⟩

set_option maxHeartbeats 2000000 in
theorem find_more_ne (id bits : Int) (Q A1 A2 : Option Addr) (qn qc n1 c1 n2 c2 : Nat) (b off i : Nat) (n c : Nat) (hcap : ¬ c = i + 1) (hi : i < n) (hnc : n ≤ c) (hnm : n ≤ 140737488351232) (r : RV) (w : World) (hlt : b < w.heap.size)
    (e0 : w.cell? ⟨b, off + i * 5, none⟩ = some (.string r.name)) (e1 : w.cell? ⟨b, off + i * 5 + 1, none⟩ = some (.int .i64 r.type)) (e2 : w.cell? ⟨b, off + i * 5 + 2, none⟩ = some (.int .i64 r.cls))
    (e3 : w.cell? ⟨b, off + i * 5 + 3, none⟩ = some (.int .i64 r.ttl)) (e4 : w.cell? ⟨b, off + i * 5 + 4, none⟩ = some (.string r.data))
    (H3 : ∀ w', Below w.heap.size w w' → Calls Try.prog 20 #[.slice (some ⟨b, off, none⟩) n c, .func (.func 21) #[] #[]] w' fun e w'' => e = .returned (.int .i64 (i : Int)) ∧ Below w'.heap.size w' w'') (H1 : ∀ w', Below w.heap.size w w' → Calls Try.prog 22 #[.slice A1 n1 c1, .func (.func 21) #[] #[]] w' fun e w'' => e = .returned (.bool false) ∧ Below w'.heap.size w' w'') (H2 : ∀ w', Below w.heap.size w w' → Calls Try.prog 22 #[.slice A2 n2 c2, .func (.func 21) #[] #[]] w' fun e w'' => e = .returned (.bool false) ∧ Below w'.heap.size w' w'') (H4 : ∀ w', Below w.heap.size w w' → Calls Try.prog 22 #[.slice (some ⟨b, off + (i + 1) * 5, none⟩) (n - (i + 1)) (c - (i + 1)), .func (.func 21) #[] #[]] w' fun e w'' => e = .returned (.bool true) ∧ Below w'.heap.size w' w'')
     :
    Calls Try.prog 10 #[.agg #[.int .i64 id, .int .i64 bits, .slice Q qn qc, .slice A1 n1 c1, .slice A2 n2 c2, .slice (some ⟨b, off, none⟩) n c]] w fun e w' => e = .returned (.tuple #[.agg #[.bool false, .int .i64 0, .int .i64 0, .int .i64 0, .bool false], .int .i64 7]) ∧ Below w.heap.size w w' := by
  have wz : Below w.heap.size w ((w.alloc (.cells #[.int .i64 id, .int .i64 bits, .slice Q qn qc, .slice A1 n1 c1, .slice A2 n2 c2, .slice (some ⟨b, off, none⟩) n c] 25)).alloc (.cells #[.bool false, .int .i64 0, .int .i64 0, .int .i64 0, .bool false] 29)) := ((Below.refl _ _).alloc (Nat.le_refl _) _).alloc (by simp) _
  have u0 : b < w.heap.size + 1 + 1 := by omega
  have ci : decide ((i : Int) < 0) = false := by simp
  go_enter Try.func10, Try.ntmps10
  go_wp2_with fail
  refine (H3 _ wz).mono ?_
  rintro e w1 ⟨rfl, hb1⟩
  obtain ⟨q1, f1⟩ := bcell hb1
  have z1 : w.heap.size + 1 < w1.heap.size := by have := hb1.size; simp at this; omega
  have y1 : w.heap.size < w1.heap.size := by omega
  have u1 : b < w1.heap.size := by omega
  have wz1 := wz.trans (hb1.mono (by simp; omega))
  go_wp2_with fail
  refine (H1 _ wz1).mono ?_
  rintro e w2 ⟨rfl, hb2⟩
  obtain ⟨q2, f2⟩ := bcell hb2
  have z2 : w.heap.size + 1 < w2.heap.size := by have := hb2.size; omega
  have y2 : w.heap.size < w2.heap.size := by omega
  have u2 : b < w2.heap.size := by omega
  have wz2 := wz1.trans (hb2.mono wz1.size)
  go_wp2_with fail
  refine (H2 _ wz2).mono ?_
  rintro e w3 ⟨rfl, hb3⟩
  obtain ⟨q3, f3⟩ := bcell hb3
  have z3 : w.heap.size + 1 < w3.heap.size := by have := hb3.size; omega
  have y3 : w.heap.size < w3.heap.size := by omega
  have u3 : b < w3.heap.size := by omega
  have wz3 := wz2.trans (hb3.mono wz2.size)
  go_wp2_with fail
  have wz3' : Below w.heap.size w (w3.alloc (.cells #[.string r.name, .int .i64 r.type, .int .i64 r.cls, .int .i64 r.ttl, .string r.data] 37)) := wz3.alloc wz3.size _
  refine (H4 _ wz3').mono ?_
  rintro e w4 ⟨rfl, hb4⟩
  obtain ⟨q4, f4⟩ := bcell hb4
  have z4 : w3.heap.size < w4.heap.size := by have := hb4.size; simp at this; omega
  have x4 : w.heap.size + 1 < w4.heap.size := by omega
  have y4 : w.heap.size < w4.heap.size := by omega
  have x5 : w.heap.size + 1 < w3.heap.size + 1 := by omega
  have x6 : w.heap.size < w3.heap.size + 1 := by omega
  have wz4 := wz3'.trans (hb4.mono wz3'.size)
  go_wp2_with fail
  exact bodyPost_ret (v := .tuple #[.agg #[.bool false, .int .i64 0, .int .i64 0, .int .i64 0, .bool false], .int .i64 7]) (by simp [results, Try.results10, go_sem, *]) rfl ⟨rfl, (((((wz4).setCell (by simp) _).setCell (by simp) _).setCell (by simp) _).setCell (by simp) _).setCell (by simp) _⟩

set_option maxHeartbeats 2000000 in
theorem find_name_ne (id bits : Int) (Q A1 A2 : Option Addr) (qn qc n1 c1 n2 c2 : Nat) (b off i : Nat) (n c : Nat) (hcap : ¬ c = i + 1) (hi : i < n) (hnc : n ≤ c) (hnm : n ≤ 140737488351232) (r : RV) (w : World) (hlt : b < w.heap.size)
    (e0 : w.cell? ⟨b, off + i * 5, none⟩ = some (.string r.name)) (e1 : w.cell? ⟨b, off + i * 5 + 1, none⟩ = some (.int .i64 r.type)) (e2 : w.cell? ⟨b, off + i * 5 + 2, none⟩ = some (.int .i64 r.cls))
    (e3 : w.cell? ⟨b, off + i * 5 + 3, none⟩ = some (.int .i64 r.ttl)) (e4 : w.cell? ⟨b, off + i * 5 + 4, none⟩ = some (.string r.data))
    (H3 : ∀ w', Below w.heap.size w w' → Calls Try.prog 20 #[.slice (some ⟨b, off, none⟩) n c, .func (.func 21) #[] #[]] w' fun e w'' => e = .returned (.int .i64 (i : Int)) ∧ Below w'.heap.size w' w'') (H1 : ∀ w', Below w.heap.size w w' → Calls Try.prog 22 #[.slice A1 n1 c1, .func (.func 21) #[] #[]] w' fun e w'' => e = .returned (.bool false) ∧ Below w'.heap.size w' w'') (H2 : ∀ w', Below w.heap.size w w' → Calls Try.prog 22 #[.slice A2 n2 c2, .func (.func 21) #[] #[]] w' fun e w'' => e = .returned (.bool false) ∧ Below w'.heap.size w' w'') (H4 : ∀ w', Below w.heap.size w w' → Calls Try.prog 22 #[.slice (some ⟨b, off + (i + 1) * 5, none⟩) (n - (i + 1)) (c - (i + 1)), .func (.func 21) #[] #[]] w' fun e w'' => e = .returned (.bool false) ∧ Below w'.heap.size w' w'')
    (nb : (r.name.toList == [0]) = false) :
    Calls Try.prog 10 #[.agg #[.int .i64 id, .int .i64 bits, .slice Q qn qc, .slice A1 n1 c1, .slice A2 n2 c2, .slice (some ⟨b, off, none⟩) n c]] w fun e w' => e = .returned (.tuple #[.agg #[.bool false, .int .i64 0, .int .i64 0, .int .i64 0, .bool false], .int .i64 7]) ∧ Below w.heap.size w w' := by
  have wz : Below w.heap.size w ((w.alloc (.cells #[.int .i64 id, .int .i64 bits, .slice Q qn qc, .slice A1 n1 c1, .slice A2 n2 c2, .slice (some ⟨b, off, none⟩) n c] 25)).alloc (.cells #[.bool false, .int .i64 0, .int .i64 0, .int .i64 0, .bool false] 29)) := ((Below.refl _ _).alloc (Nat.le_refl _) _).alloc (by simp) _
  have u0 : b < w.heap.size + 1 + 1 := by omega
  have ci : decide ((i : Int) < 0) = false := by simp
  go_enter Try.func10, Try.ntmps10
  go_wp2_with fail
  refine (H3 _ wz).mono ?_
  rintro e w1 ⟨rfl, hb1⟩
  obtain ⟨q1, f1⟩ := bcell hb1
  have z1 : w.heap.size + 1 < w1.heap.size := by have := hb1.size; simp at this; omega
  have y1 : w.heap.size < w1.heap.size := by omega
  have u1 : b < w1.heap.size := by omega
  have wz1 := wz.trans (hb1.mono (by simp; omega))
  go_wp2_with fail
  refine (H1 _ wz1).mono ?_
  rintro e w2 ⟨rfl, hb2⟩
  obtain ⟨q2, f2⟩ := bcell hb2
  have z2 : w.heap.size + 1 < w2.heap.size := by have := hb2.size; omega
  have y2 : w.heap.size < w2.heap.size := by omega
  have u2 : b < w2.heap.size := by omega
  have wz2 := wz1.trans (hb2.mono wz1.size)
  go_wp2_with fail
  refine (H2 _ wz2).mono ?_
  rintro e w3 ⟨rfl, hb3⟩
  obtain ⟨q3, f3⟩ := bcell hb3
  have z3 : w.heap.size + 1 < w3.heap.size := by have := hb3.size; omega
  have y3 : w.heap.size < w3.heap.size := by omega
  have u3 : b < w3.heap.size := by omega
  have wz3 := wz2.trans (hb3.mono wz2.size)
  go_wp2_with fail
  have wz3' : Below w.heap.size w (w3.alloc (.cells #[.string r.name, .int .i64 r.type, .int .i64 r.cls, .int .i64 r.ttl, .string r.data] 37)) := wz3.alloc wz3.size _
  refine (H4 _ wz3').mono ?_
  rintro e w4 ⟨rfl, hb4⟩
  obtain ⟨q4, f4⟩ := bcell hb4
  have z4 : w3.heap.size < w4.heap.size := by have := hb4.size; simp at this; omega
  have x4 : w.heap.size + 1 < w4.heap.size := by omega
  have y4 : w.heap.size < w4.heap.size := by omega
  have x5 : w.heap.size + 1 < w3.heap.size + 1 := by omega
  have x6 : w.heap.size < w3.heap.size + 1 := by omega
  have wz4 := wz3'.trans (hb4.mono wz3'.size)
  go_wp2_with fail
  exact bodyPost_ret (v := .tuple #[.agg #[.bool false, .int .i64 0, .int .i64 0, .int .i64 0, .bool false], .int .i64 7]) (by simp [results, Try.results10, go_sem, *]) rfl ⟨rfl, (((((wz4).setCell (by simp) _).setCell (by simp) _).setCell (by simp) _).setCell (by simp) _).setCell (by simp) _⟩

set_option maxHeartbeats 2000000 in
theorem find_cls_ne (id bits : Int) (Q A1 A2 : Option Addr) (qn qc n1 c1 n2 c2 : Nat) (b off i : Nat) (n c : Nat) (hcap : ¬ c = i + 1) (hi : i < n) (hnc : n ≤ c) (hnm : n ≤ 140737488351232) (r : RV) (w : World) (hlt : b < w.heap.size)
    (e0 : w.cell? ⟨b, off + i * 5, none⟩ = some (.string r.name)) (e1 : w.cell? ⟨b, off + i * 5 + 1, none⟩ = some (.int .i64 r.type)) (e2 : w.cell? ⟨b, off + i * 5 + 2, none⟩ = some (.int .i64 r.cls))
    (e3 : w.cell? ⟨b, off + i * 5 + 3, none⟩ = some (.int .i64 r.ttl)) (e4 : w.cell? ⟨b, off + i * 5 + 4, none⟩ = some (.string r.data))
    (H3 : ∀ w', Below w.heap.size w w' → Calls Try.prog 20 #[.slice (some ⟨b, off, none⟩) n c, .func (.func 21) #[] #[]] w' fun e w'' => e = .returned (.int .i64 (i : Int)) ∧ Below w'.heap.size w' w'') (H1 : ∀ w', Below w.heap.size w w' → Calls Try.prog 22 #[.slice A1 n1 c1, .func (.func 21) #[] #[]] w' fun e w'' => e = .returned (.bool false) ∧ Below w'.heap.size w' w'') (H2 : ∀ w', Below w.heap.size w w' → Calls Try.prog 22 #[.slice A2 n2 c2, .func (.func 21) #[] #[]] w' fun e w'' => e = .returned (.bool false) ∧ Below w'.heap.size w' w'') (H4 : ∀ w', Below w.heap.size w w' → Calls Try.prog 22 #[.slice (some ⟨b, off + (i + 1) * 5, none⟩) (n - (i + 1)) (c - (i + 1)), .func (.func 21) #[] #[]] w' fun e w'' => e = .returned (.bool false) ∧ Below w'.heap.size w' w'')
    (nb : (r.name.toList == [0]) = true) (I1 : ∀ w : World, Calls Try.prog 23 #[.int .i64 r.cls, .int .i64 65535] w fun e w' => e = .returned (.bool false) ∧ w = w') :
    Calls Try.prog 10 #[.agg #[.int .i64 id, .int .i64 bits, .slice Q qn qc, .slice A1 n1 c1, .slice A2 n2 c2, .slice (some ⟨b, off, none⟩) n c]] w fun e w' => e = .returned (.tuple #[.agg #[.bool false, .int .i64 0, .int .i64 0, .int .i64 0, .bool false], .int .i64 7]) ∧ Below w.heap.size w w' := by
  have wz : Below w.heap.size w ((w.alloc (.cells #[.int .i64 id, .int .i64 bits, .slice Q qn qc, .slice A1 n1 c1, .slice A2 n2 c2, .slice (some ⟨b, off, none⟩) n c] 25)).alloc (.cells #[.bool false, .int .i64 0, .int .i64 0, .int .i64 0, .bool false] 29)) := ((Below.refl _ _).alloc (Nat.le_refl _) _).alloc (by simp) _
  have u0 : b < w.heap.size + 1 + 1 := by omega
  have ci : decide ((i : Int) < 0) = false := by simp
  go_enter Try.func10, Try.ntmps10
  go_wp2_with fail
  refine (H3 _ wz).mono ?_
  rintro e w1 ⟨rfl, hb1⟩
  obtain ⟨q1, f1⟩ := bcell hb1
  have z1 : w.heap.size + 1 < w1.heap.size := by have := hb1.size; simp at this; omega
  have y1 : w.heap.size < w1.heap.size := by omega
  have u1 : b < w1.heap.size := by omega
  have wz1 := wz.trans (hb1.mono (by simp; omega))
  go_wp2_with fail
  refine (H1 _ wz1).mono ?_
  rintro e w2 ⟨rfl, hb2⟩
  obtain ⟨q2, f2⟩ := bcell hb2
  have z2 : w.heap.size + 1 < w2.heap.size := by have := hb2.size; omega
  have y2 : w.heap.size < w2.heap.size := by omega
  have u2 : b < w2.heap.size := by omega
  have wz2 := wz1.trans (hb2.mono wz1.size)
  go_wp2_with fail
  refine (H2 _ wz2).mono ?_
  rintro e w3 ⟨rfl, hb3⟩
  obtain ⟨q3, f3⟩ := bcell hb3
  have z3 : w.heap.size + 1 < w3.heap.size := by have := hb3.size; omega
  have y3 : w.heap.size < w3.heap.size := by omega
  have u3 : b < w3.heap.size := by omega
  have wz3 := wz2.trans (hb3.mono wz2.size)
  go_wp2_with fail
  have wz3' : Below w.heap.size w (w3.alloc (.cells #[.string r.name, .int .i64 r.type, .int .i64 r.cls, .int .i64 r.ttl, .string r.data] 37)) := wz3.alloc wz3.size _
  refine (H4 _ wz3').mono ?_
  rintro e w4 ⟨rfl, hb4⟩
  obtain ⟨q4, f4⟩ := bcell hb4
  have z4 : w3.heap.size < w4.heap.size := by have := hb4.size; simp at this; omega
  have x4 : w.heap.size + 1 < w4.heap.size := by omega
  have y4 : w.heap.size < w4.heap.size := by omega
  have x5 : w.heap.size + 1 < w3.heap.size + 1 := by omega
  have x6 : w.heap.size < w3.heap.size + 1 := by omega
  have wz4 := wz3'.trans (hb4.mono wz3'.size)
  go_wp2_with fail
  refine (I1 _).mono ?_
  rintro e w' ⟨rfl, rfl⟩
  go_wp2_with fail
  exact bodyPost_ret (v := .tuple #[.agg #[.bool false, .int .i64 0, .int .i64 0, .int .i64 0, .bool false], .int .i64 7]) (by simp [results, Try.results10, go_sem, *]) rfl ⟨rfl, (((((wz4).setCell (by simp) _).setCell (by simp) _).setCell (by simp) _).setCell (by simp) _).setCell (by simp) _⟩

set_option maxHeartbeats 2000000 in
theorem find_ttl_ne (id bits : Int) (Q A1 A2 : Option Addr) (qn qc n1 c1 n2 c2 : Nat) (b off i : Nat) (n c : Nat) (hcap : ¬ c = i + 1) (hi : i < n) (hnc : n ≤ c) (hnm : n ≤ 140737488351232) (r : RV) (w : World) (hlt : b < w.heap.size)
    (e0 : w.cell? ⟨b, off + i * 5, none⟩ = some (.string r.name)) (e1 : w.cell? ⟨b, off + i * 5 + 1, none⟩ = some (.int .i64 r.type)) (e2 : w.cell? ⟨b, off + i * 5 + 2, none⟩ = some (.int .i64 r.cls))
    (e3 : w.cell? ⟨b, off + i * 5 + 3, none⟩ = some (.int .i64 r.ttl)) (e4 : w.cell? ⟨b, off + i * 5 + 4, none⟩ = some (.string r.data))
    (H3 : ∀ w', Below w.heap.size w w' → Calls Try.prog 20 #[.slice (some ⟨b, off, none⟩) n c, .func (.func 21) #[] #[]] w' fun e w'' => e = .returned (.int .i64 (i : Int)) ∧ Below w'.heap.size w' w'') (H1 : ∀ w', Below w.heap.size w w' → Calls Try.prog 22 #[.slice A1 n1 c1, .func (.func 21) #[] #[]] w' fun e w'' => e = .returned (.bool false) ∧ Below w'.heap.size w' w'') (H2 : ∀ w', Below w.heap.size w w' → Calls Try.prog 22 #[.slice A2 n2 c2, .func (.func 21) #[] #[]] w' fun e w'' => e = .returned (.bool false) ∧ Below w'.heap.size w' w'') (H4 : ∀ w', Below w.heap.size w w' → Calls Try.prog 22 #[.slice (some ⟨b, off + (i + 1) * 5, none⟩) (n - (i + 1)) (c - (i + 1)), .func (.func 21) #[] #[]] w' fun e w'' => e = .returned (.bool false) ∧ Below w'.heap.size w' w'')
    (nb : (r.name.toList == [0]) = true) (I1 : ∀ w : World, Calls Try.prog 23 #[.int .i64 r.cls, .int .i64 65535] w fun e w' => e = .returned (.bool true) ∧ w = w') (I2 : ∀ w : World, Calls Try.prog 23 #[.int .i64 r.ttl, .int .i64 4294967295] w fun e w' => e = .returned (.bool false) ∧ w = w') :
    Calls Try.prog 10 #[.agg #[.int .i64 id, .int .i64 bits, .slice Q qn qc, .slice A1 n1 c1, .slice A2 n2 c2, .slice (some ⟨b, off, none⟩) n c]] w fun e w' => e = .returned (.tuple #[.agg #[.bool false, .int .i64 0, .int .i64 0, .int .i64 0, .bool false], .int .i64 7]) ∧ Below w.heap.size w w' := by
  have wz : Below w.heap.size w ((w.alloc (.cells #[.int .i64 id, .int .i64 bits, .slice Q qn qc, .slice A1 n1 c1, .slice A2 n2 c2, .slice (some ⟨b, off, none⟩) n c] 25)).alloc (.cells #[.bool false, .int .i64 0, .int .i64 0, .int .i64 0, .bool false] 29)) := ((Below.refl _ _).alloc (Nat.le_refl _) _).alloc (by simp) _
  have u0 : b < w.heap.size + 1 + 1 := by omega
  have ci : decide ((i : Int) < 0) = false := by simp
  go_enter Try.func10, Try.ntmps10
  go_wp2_with fail
  refine (H3 _ wz).mono ?_
  rintro e w1 ⟨rfl, hb1⟩
  obtain ⟨q1, f1⟩ := bcell hb1
  have z1 : w.heap.size + 1 < w1.heap.size := by have := hb1.size; simp at this; omega
  have y1 : w.heap.size < w1.heap.size := by omega
  have u1 : b < w1.heap.size := by omega
  have wz1 := wz.trans (hb1.mono (by simp; omega))
  go_wp2_with fail
  refine (H1 _ wz1).mono ?_
  rintro e w2 ⟨rfl, hb2⟩
  obtain ⟨q2, f2⟩ := bcell hb2
  have z2 : w.heap.size + 1 < w2.heap.size := by have := hb2.size; omega
  have y2 : w.heap.size < w2.heap.size := by omega
  have u2 : b < w2.heap.size := by omega
  have wz2 := wz1.trans (hb2.mono wz1.size)
  go_wp2_with fail
  refine (H2 _ wz2).mono ?_
  rintro e w3 ⟨rfl, hb3⟩
  obtain ⟨q3, f3⟩ := bcell hb3
  have z3 : w.heap.size + 1 < w3.heap.size := by have := hb3.size; omega
  have y3 : w.heap.size < w3.heap.size := by omega
  have u3 : b < w3.heap.size := by omega
  have wz3 := wz2.trans (hb3.mono wz2.size)
  go_wp2_with fail
  have wz3' : Below w.heap.size w (w3.alloc (.cells #[.string r.name, .int .i64 r.type, .int .i64 r.cls, .int .i64 r.ttl, .string r.data] 37)) := wz3.alloc wz3.size _
  refine (H4 _ wz3').mono ?_
  rintro e w4 ⟨rfl, hb4⟩
  obtain ⟨q4, f4⟩ := bcell hb4
  have z4 : w3.heap.size < w4.heap.size := by have := hb4.size; simp at this; omega
  have x4 : w.heap.size + 1 < w4.heap.size := by omega
  have y4 : w.heap.size < w4.heap.size := by omega
  have x5 : w.heap.size + 1 < w3.heap.size + 1 := by omega
  have x6 : w.heap.size < w3.heap.size + 1 := by omega
  have wz4 := wz3'.trans (hb4.mono wz3'.size)
  go_wp2_with fail
  refine (I1 _).mono ?_
  rintro e w' ⟨rfl, rfl⟩
  go_wp2_with fail
  refine (I2 _).mono ?_
  rintro e w' ⟨rfl, rfl⟩
  go_wp2_with fail
  exact bodyPost_ret (v := .tuple #[.agg #[.bool false, .int .i64 0, .int .i64 0, .int .i64 0, .bool false], .int .i64 7]) (by simp [results, Try.results10, go_sem, *]) rfl ⟨rfl, (((((wz4).setCell (by simp) _).setCell (by simp) _).setCell (by simp) _).setCell (by simp) _).setCell (by simp) _⟩

set_option maxHeartbeats 2000000 in
theorem find_ok_ne (id bits : Int) (Q A1 A2 : Option Addr) (qn qc n1 c1 n2 c2 : Nat) (b off i : Nat) (n c : Nat) (hcap : ¬ c = i + 1) (hi : i < n) (hnc : n ≤ c) (hnm : n ≤ 140737488351232) (r : RV) (w : World) (hlt : b < w.heap.size)
    (e0 : w.cell? ⟨b, off + i * 5, none⟩ = some (.string r.name)) (e1 : w.cell? ⟨b, off + i * 5 + 1, none⟩ = some (.int .i64 r.type)) (e2 : w.cell? ⟨b, off + i * 5 + 2, none⟩ = some (.int .i64 r.cls))
    (e3 : w.cell? ⟨b, off + i * 5 + 3, none⟩ = some (.int .i64 r.ttl)) (e4 : w.cell? ⟨b, off + i * 5 + 4, none⟩ = some (.string r.data))
    (H3 : ∀ w', Below w.heap.size w w' → Calls Try.prog 20 #[.slice (some ⟨b, off, none⟩) n c, .func (.func 21) #[] #[]] w' fun e w'' => e = .returned (.int .i64 (i : Int)) ∧ Below w'.heap.size w' w'') (H1 : ∀ w', Below w.heap.size w w' → Calls Try.prog 22 #[.slice A1 n1 c1, .func (.func 21) #[] #[]] w' fun e w'' => e = .returned (.bool false) ∧ Below w'.heap.size w' w'') (H2 : ∀ w', Below w.heap.size w w' → Calls Try.prog 22 #[.slice A2 n2 c2, .func (.func 21) #[] #[]] w' fun e w'' => e = .returned (.bool false) ∧ Below w'.heap.size w' w'') (H4 : ∀ w', Below w.heap.size w w' → Calls Try.prog 22 #[.slice (some ⟨b, off + (i + 1) * 5, none⟩) (n - (i + 1)) (c - (i + 1)), .func (.func 21) #[] #[]] w' fun e w'' => e = .returned (.bool false) ∧ Below w'.heap.size w' w'')
    (nb : (r.name.toList == [0]) = true) (I1 : ∀ w : World, Calls Try.prog 23 #[.int .i64 r.cls, .int .i64 65535] w fun e w' => e = .returned (.bool true) ∧ w = w') (I2 : ∀ w : World, Calls Try.prog 23 #[.int .i64 r.ttl, .int .i64 4294967295] w fun e w' => e = .returned (.bool true) ∧ w = w') (ht0 : 0 ≤ r.ttl) (ht1 : r.ttl ≤ 4294967295) (ex ve m : Int) (d : Bool) (a0 : r.ttl / 16777216 = ex) (a1 : Go.bits .and .i64 (r.ttl / 65536) 255 = ve) (a2 : Go.bits .and .i64 r.ttl 32768 = m) (a3 : (m != 0) = d) :
    Calls Try.prog 10 #[.agg #[.int .i64 id, .int .i64 bits, .slice Q qn qc, .slice A1 n1 c1, .slice A2 n2 c2, .slice (some ⟨b, off, none⟩) n c]] w fun e w' => e = .returned (.tuple #[.agg #[.bool true, .int .i64 r.cls, .int .i64 ex, .int .i64 ve, .bool d], .int .i64 0]) ∧ Below w.heap.size w w' := by
  have wz : Below w.heap.size w ((w.alloc (.cells #[.int .i64 id, .int .i64 bits, .slice Q qn qc, .slice A1 n1 c1, .slice A2 n2 c2, .slice (some ⟨b, off, none⟩) n c] 25)).alloc (.cells #[.bool false, .int .i64 0, .int .i64 0, .int .i64 0, .bool false] 29)) := ((Below.refl _ _).alloc (Nat.le_refl _) _).alloc (by simp) _
  have u0 : b < w.heap.size + 1 + 1 := by omega
  have ci : decide ((i : Int) < 0) = false := by simp
  go_enter Try.func10, Try.ntmps10
  go_wp2_with fail
  refine (H3 _ wz).mono ?_
  rintro e w1 ⟨rfl, hb1⟩
  obtain ⟨q1, f1⟩ := bcell hb1
  have z1 : w.heap.size + 1 < w1.heap.size := by have := hb1.size; simp at this; omega
  have y1 : w.heap.size < w1.heap.size := by omega
  have u1 : b < w1.heap.size := by omega
  have wz1 := wz.trans (hb1.mono (by simp; omega))
  go_wp2_with fail
  refine (H1 _ wz1).mono ?_
  rintro e w2 ⟨rfl, hb2⟩
  obtain ⟨q2, f2⟩ := bcell hb2
  have z2 : w.heap.size + 1 < w2.heap.size := by have := hb2.size; omega
  have y2 : w.heap.size < w2.heap.size := by omega
  have u2 : b < w2.heap.size := by omega
  have wz2 := wz1.trans (hb2.mono wz1.size)
  go_wp2_with fail
  refine (H2 _ wz2).mono ?_
  rintro e w3 ⟨rfl, hb3⟩
  obtain ⟨q3, f3⟩ := bcell hb3
  have z3 : w.heap.size + 1 < w3.heap.size := by have := hb3.size; omega
  have y3 : w.heap.size < w3.heap.size := by omega
  have u3 : b < w3.heap.size := by omega
  have wz3 := wz2.trans (hb3.mono wz2.size)
  go_wp2_with fail
  have wz3' : Below w.heap.size w (w3.alloc (.cells #[.string r.name, .int .i64 r.type, .int .i64 r.cls, .int .i64 r.ttl, .string r.data] 37)) := wz3.alloc wz3.size _
  refine (H4 _ wz3').mono ?_
  rintro e w4 ⟨rfl, hb4⟩
  obtain ⟨q4, f4⟩ := bcell hb4
  have z4 : w3.heap.size < w4.heap.size := by have := hb4.size; simp at this; omega
  have x4 : w.heap.size + 1 < w4.heap.size := by omega
  have y4 : w.heap.size < w4.heap.size := by omega
  have x5 : w.heap.size + 1 < w3.heap.size + 1 := by omega
  have x6 : w.heap.size < w3.heap.size + 1 := by omega
  have wz4 := wz3'.trans (hb4.mono wz3'.size)
  go_wp2_with fail
  refine (I1 _).mono ?_
  rintro e w' ⟨rfl, rfl⟩
  go_wp2_with fail
  refine (I2 _).mono ?_
  rintro e w' ⟨rfl, rfl⟩
  go_wp2_with fail
  exact bodyPost_ret (v := .tuple #[.agg #[.bool true, .int .i64 r.cls, .int .i64 ex, .int .i64 ve, .bool d], .int .i64 0]) (by simp [results, Try.results10, go_sem, *]) rfl ⟨rfl, (((((wz4).setCell (by simp) _).setCell (by simp) _).setCell (by simp) _).setCell (by simp) _).setCell (by simp) _⟩

set_option maxHeartbeats 2000000 in
theorem find_more_eq (id bits : Int) (Q A1 A2 : Option Addr) (qn qc n1 c1 n2 c2 : Nat) (b off i : Nat) (hnm : i + 1 ≤ 140737488351232) (r : RV) (w : World) (hlt : b < w.heap.size)
    (e0 : w.cell? ⟨b, off + i * 5, none⟩ = some (.string r.name)) (e1 : w.cell? ⟨b, off + i * 5 + 1, none⟩ = some (.int .i64 r.type)) (e2 : w.cell? ⟨b, off + i * 5 + 2, none⟩ = some (.int .i64 r.cls))
    (e3 : w.cell? ⟨b, off + i * 5 + 3, none⟩ = some (.int .i64 r.ttl)) (e4 : w.cell? ⟨b, off + i * 5 + 4, none⟩ = some (.string r.data))
    (H3 : ∀ w', Below w.heap.size w w' → Calls Try.prog 20 #[.slice (some ⟨b, off, none⟩) (i + 1) (i + 1), .func (.func 21) #[] #[]] w' fun e w'' => e = .returned (.int .i64 (i : Int)) ∧ Below w'.heap.size w' w'') (H1 : ∀ w', Below w.heap.size w w' → Calls Try.prog 22 #[.slice A1 n1 c1, .func (.func 21) #[] #[]] w' fun e w'' => e = .returned (.bool false) ∧ Below w'.heap.size w' w'') (H2 : ∀ w', Below w.heap.size w w' → Calls Try.prog 22 #[.slice A2 n2 c2, .func (.func 21) #[] #[]] w' fun e w'' => e = .returned (.bool false) ∧ Below w'.heap.size w' w'') (H4 : ∀ w', Below w.heap.size w w' → Calls Try.prog 22 #[.slice (some ⟨b, off, none⟩) 0 (0), .func (.func 21) #[] #[]] w' fun e w'' => e = .returned (.bool true) ∧ Below w'.heap.size w' w'')
     :
    Calls Try.prog 10 #[.agg #[.int .i64 id, .int .i64 bits, .slice Q qn qc, .slice A1 n1 c1, .slice A2 n2 c2, .slice (some ⟨b, off, none⟩) (i + 1) (i + 1)]] w fun e w' => e = .returned (.tuple #[.agg #[.bool false, .int .i64 0, .int .i64 0, .int .i64 0, .bool false], .int .i64 7]) ∧ Below w.heap.size w w' := by
  have wz : Below w.heap.size w ((w.alloc (.cells #[.int .i64 id, .int .i64 bits, .slice Q qn qc, .slice A1 n1 c1, .slice A2 n2 c2, .slice (some ⟨b, off, none⟩) (i + 1) (i + 1)] 25)).alloc (.cells #[.bool false, .int .i64 0, .int .i64 0, .int .i64 0, .bool false] 29)) := ((Below.refl _ _).alloc (Nat.le_refl _) _).alloc (by simp) _
  have u0 : b < w.heap.size + 1 + 1 := by omega
  have ci : decide ((i : Int) < 0) = false := by simp
  go_enter Try.func10, Try.ntmps10
  go_wp2_with fail
  refine (H3 _ wz).mono ?_
  rintro e w1 ⟨rfl, hb1⟩
  obtain ⟨q1, f1⟩ := bcell hb1
  have z1 : w.heap.size + 1 < w1.heap.size := by have := hb1.size; simp at this; omega
  have y1 : w.heap.size < w1.heap.size := by omega
  have u1 : b < w1.heap.size := by omega
  have wz1 := wz.trans (hb1.mono (by simp; omega))
  go_wp2_with fail
  refine (H1 _ wz1).mono ?_
  rintro e w2 ⟨rfl, hb2⟩
  obtain ⟨q2, f2⟩ := bcell hb2
  have z2 : w.heap.size + 1 < w2.heap.size := by have := hb2.size; omega
  have y2 : w.heap.size < w2.heap.size := by omega
  have u2 : b < w2.heap.size := by omega
  have wz2 := wz1.trans (hb2.mono wz1.size)
  go_wp2_with fail
  refine (H2 _ wz2).mono ?_
  rintro e w3 ⟨rfl, hb3⟩
  obtain ⟨q3, f3⟩ := bcell hb3
  have z3 : w.heap.size + 1 < w3.heap.size := by have := hb3.size; omega
  have y3 : w.heap.size < w3.heap.size := by omega
  have u3 : b < w3.heap.size := by omega
  have wz3 := wz2.trans (hb3.mono wz2.size)
  go_wp2_with fail
  have wz3' : Below w.heap.size w (w3.alloc (.cells #[.string r.name, .int .i64 r.type, .int .i64 r.cls, .int .i64 r.ttl, .string r.data] 37)) := wz3.alloc wz3.size _
  refine (H4 _ wz3').mono ?_
  rintro e w4 ⟨rfl, hb4⟩
  obtain ⟨q4, f4⟩ := bcell hb4
  have z4 : w3.heap.size < w4.heap.size := by have := hb4.size; simp at this; omega
  have x4 : w.heap.size + 1 < w4.heap.size := by omega
  have y4 : w.heap.size < w4.heap.size := by omega
  have x5 : w.heap.size + 1 < w3.heap.size + 1 := by omega
  have x6 : w.heap.size < w3.heap.size + 1 := by omega
  have wz4 := wz3'.trans (hb4.mono wz3'.size)
  go_wp2_with fail
  exact bodyPost_ret (v := .tuple #[.agg #[.bool false, .int .i64 0, .int .i64 0, .int .i64 0, .bool false], .int .i64 7]) (by simp [results, Try.results10, go_sem, *]) rfl ⟨rfl, (((((wz4).setCell (by simp) _).setCell (by simp) _).setCell (by simp) _).setCell (by simp) _).setCell (by simp) _⟩

set_option maxHeartbeats 2000000 in
theorem find_name_eq (id bits : Int) (Q A1 A2 : Option Addr) (qn qc n1 c1 n2 c2 : Nat) (b off i : Nat) (hnm : i + 1 ≤ 140737488351232) (r : RV) (w : World) (hlt : b < w.heap.size)
    (e0 : w.cell? ⟨b, off + i * 5, none⟩ = some (.string r.name)) (e1 : w.cell? ⟨b, off + i * 5 + 1, none⟩ = some (.int .i64 r.type)) (e2 : w.cell? ⟨b, off + i * 5 + 2, none⟩ = some (.int .i64 r.cls))
    (e3 : w.cell? ⟨b, off + i * 5 + 3, none⟩ = some (.int .i64 r.ttl)) (e4 : w.cell? ⟨b, off + i * 5 + 4, none⟩ = some (.string r.data))
    (H3 : ∀ w', Below w.heap.size w w' → Calls Try.prog 20 #[.slice (some ⟨b, off, none⟩) (i + 1) (i + 1), .func (.func 21) #[] #[]] w' fun e w'' => e = .returned (.int .i64 (i : Int)) ∧ Below w'.heap.size w' w'') (H1 : ∀ w', Below w.heap.size w w' → Calls Try.prog 22 #[.slice A1 n1 c1, .func (.func 21) #[] #[]] w' fun e w'' => e = .returned (.bool false) ∧ Below w'.heap.size w' w'') (H2 : ∀ w', Below w.heap.size w w' → Calls Try.prog 22 #[.slice A2 n2 c2, .func (.func 21) #[] #[]] w' fun e w'' => e = .returned (.bool false) ∧ Below w'.heap.size w' w'') (H4 : ∀ w', Below w.heap.size w w' → Calls Try.prog 22 #[.slice (some ⟨b, off, none⟩) 0 (0), .func (.func 21) #[] #[]] w' fun e w'' => e = .returned (.bool false) ∧ Below w'.heap.size w' w'')
    (nb : (r.name.toList == [0]) = false) :
    Calls Try.prog 10 #[.agg #[.int .i64 id, .int .i64 bits, .slice Q qn qc, .slice A1 n1 c1, .slice A2 n2 c2, .slice (some ⟨b, off, none⟩) (i + 1) (i + 1)]] w fun e w' => e = .returned (.tuple #[.agg #[.bool false, .int .i64 0, .int .i64 0, .int .i64 0, .bool false], .int .i64 7]) ∧ Below w.heap.size w w' := by
  have wz : Below w.heap.size w ((w.alloc (.cells #[.int .i64 id, .int .i64 bits, .slice Q qn qc, .slice A1 n1 c1, .slice A2 n2 c2, .slice (some ⟨b, off, none⟩) (i + 1) (i + 1)] 25)).alloc (.cells #[.bool false, .int .i64 0, .int .i64 0, .int .i64 0, .bool false] 29)) := ((Below.refl _ _).alloc (Nat.le_refl _) _).alloc (by simp) _
  have u0 : b < w.heap.size + 1 + 1 := by omega
  have ci : decide ((i : Int) < 0) = false := by simp
  go_enter Try.func10, Try.ntmps10
  go_wp2_with fail
  refine (H3 _ wz).mono ?_
  rintro e w1 ⟨rfl, hb1⟩
  obtain ⟨q1, f1⟩ := bcell hb1
  have z1 : w.heap.size + 1 < w1.heap.size := by have := hb1.size; simp at this; omega
  have y1 : w.heap.size < w1.heap.size := by omega
  have u1 : b < w1.heap.size := by omega
  have wz1 := wz.trans (hb1.mono (by simp; omega))
  go_wp2_with fail
  refine (H1 _ wz1).mono ?_
  rintro e w2 ⟨rfl, hb2⟩
  obtain ⟨q2, f2⟩ := bcell hb2
  have z2 : w.heap.size + 1 < w2.heap.size := by have := hb2.size; omega
  have y2 : w.heap.size < w2.heap.size := by omega
  have u2 : b < w2.heap.size := by omega
  have wz2 := wz1.trans (hb2.mono wz1.size)
  go_wp2_with fail
  refine (H2 _ wz2).mono ?_
  rintro e w3 ⟨rfl, hb3⟩
  obtain ⟨q3, f3⟩ := bcell hb3
  have z3 : w.heap.size + 1 < w3.heap.size := by have := hb3.size; omega
  have y3 : w.heap.size < w3.heap.size := by omega
  have u3 : b < w3.heap.size := by omega
  have wz3 := wz2.trans (hb3.mono wz2.size)
  go_wp2_with fail
  have wz3' : Below w.heap.size w (w3.alloc (.cells #[.string r.name, .int .i64 r.type, .int .i64 r.cls, .int .i64 r.ttl, .string r.data] 37)) := wz3.alloc wz3.size _
  refine (H4 _ wz3').mono ?_
  rintro e w4 ⟨rfl, hb4⟩
  obtain ⟨q4, f4⟩ := bcell hb4
  have z4 : w3.heap.size < w4.heap.size := by have := hb4.size; simp at this; omega
  have x4 : w.heap.size + 1 < w4.heap.size := by omega
  have y4 : w.heap.size < w4.heap.size := by omega
  have x5 : w.heap.size + 1 < w3.heap.size + 1 := by omega
  have x6 : w.heap.size < w3.heap.size + 1 := by omega
  have wz4 := wz3'.trans (hb4.mono wz3'.size)
  go_wp2_with fail
  exact bodyPost_ret (v := .tuple #[.agg #[.bool false, .int .i64 0, .int .i64 0, .int .i64 0, .bool false], .int .i64 7]) (by simp [results, Try.results10, go_sem, *]) rfl ⟨rfl, (((((wz4).setCell (by simp) _).setCell (by simp) _).setCell (by simp) _).setCell (by simp) _).setCell (by simp) _⟩

set_option maxHeartbeats 2000000 in
theorem find_cls_eq (id bits : Int) (Q A1 A2 : Option Addr) (qn qc n1 c1 n2 c2 : Nat) (b off i : Nat) (hnm : i + 1 ≤ 140737488351232) (r : RV) (w : World) (hlt : b < w.heap.size)
    (e0 : w.cell? ⟨b, off + i * 5, none⟩ = some (.string r.name)) (e1 : w.cell? ⟨b, off + i * 5 + 1, none⟩ = some (.int .i64 r.type)) (e2 : w.cell? ⟨b, off + i * 5 + 2, none⟩ = some (.int .i64 r.cls))
    (e3 : w.cell? ⟨b, off + i * 5 + 3, none⟩ = some (.int .i64 r.ttl)) (e4 : w.cell? ⟨b, off + i * 5 + 4, none⟩ = some (.string r.data))
    (H3 : ∀ w', Below w.heap.size w w' → Calls Try.prog 20 #[.slice (some ⟨b, off, none⟩) (i + 1) (i + 1), .func (.func 21) #[] #[]] w' fun e w'' => e = .returned (.int .i64 (i : Int)) ∧ Below w'.heap.size w' w'') (H1 : ∀ w', Below w.heap.size w w' → Calls Try.prog 22 #[.slice A1 n1 c1, .func (.func 21) #[] #[]] w' fun e w'' => e = .returned (.bool false) ∧ Below w'.heap.size w' w'') (H2 : ∀ w', Below w.heap.size w w' → Calls Try.prog 22 #[.slice A2 n2 c2, .func (.func 21) #[] #[]] w' fun e w'' => e = .returned (.bool false) ∧ Below w'.heap.size w' w'') (H4 : ∀ w', Below w.heap.size w w' → Calls Try.prog 22 #[.slice (some ⟨b, off, none⟩) 0 (0), .func (.func 21) #[] #[]] w' fun e w'' => e = .returned (.bool false) ∧ Below w'.heap.size w' w'')
    (nb : (r.name.toList == [0]) = true) (I1 : ∀ w : World, Calls Try.prog 23 #[.int .i64 r.cls, .int .i64 65535] w fun e w' => e = .returned (.bool false) ∧ w = w') :
    Calls Try.prog 10 #[.agg #[.int .i64 id, .int .i64 bits, .slice Q qn qc, .slice A1 n1 c1, .slice A2 n2 c2, .slice (some ⟨b, off, none⟩) (i + 1) (i + 1)]] w fun e w' => e = .returned (.tuple #[.agg #[.bool false, .int .i64 0, .int .i64 0, .int .i64 0, .bool false], .int .i64 7]) ∧ Below w.heap.size w w' := by
  have wz : Below w.heap.size w ((w.alloc (.cells #[.int .i64 id, .int .i64 bits, .slice Q qn qc, .slice A1 n1 c1, .slice A2 n2 c2, .slice (some ⟨b, off, none⟩) (i + 1) (i + 1)] 25)).alloc (.cells #[.bool false, .int .i64 0, .int .i64 0, .int .i64 0, .bool false] 29)) := ((Below.refl _ _).alloc (Nat.le_refl _) _).alloc (by simp) _
  have u0 : b < w.heap.size + 1 + 1 := by omega
  have ci : decide ((i : Int) < 0) = false := by simp
  go_enter Try.func10, Try.ntmps10
  go_wp2_with fail
  refine (H3 _ wz).mono ?_
  rintro e w1 ⟨rfl, hb1⟩
  obtain ⟨q1, f1⟩ := bcell hb1
  have z1 : w.heap.size + 1 < w1.heap.size := by have := hb1.size; simp at this; omega
  have y1 : w.heap.size < w1.heap.size := by omega
  have u1 : b < w1.heap.size := by omega
  have wz1 := wz.trans (hb1.mono (by simp; omega))
  go_wp2_with fail
  refine (H1 _ wz1).mono ?_
  rintro e w2 ⟨rfl, hb2⟩
  obtain ⟨q2, f2⟩ := bcell hb2
  have z2 : w.heap.size + 1 < w2.heap.size := by have := hb2.size; omega
  have y2 : w.heap.size < w2.heap.size := by omega
  have u2 : b < w2.heap.size := by omega
  have wz2 := wz1.trans (hb2.mono wz1.size)
  go_wp2_with fail
  refine (H2 _ wz2).mono ?_
  rintro e w3 ⟨rfl, hb3⟩
  obtain ⟨q3, f3⟩ := bcell hb3
  have z3 : w.heap.size + 1 < w3.heap.size := by have := hb3.size; omega
  have y3 : w.heap.size < w3.heap.size := by omega
  have u3 : b < w3.heap.size := by omega
  have wz3 := wz2.trans (hb3.mono wz2.size)
  go_wp2_with fail
  have wz3' : Below w.heap.size w (w3.alloc (.cells #[.string r.name, .int .i64 r.type, .int .i64 r.cls, .int .i64 r.ttl, .string r.data] 37)) := wz3.alloc wz3.size _
  refine (H4 _ wz3').mono ?_
  rintro e w4 ⟨rfl, hb4⟩
  obtain ⟨q4, f4⟩ := bcell hb4
  have z4 : w3.heap.size < w4.heap.size := by have := hb4.size; simp at this; omega
  have x4 : w.heap.size + 1 < w4.heap.size := by omega
  have y4 : w.heap.size < w4.heap.size := by omega
  have x5 : w.heap.size + 1 < w3.heap.size + 1 := by omega
  have x6 : w.heap.size < w3.heap.size + 1 := by omega
  have wz4 := wz3'.trans (hb4.mono wz3'.size)
  go_wp2_with fail
  refine (I1 _).mono ?_
  rintro e w' ⟨rfl, rfl⟩
  go_wp2_with fail
  exact bodyPost_ret (v := .tuple #[.agg #[.bool false, .int .i64 0, .int .i64 0, .int .i64 0, .bool false], .int .i64 7]) (by simp [results, Try.results10, go_sem, *]) rfl ⟨rfl, (((((wz4).setCell (by simp) _).setCell (by simp) _).setCell (by simp) _).setCell (by simp) _).setCell (by simp) _⟩

set_option maxHeartbeats 2000000 in
theorem find_ttl_eq (id bits : Int) (Q A1 A2 : Option Addr) (qn qc n1 c1 n2 c2 : Nat) (b off i : Nat) (hnm : i + 1 ≤ 140737488351232) (r : RV) (w : World) (hlt : b < w.heap.size)
    (e0 : w.cell? ⟨b, off + i * 5, none⟩ = some (.string r.name)) (e1 : w.cell? ⟨b, off + i * 5 + 1, none⟩ = some (.int .i64 r.type)) (e2 : w.cell? ⟨b, off + i * 5 + 2, none⟩ = some (.int .i64 r.cls))
    (e3 : w.cell? ⟨b, off + i * 5 + 3, none⟩ = some (.int .i64 r.ttl)) (e4 : w.cell? ⟨b, off + i * 5 + 4, none⟩ = some (.string r.data))
    (H3 : ∀ w', Below w.heap.size w w' → Calls Try.prog 20 #[.slice (some ⟨b, off, none⟩) (i + 1) (i + 1), .func (.func 21) #[] #[]] w' fun e w'' => e = .returned (.int .i64 (i : Int)) ∧ Below w'.heap.size w' w'') (H1 : ∀ w', Below w.heap.size w w' → Calls Try.prog 22 #[.slice A1 n1 c1, .func (.func 21) #[] #[]] w' fun e w'' => e = .returned (.bool false) ∧ Below w'.heap.size w' w'') (H2 : ∀ w', Below w.heap.size w w' → Calls Try.prog 22 #[.slice A2 n2 c2, .func (.func 21) #[] #[]] w' fun e w'' => e = .returned (.bool false) ∧ Below w'.heap.size w' w'') (H4 : ∀ w', Below w.heap.size w w' → Calls Try.prog 22 #[.slice (some ⟨b, off, none⟩) 0 (0), .func (.func 21) #[] #[]] w' fun e w'' => e = .returned (.bool false) ∧ Below w'.heap.size w' w'')
    (nb : (r.name.toList == [0]) = true) (I1 : ∀ w : World, Calls Try.prog 23 #[.int .i64 r.cls, .int .i64 65535] w fun e w' => e = .returned (.bool true) ∧ w = w') (I2 : ∀ w : World, Calls Try.prog 23 #[.int .i64 r.ttl, .int .i64 4294967295] w fun e w' => e = .returned (.bool false) ∧ w = w') :
    Calls Try.prog 10 #[.agg #[.int .i64 id, .int .i64 bits, .slice Q qn qc, .slice A1 n1 c1, .slice A2 n2 c2, .slice (some ⟨b, off, none⟩) (i + 1) (i + 1)]] w fun e w' => e = .returned (.tuple #[.agg #[.bool false, .int .i64 0, .int .i64 0, .int .i64 0, .bool false], .int .i64 7]) ∧ Below w.heap.size w w' := by
  have wz : Below w.heap.size w ((w.alloc (.cells #[.int .i64 id, .int .i64 bits, .slice Q qn qc, .slice A1 n1 c1, .slice A2 n2 c2, .slice (some ⟨b, off, none⟩) (i + 1) (i + 1)] 25)).alloc (.cells #[.bool false, .int .i64 0, .int .i64 0, .int .i64 0, .bool false] 29)) := ((Below.refl _ _).alloc (Nat.le_refl _) _).alloc (by simp) _
  have u0 : b < w.heap.size + 1 + 1 := by omega
  have ci : decide ((i : Int) < 0) = false := by simp
  go_enter Try.func10, Try.ntmps10
  go_wp2_with fail
  refine (H3 _ wz).mono ?_
  rintro e w1 ⟨rfl, hb1⟩
  obtain ⟨q1, f1⟩ := bcell hb1
  have z1 : w.heap.size + 1 < w1.heap.size := by have := hb1.size; simp at this; omega
  have y1 : w.heap.size < w1.heap.size := by omega
  have u1 : b < w1.heap.size := by omega
  have wz1 := wz.trans (hb1.mono (by simp; omega))
  go_wp2_with fail
  refine (H1 _ wz1).mono ?_
  rintro e w2 ⟨rfl, hb2⟩
  obtain ⟨q2, f2⟩ := bcell hb2
  have z2 : w.heap.size + 1 < w2.heap.size := by have := hb2.size; omega
  have y2 : w.heap.size < w2.heap.size := by omega
  have u2 : b < w2.heap.size := by omega
  have wz2 := wz1.trans (hb2.mono wz1.size)
  go_wp2_with fail
  refine (H2 _ wz2).mono ?_
  rintro e w3 ⟨rfl, hb3⟩
  obtain ⟨q3, f3⟩ := bcell hb3
  have z3 : w.heap.size + 1 < w3.heap.size := by have := hb3.size; omega
  have y3 : w.heap.size < w3.heap.size := by omega
  have u3 : b < w3.heap.size := by omega
  have wz3 := wz2.trans (hb3.mono wz2.size)
  go_wp2_with fail
  have wz3' : Below w.heap.size w (w3.alloc (.cells #[.string r.name, .int .i64 r.type, .int .i64 r.cls, .int .i64 r.ttl, .string r.data] 37)) := wz3.alloc wz3.size _
  refine (H4 _ wz3').mono ?_
  rintro e w4 ⟨rfl, hb4⟩
  obtain ⟨q4, f4⟩ := bcell hb4
  have z4 : w3.heap.size < w4.heap.size := by have := hb4.size; simp at this; omega
  have x4 : w.heap.size + 1 < w4.heap.size := by omega
  have y4 : w.heap.size < w4.heap.size := by omega
  have x5 : w.heap.size + 1 < w3.heap.size + 1 := by omega
  have x6 : w.heap.size < w3.heap.size + 1 := by omega
  have wz4 := wz3'.trans (hb4.mono wz3'.size)
  go_wp2_with fail
  refine (I1 _).mono ?_
  rintro e w' ⟨rfl, rfl⟩
  go_wp2_with fail
  refine (I2 _).mono ?_
  rintro e w' ⟨rfl, rfl⟩
  go_wp2_with fail
  exact bodyPost_ret (v := .tuple #[.agg #[.bool false, .int .i64 0, .int .i64 0, .int .i64 0, .bool false], .int .i64 7]) (by simp [results, Try.results10, go_sem, *]) rfl ⟨rfl, (((((wz4).setCell (by simp) _).setCell (by simp) _).setCell (by simp) _).setCell (by simp) _).setCell (by simp) _⟩

set_option maxHeartbeats 2000000 in
theorem find_ok_eq (id bits : Int) (Q A1 A2 : Option Addr) (qn qc n1 c1 n2 c2 : Nat) (b off i : Nat) (hnm : i + 1 ≤ 140737488351232) (r : RV) (w : World) (hlt : b < w.heap.size)
    (e0 : w.cell? ⟨b, off + i * 5, none⟩ = some (.string r.name)) (e1 : w.cell? ⟨b, off + i * 5 + 1, none⟩ = some (.int .i64 r.type)) (e2 : w.cell? ⟨b, off + i * 5 + 2, none⟩ = some (.int .i64 r.cls))
    (e3 : w.cell? ⟨b, off + i * 5 + 3, none⟩ = some (.int .i64 r.ttl)) (e4 : w.cell? ⟨b, off + i * 5 + 4, none⟩ = some (.string r.data))
    (H3 : ∀ w', Below w.heap.size w w' → Calls Try.prog 20 #[.slice (some ⟨b, off, none⟩) (i + 1) (i + 1), .func (.func 21) #[] #[]] w' fun e w'' => e = .returned (.int .i64 (i : Int)) ∧ Below w'.heap.size w' w'') (H1 : ∀ w', Below w.heap.size w w' → Calls Try.prog 22 #[.slice A1 n1 c1, .func (.func 21) #[] #[]] w' fun e w'' => e = .returned (.bool false) ∧ Below w'.heap.size w' w'') (H2 : ∀ w', Below w.heap.size w w' → Calls Try.prog 22 #[.slice A2 n2 c2, .func (.func 21) #[] #[]] w' fun e w'' => e = .returned (.bool false) ∧ Below w'.heap.size w' w'') (H4 : ∀ w', Below w.heap.size w w' → Calls Try.prog 22 #[.slice (some ⟨b, off, none⟩) 0 (0), .func (.func 21) #[] #[]] w' fun e w'' => e = .returned (.bool false) ∧ Below w'.heap.size w' w'')
    (nb : (r.name.toList == [0]) = true) (I1 : ∀ w : World, Calls Try.prog 23 #[.int .i64 r.cls, .int .i64 65535] w fun e w' => e = .returned (.bool true) ∧ w = w') (I2 : ∀ w : World, Calls Try.prog 23 #[.int .i64 r.ttl, .int .i64 4294967295] w fun e w' => e = .returned (.bool true) ∧ w = w') (ht0 : 0 ≤ r.ttl) (ht1 : r.ttl ≤ 4294967295) (ex ve m : Int) (d : Bool) (a0 : r.ttl / 16777216 = ex) (a1 : Go.bits .and .i64 (r.ttl / 65536) 255 = ve) (a2 : Go.bits .and .i64 r.ttl 32768 = m) (a3 : (m != 0) = d) :
    Calls Try.prog 10 #[.agg #[.int .i64 id, .int .i64 bits, .slice Q qn qc, .slice A1 n1 c1, .slice A2 n2 c2, .slice (some ⟨b, off, none⟩) (i + 1) (i + 1)]] w fun e w' => e = .returned (.tuple #[.agg #[.bool true, .int .i64 r.cls, .int .i64 ex, .int .i64 ve, .bool d], .int .i64 0]) ∧ Below w.heap.size w w' := by
  have wz : Below w.heap.size w ((w.alloc (.cells #[.int .i64 id, .int .i64 bits, .slice Q qn qc, .slice A1 n1 c1, .slice A2 n2 c2, .slice (some ⟨b, off, none⟩) (i + 1) (i + 1)] 25)).alloc (.cells #[.bool false, .int .i64 0, .int .i64 0, .int .i64 0, .bool false] 29)) := ((Below.refl _ _).alloc (Nat.le_refl _) _).alloc (by simp) _
  have u0 : b < w.heap.size + 1 + 1 := by omega
  have ci : decide ((i : Int) < 0) = false := by simp
  go_enter Try.func10, Try.ntmps10
  go_wp2_with fail
  refine (H3 _ wz).mono ?_
  rintro e w1 ⟨rfl, hb1⟩
  obtain ⟨q1, f1⟩ := bcell hb1
  have z1 : w.heap.size + 1 < w1.heap.size := by have := hb1.size; simp at this; omega
  have y1 : w.heap.size < w1.heap.size := by omega
  have u1 : b < w1.heap.size := by omega
  have wz1 := wz.trans (hb1.mono (by simp; omega))
  go_wp2_with fail
  refine (H1 _ wz1).mono ?_
  rintro e w2 ⟨rfl, hb2⟩
  obtain ⟨q2, f2⟩ := bcell hb2
  have z2 : w.heap.size + 1 < w2.heap.size := by have := hb2.size; omega
  have y2 : w.heap.size < w2.heap.size := by omega
  have u2 : b < w2.heap.size := by omega
  have wz2 := wz1.trans (hb2.mono wz1.size)
  go_wp2_with fail
  refine (H2 _ wz2).mono ?_
  rintro e w3 ⟨rfl, hb3⟩
  obtain ⟨q3, f3⟩ := bcell hb3
  have z3 : w.heap.size + 1 < w3.heap.size := by have := hb3.size; omega
  have y3 : w.heap.size < w3.heap.size := by omega
  have u3 : b < w3.heap.size := by omega
  have wz3 := wz2.trans (hb3.mono wz2.size)
  go_wp2_with fail
  have wz3' : Below w.heap.size w (w3.alloc (.cells #[.string r.name, .int .i64 r.type, .int .i64 r.cls, .int .i64 r.ttl, .string r.data] 37)) := wz3.alloc wz3.size _
  refine (H4 _ wz3').mono ?_
  rintro e w4 ⟨rfl, hb4⟩
  obtain ⟨q4, f4⟩ := bcell hb4
  have z4 : w3.heap.size < w4.heap.size := by have := hb4.size; simp at this; omega
  have x4 : w.heap.size + 1 < w4.heap.size := by omega
  have y4 : w.heap.size < w4.heap.size := by omega
  have x5 : w.heap.size + 1 < w3.heap.size + 1 := by omega
  have x6 : w.heap.size < w3.heap.size + 1 := by omega
  have wz4 := wz3'.trans (hb4.mono wz3'.size)
  go_wp2_with fail
  refine (I1 _).mono ?_
  rintro e w' ⟨rfl, rfl⟩
  go_wp2_with fail
  refine (I2 _).mono ?_
  rintro e w' ⟨rfl, rfl⟩
  go_wp2_with fail
  exact bodyPost_ret (v := .tuple #[.agg #[.bool true, .int .i64 r.cls, .int .i64 ex, .int .i64 ve, .bool d], .int .i64 0]) (by simp [results, Try.results10, go_sem, *]) rfl ⟨rfl, (((((wz4).setCell (by simp) _).setCell (by simp) _).setCell (by simp) _).setCell (by simp) _).setCell (by simp) _⟩

set_option maxHeartbeats 1000000 in
theorem find_an (id bits : Int) (Q A1 A2 A3 : Option Addr) (qn qc n1 c1 n2 c2 n c : Nat) (w : World) (i : Int) 
    (H3 : ∀ w', Below w.heap.size w w' → Calls Try.prog 20 #[.slice A3 n c, .func (.func 21) #[] #[]] w' fun e w'' => e = .returned (.int .i64 i) ∧ Below w'.heap.size w' w'') (H1 : ∀ w', Below w.heap.size w w' → Calls Try.prog 22 #[.slice A1 n1 c1, .func (.func 21) #[] #[]] w' fun e w'' => e = .returned (.bool true) ∧ Below w'.heap.size w' w'')  :
    Calls Try.prog 10 #[.agg #[.int .i64 id, .int .i64 bits, .slice Q qn qc, .slice A1 n1 c1, .slice A2 n2 c2, .slice A3 n c]] w fun e w' => e = .returned (.tuple #[.agg #[.bool false, .int .i64 0, .int .i64 0, .int .i64 0, .bool false], .int .i64 7]) ∧ Below w.heap.size w w' := by
  have wz : Below w.heap.size w ((w.alloc (.cells #[.int .i64 id, .int .i64 bits, .slice Q qn qc, .slice A1 n1 c1, .slice A2 n2 c2, .slice (A3) n c] 25)).alloc (.cells #[.bool false, .int .i64 0, .int .i64 0, .int .i64 0, .bool false] 29)) := ((Below.refl _ _).alloc (Nat.le_refl _) _).alloc (by simp) _
  go_enter Try.func10, Try.ntmps10
  go_wp2_with fail
  refine (H3 _ wz).mono ?_
  rintro e w1 ⟨rfl, hb1⟩
  obtain ⟨q1, f1⟩ := bcell hb1
  have z1 : w.heap.size + 1 < w1.heap.size := by have := hb1.size; simp at this; omega
  have y1 : w.heap.size < w1.heap.size := by omega
  have wz1 := wz.trans (hb1.mono (by simp; omega))
  go_wp2_with fail
  refine (H1 _ wz1).mono ?_
  rintro e w2 ⟨rfl, hb2⟩
  obtain ⟨q2, f2⟩ := bcell hb2
  have z2 : w.heap.size + 1 < w2.heap.size := by have := hb2.size; omega
  have y2 : w.heap.size < w2.heap.size := by omega
  have wz2 := wz1.trans (hb2.mono wz1.size)
  go_wp2_with fail
  exact bodyPost_ret (v := .tuple #[.agg #[.bool false, .int .i64 0, .int .i64 0, .int .i64 0, .bool false], .int .i64 7]) (by simp [results, Try.results10, go_sem, *]) rfl ⟨rfl, (((((wz2).setCell (by simp) _).setCell (by simp) _).setCell (by simp) _).setCell (by simp) _).setCell (by simp) _⟩

set_option maxHeartbeats 1000000 in
theorem find_ns (id bits : Int) (Q A1 A2 A3 : Option Addr) (qn qc n1 c1 n2 c2 n c : Nat) (w : World) (i : Int) 
    (H3 : ∀ w', Below w.heap.size w w' → Calls Try.prog 20 #[.slice A3 n c, .func (.func 21) #[] #[]] w' fun e w'' => e = .returned (.int .i64 i) ∧ Below w'.heap.size w' w'') (H1 : ∀ w', Below w.heap.size w w' → Calls Try.prog 22 #[.slice A1 n1 c1, .func (.func 21) #[] #[]] w' fun e w'' => e = .returned (.bool false) ∧ Below w'.heap.size w' w'') (H2 : ∀ w', Below w.heap.size w w' → Calls Try.prog 22 #[.slice A2 n2 c2, .func (.func 21) #[] #[]] w' fun e w'' => e = .returned (.bool true) ∧ Below w'.heap.size w' w'') :
    Calls Try.prog 10 #[.agg #[.int .i64 id, .int .i64 bits, .slice Q qn qc, .slice A1 n1 c1, .slice A2 n2 c2, .slice A3 n c]] w fun e w' => e = .returned (.tuple #[.agg #[.bool false, .int .i64 0, .int .i64 0, .int .i64 0, .bool false], .int .i64 7]) ∧ Below w.heap.size w w' := by
  have wz : Below w.heap.size w ((w.alloc (.cells #[.int .i64 id, .int .i64 bits, .slice Q qn qc, .slice A1 n1 c1, .slice A2 n2 c2, .slice (A3) n c] 25)).alloc (.cells #[.bool false, .int .i64 0, .int .i64 0, .int .i64 0, .bool false] 29)) := ((Below.refl _ _).alloc (Nat.le_refl _) _).alloc (by simp) _
  go_enter Try.func10, Try.ntmps10
  go_wp2_with fail
  refine (H3 _ wz).mono ?_
  rintro e w1 ⟨rfl, hb1⟩
  obtain ⟨q1, f1⟩ := bcell hb1
  have z1 : w.heap.size + 1 < w1.heap.size := by have := hb1.size; simp at this; omega
  have y1 : w.heap.size < w1.heap.size := by omega
  have wz1 := wz.trans (hb1.mono (by simp; omega))
  go_wp2_with fail
  refine (H1 _ wz1).mono ?_
  rintro e w2 ⟨rfl, hb2⟩
  obtain ⟨q2, f2⟩ := bcell hb2
  have z2 : w.heap.size + 1 < w2.heap.size := by have := hb2.size; omega
  have y2 : w.heap.size < w2.heap.size := by omega
  have wz2 := wz1.trans (hb2.mono wz1.size)
  go_wp2_with fail
  refine (H2 _ wz2).mono ?_
  rintro e w3 ⟨rfl, hb3⟩
  obtain ⟨q3, f3⟩ := bcell hb3
  have z3 : w.heap.size + 1 < w3.heap.size := by have := hb3.size; omega
  have y3 : w.heap.size < w3.heap.size := by omega
  have wz3 := wz2.trans (hb3.mono wz2.size)
  go_wp2_with fail
  exact bodyPost_ret (v := .tuple #[.agg #[.bool false, .int .i64 0, .int .i64 0, .int .i64 0, .bool false], .int .i64 7]) (by simp [results, Try.results10, go_sem, *]) rfl ⟨rfl, (((((wz3).setCell (by simp) _).setCell (by simp) _).setCell (by simp) _).setCell (by simp) _).setCell (by simp) _⟩

set_option maxHeartbeats 1000000 in
theorem find_none (id bits : Int) (Q A1 A2 A3 : Option Addr) (qn qc n1 c1 n2 c2 n c : Nat) (w : World) (i : Int) (ci : decide (i < 0) = true)
    (H3 : ∀ w', Below w.heap.size w w' → Calls Try.prog 20 #[.slice A3 n c, .func (.func 21) #[] #[]] w' fun e w'' => e = .returned (.int .i64 i) ∧ Below w'.heap.size w' w'') (H1 : ∀ w', Below w.heap.size w w' → Calls Try.prog 22 #[.slice A1 n1 c1, .func (.func 21) #[] #[]] w' fun e w'' => e = .returned (.bool false) ∧ Below w'.heap.size w' w'') (H2 : ∀ w', Below w.heap.size w w' → Calls Try.prog 22 #[.slice A2 n2 c2, .func (.func 21) #[] #[]] w' fun e w'' => e = .returned (.bool false) ∧ Below w'.heap.size w' w'') :
    Calls Try.prog 10 #[.agg #[.int .i64 id, .int .i64 bits, .slice Q qn qc, .slice A1 n1 c1, .slice A2 n2 c2, .slice A3 n c]] w fun e w' => e = .returned (.tuple #[.agg #[.bool false, .int .i64 0, .int .i64 0, .int .i64 0, .bool false], .int .i64 0]) ∧ Below w.heap.size w w' := by
  have wz : Below w.heap.size w ((w.alloc (.cells #[.int .i64 id, .int .i64 bits, .slice Q qn qc, .slice A1 n1 c1, .slice A2 n2 c2, .slice (A3) n c] 25)).alloc (.cells #[.bool false, .int .i64 0, .int .i64 0, .int .i64 0, .bool false] 29)) := ((Below.refl _ _).alloc (Nat.le_refl _) _).alloc (by simp) _
  go_enter Try.func10, Try.ntmps10
  go_wp2_with fail
  refine (H3 _ wz).mono ?_
  rintro e w1 ⟨rfl, hb1⟩
  obtain ⟨q1, f1⟩ := bcell hb1
  have z1 : w.heap.size + 1 < w1.heap.size := by have := hb1.size; simp at this; omega
  have y1 : w.heap.size < w1.heap.size := by omega
  have wz1 := wz.trans (hb1.mono (by simp; omega))
  go_wp2_with fail
  refine (H1 _ wz1).mono ?_
  rintro e w2 ⟨rfl, hb2⟩
  obtain ⟨q2, f2⟩ := bcell hb2
  have z2 : w.heap.size + 1 < w2.heap.size := by have := hb2.size; omega
  have y2 : w.heap.size < w2.heap.size := by omega
  have wz2 := wz1.trans (hb2.mono wz1.size)
  go_wp2_with fail
  refine (H2 _ wz2).mono ?_
  rintro e w3 ⟨rfl, hb3⟩
  obtain ⟨q3, f3⟩ := bcell hb3
  have z3 : w.heap.size + 1 < w3.heap.size := by have := hb3.size; omega
  have y3 : w.heap.size < w3.heap.size := by omega
  have wz3 := wz2.trans (hb3.mono wz2.size)
  go_wp2_with fail
  exact bodyPost_ret (v := .tuple #[.agg #[.bool false, .int .i64 0, .int .i64 0, .int .i64 0, .bool false], .int .i64 0]) (by simp [results, Try.results10, go_sem, *]) rfl ⟨rfl, (((((wz3).setCell (by simp) _).setCell (by simp) _).setCell (by simp) _).setCell (by simp) _).setCell (by simp) _⟩

end Go.Proofs.Ytnbngkecabacaaa.Ef
