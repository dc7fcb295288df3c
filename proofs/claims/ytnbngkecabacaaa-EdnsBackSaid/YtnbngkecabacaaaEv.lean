/- The law's file's own answers of package edns stand: live tells true. -/
import Derived.Test.YtnbngkecabacaaaEg
import Derived.WalkKit
import Derived.Below
import Derived.KernelRfl
import Derived.LoopTactic
import Derived.LoopN
import Derived.Outline
import Derived.Deep.RegionHeld3
import Derived.Lib.Hide
import Derived.Laws.Tables
import Derived.Laws.Rows
namespace Go.Proofs.Ytnbngkecabacaaa.Ev
open Go.RowKit Go.Proofs.Ytnbngkecabacaaa.Fb Go.Proofs.Ytnbngkecabacaaa.Fl Go.Proofs.Ytnbngkecabacaaa.Fr Go.Proofs.Ytnbngkecabacaaa.Ed
set_option linter.unusedVariables false
open Go.Proofs.Ytnbngkecabacaaa.Ef
open Go.Proofs.Ytnbngkecabacaaa.Eg

def Blk (w : World) (g : Nat) (t : TypeId) (cs : Array Value) : Prop := w.heap[g]? = some (.cells cs t (0, 0))
theorem Blk.lt {w : World} {g : Nat} {t : TypeId} {cs : Array Value} (h : Blk w g t cs) : g < w.heap.size := by
  rcases Nat.lt_or_ge g w.heap.size with hlt | hge
  · exact hlt
  · unfold Blk at h; rw [Array.getElem?_eq_none hge] at h; cases h
theorem Blk.new (w : World) (t : TypeId) (cs : Array Value) : Blk (w.alloc (.cells cs t)) w.heap.size t cs := heap_alloc_new w _
theorem Blk.alloc {w : World} {g : Nat} {t : TypeId} {cs : Array Value} (h : Blk w g t cs) (o : Obj) : Blk (w.alloc o) g t cs := (Below.heap_alloc w o g h.lt).trans h
theorem Blk.below {w w' : World} {g : Nat} {t : TypeId} {cs : Array Value} (h : Blk w g t cs) (hb : Below w.heap.size w w') : Blk w' g t cs := (hb.block g h.lt).trans h
theorem Blk.cell {w : World} {g : Nat} {t : TypeId} {cs : Array Value} (h : Blk w g t cs) (i : Nat) : w.cell? ⟨g, i, none⟩ = cs[i]? := cell_of_row w g i cs t (0, 0) h
theorem Blk.five {w : World} {g : Nat} {t : TypeId} {a b c d e : Value} (h : Blk w g t #[a, b, c, d, e]) :
    w.cell? ⟨g, 0, none⟩ = some a ∧ w.cell? ⟨g, 1, none⟩ = some b ∧ w.cell? ⟨g, 2, none⟩ = some c ∧ w.cell? ⟨g, 3, none⟩ = some d ∧ w.cell? ⟨g, 4, none⟩ = some e :=
  ⟨h.cell 0, h.cell 1, h.cell 2, h.cell 3, h.cell 4⟩
/-- A slice of one record, of two, that the call itself lays. -/
theorem sl_one (w : World) (r : RV) : Sl (w.alloc (.cells #[.string r.name, .int .i64 r.type, .int .i64 r.cls, .int .i64 r.ttl, .string r.data] 37)) (some ⟨w.heap.size, 0, none⟩) 1 1 [r] := by
  refine ⟨rfl, by omega, by omega, .inr ⟨w.heap.size, 0, rfl, by simp, ?_⟩⟩
  intro k x hx
  match k, hx with
  | 0, hx =>
    simp at hx; subst hx
    exact ⟨by simp, by simp, by simp, by simp, by simp⟩
theorem sl_two (w : World) (r s : RV) : Sl (w.alloc (.cells #[.string r.name, .int .i64 r.type, .int .i64 r.cls, .int .i64 r.ttl, .string r.data, .string s.name, .int .i64 s.type, .int .i64 s.cls, .int .i64 s.ttl, .string s.data] 37)) (some ⟨w.heap.size, 0, none⟩) 2 2 [r, s] := by
  refine ⟨rfl, by omega, by omega, .inr ⟨w.heap.size, 0, rfl, by simp, ?_⟩⟩
  intro k x hx
  match k, hx with
  | 0, hx =>
    simp at hx; subst hx
    exact ⟨by simp, by simp, by simp, by simp, by simp⟩
  | 1, hx =>
    simp at hx; subst hx
    exact ⟨by simp, by simp, by simp, by simp, by simp⟩
theorem sl_nil (w : World) : Sl w none 0 0 [] := ⟨rfl, by omega, by omega, .inl rfl⟩
def recL : RV := ⟨⟨#[0]⟩, 41, 1232, 16941056, ⟨#[]⟩⟩

theorem rec_o (w : World) : Calls Try.prog 12 #[.agg #[.bool true, .int .i64 1232, .int .i64 1, .int .i64 2, .bool true]] w fun e w' => e = .returned (.tuple #[.agg #[.string ⟨#[0]⟩, .int .i64 41, .int .i64 1232, .int .i64 16941056, .string ⟨#[]⟩], .bool true]) ∧ Below w.heap.size w w' := record_any ⟨true, 1232, 1, 2, true⟩ w
theorem rec_z (w : World) : Calls Try.prog 12 #[.agg #[.bool false, .int .i64 0, .int .i64 0, .int .i64 0, .bool false]] w fun e w' => e = .returned (.tuple #[.agg #[.string ⟨#[]⟩, .int .i64 0, .int .i64 0, .int .i64 0, .string ⟨#[]⟩], .bool false]) ∧ Below w.heap.size w w' := record_any ⟨false, 0, 0, 0, false⟩ w
theorem fs1 : findS [] [] [recL] = (⟨true, 1232, 1, 2, true⟩, 0) := by kernel_rfl
theorem fs2 : findS [] [] [recL, recL] = (zeroO, 7) := by kernel_rfl
theorem fs3 : findS [recL] [] [] = (zeroO, 7) := by kernel_rfl
theorem find_1 (w : World) (n : Nat) (hn : n = w.heap.size) : Calls Try.prog 10 #[.agg #[.int .i64 0, .int .i64 0, .slice none 0 0, .slice none 0 0, .slice none 0 0, .slice (some ⟨n, 0, none⟩) 1 1]] (w.alloc (.cells #[.string ⟨#[0]⟩, .int .i64 41, .int .i64 1232, .int .i64 16941056, .string ⟨#[]⟩] 37)) fun e w' => e = .returned (.tuple #[.agg #[.bool true, .int .i64 1232, .int .i64 1, .int .i64 2, .bool true], .int .i64 0]) ∧ Below (w.alloc (.cells #[.string ⟨#[0]⟩, .int .i64 41, .int .i64 1232, .int .i64 16941056, .string ⟨#[]⟩] 37)).heap.size (w.alloc (.cells #[.string ⟨#[0]⟩, .int .i64 41, .int .i64 1232, .int .i64 16941056, .string ⟨#[]⟩] 37)) w' := by
  subst hn
  have h := find_any 0 0 none none none _ 0 0 0 0 0 0 1 1 [] [] [recL] _ (sl_nil _) (sl_nil _) (sl_one w recL)
  rw [fs1] at h; exact h
theorem find_2 (w : World) (n : Nat) (hn : n = w.heap.size) : Calls Try.prog 10 #[.agg #[.int .i64 0, .int .i64 0, .slice none 0 0, .slice none 0 0, .slice none 0 0, .slice (some ⟨n, 0, none⟩) 2 2]] (w.alloc (.cells #[.string ⟨#[0]⟩, .int .i64 41, .int .i64 1232, .int .i64 16941056, .string ⟨#[]⟩, .string ⟨#[0]⟩, .int .i64 41, .int .i64 1232, .int .i64 16941056, .string ⟨#[]⟩] 37)) fun e w' => e = .returned (.tuple #[.agg #[.bool false, .int .i64 0, .int .i64 0, .int .i64 0, .bool false], .int .i64 7]) ∧ Below (w.alloc (.cells #[.string ⟨#[0]⟩, .int .i64 41, .int .i64 1232, .int .i64 16941056, .string ⟨#[]⟩, .string ⟨#[0]⟩, .int .i64 41, .int .i64 1232, .int .i64 16941056, .string ⟨#[]⟩] 37)).heap.size (w.alloc (.cells #[.string ⟨#[0]⟩, .int .i64 41, .int .i64 1232, .int .i64 16941056, .string ⟨#[]⟩, .string ⟨#[0]⟩, .int .i64 41, .int .i64 1232, .int .i64 16941056, .string ⟨#[]⟩] 37)) w' := by
  subst hn
  have h := find_any 0 0 none none none _ 0 0 0 0 0 0 2 2 [] [] [recL, recL] _ (sl_nil _) (sl_nil _) (sl_two w recL recL)
  rw [fs2] at h; exact h
theorem find_3 (w : World) (n : Nat) (hn : n = w.heap.size) : Calls Try.prog 10 #[.agg #[.int .i64 0, .int .i64 0, .slice none 0 0, .slice (some ⟨n, 0, none⟩) 1 1, .slice none 0 0, .slice none 0 0]] (w.alloc (.cells #[.string ⟨#[0]⟩, .int .i64 41, .int .i64 1232, .int .i64 16941056, .string ⟨#[]⟩] 37)) fun e w' => e = .returned (.tuple #[.agg #[.bool false, .int .i64 0, .int .i64 0, .int .i64 0, .bool false], .int .i64 7]) ∧ Below (w.alloc (.cells #[.string ⟨#[0]⟩, .int .i64 41, .int .i64 1232, .int .i64 16941056, .string ⟨#[]⟩] 37)).heap.size (w.alloc (.cells #[.string ⟨#[0]⟩, .int .i64 41, .int .i64 1232, .int .i64 16941056, .string ⟨#[]⟩] 37)) w' := by
  subst hn
  have h := find_any 0 0 none _ none none 0 0 1 1 0 0 0 0 [recL] [] [] _ (sl_one w recL) (sl_nil _) (sl_nil _)
  rw [fs3] at h; exact h
theorem find_4 (w : World) : Calls Try.prog 10 #[.agg #[.int .i64 0, .int .i64 0, .slice none 0 0, .slice none 0 0, .slice none 0 0, .slice none 0 0]] w fun e w' => e = .returned (.tuple #[.agg #[.bool false, .int .i64 0, .int .i64 0, .int .i64 0, .bool false], .int .i64 0]) ∧ Below w.heap.size w w' :=
  find_any 0 0 none none none none 0 0 0 0 0 0 0 0 [] [] [] _ (sl_nil _) (sl_nil _) (sl_nil _)
theorem lim_1 (w : World) : Calls Try.prog 14 #[.agg #[.bool true, .int .i64 1232, .int .i64 1, .int .i64 2, .bool true]] w fun e w' => e = .returned (.int .i64 1232) ∧ Below w.heap.size w w' := limit_any ⟨true, 1232, 1, 2, true⟩ w
theorem lim_2 (w : World) : Calls Try.prog 14 #[.agg #[.bool false, .int .i64 0, .int .i64 0, .int .i64 0, .bool false]] w fun e w' => e = .returned (.int .i64 512) ∧ Below w.heap.size w w' := limit_any ⟨false, 0, 0, 0, false⟩ w
theorem lim_3 (w : World) : Calls Try.prog 14 #[.agg #[.bool true, .int .i64 9000, .int .i64 0, .int .i64 0, .bool false]] w fun e w' => e = .returned (.int .i64 4096) ∧ Below w.heap.size w w' := limit_any ⟨true, 9000, 0, 0, false⟩ w
theorem code_1 (w : World) : Calls Try.prog 16 #[.int .i64 33152, .agg #[.bool true, .int .i64 1232, .int .i64 1, .int .i64 2, .bool true]] w fun e w' => e = .returned (.int .i64 16) ∧ Below w.heap.size w w' := by
  have h := code_any 33152 ⟨true, 1232, 1, 2, true⟩ w
  rw [(by kernel_rfl : codeO 33152 ⟨true, 1232, 1, 2, true⟩ = 16)] at h; exact h
theorem code_2 (w : World) : Calls Try.prog 16 #[.int .i64 33155, .agg #[.bool false, .int .i64 0, .int .i64 0, .int .i64 0, .bool false]] w fun e w' => e = .returned (.int .i64 3) ∧ Below w.heap.size w w' := by
  have h := code_any 33155 ⟨false, 0, 0, 0, false⟩ w
  rw [(by kernel_rfl : codeO 33155 ⟨false, 0, 0, 0, false⟩ = 3)] at h; exact h


set_option maxHeartbeats 4000000 in
theorem live_any (w : World) : Calls Try.prog 9 #[] w fun e w' => e = .returned (.bool true) ∧ Below w.heap.size w w' := by
  have T1 := Blk.new w 29 #[.bool true, .int .i64 1232, .int .i64 1, .int .i64 2, .bool true]
  have wz : Below w.heap.size w (w.alloc (.cells #[.bool true, .int .i64 1232, .int .i64 1, .int .i64 2, .bool true] 29)) := (Below.refl _ _).alloc (Nat.le_refl _) _
  go_enter Try.func9, Try.ntmps9
  go_wp2_with fail
  refine (rec_o _).mono ?_
  rintro e w1 ⟨rfl, hb⟩
  have T1 := T1.below hb
  have wz := wz.trans (hb.mono wz.size)
  clear hb
  have T2 := Blk.new w1 37 #[.string ⟨#[0]⟩, .int .i64 41, .int .i64 1232, .int .i64 16941056, .string ⟨#[]⟩]
  have T1 := T1.alloc (.cells #[.string ⟨#[0]⟩, .int .i64 41, .int .i64 1232, .int .i64 16941056, .string ⟨#[]⟩] 37)
  have wz := wz.alloc wz.size (.cells #[.string ⟨#[0]⟩, .int .i64 41, .int .i64 1232, .int .i64 16941056, .string ⟨#[]⟩] 37)
  have T1 := T1.alloc (.cells #[.string ⟨#[0]⟩, .int .i64 41, .int .i64 1232, .int .i64 16941056, .string ⟨#[]⟩] 37)
  have T2 := T2.alloc (.cells #[.string ⟨#[0]⟩, .int .i64 41, .int .i64 1232, .int .i64 16941056, .string ⟨#[]⟩] 37)
  have wz := wz.alloc wz.size (.cells #[.string ⟨#[0]⟩, .int .i64 41, .int .i64 1232, .int .i64 16941056, .string ⟨#[]⟩] 37)
  go_wp2_with fail
  refine (find_1 _ _ (by simp)).mono ?_
  rintro e w2 ⟨rfl, hb⟩
  have T1 := T1.below hb
  have T2 := T2.below hb
  have wz := wz.trans (hb.mono wz.size)
  clear hb
  have T4 := Blk.new w2 29 #[.bool true, .int .i64 1232, .int .i64 1, .int .i64 2, .bool true]
  have T1 := T1.alloc (.cells #[.bool true, .int .i64 1232, .int .i64 1, .int .i64 2, .bool true] 29)
  have T2 := T2.alloc (.cells #[.bool true, .int .i64 1232, .int .i64 1, .int .i64 2, .bool true] 29)
  have wz := wz.alloc wz.size (.cells #[.bool true, .int .i64 1232, .int .i64 1, .int .i64 2, .bool true] 29)
  obtain ⟨q0, q1, q2, q3, q4⟩ := T2.five
  have T1 := T1.alloc (.cells #[.string ⟨#[0]⟩, .int .i64 41, .int .i64 1232, .int .i64 16941056, .string ⟨#[]⟩, .string ⟨#[0]⟩, .int .i64 41, .int .i64 1232, .int .i64 16941056, .string ⟨#[]⟩] 37)
  have T2 := T2.alloc (.cells #[.string ⟨#[0]⟩, .int .i64 41, .int .i64 1232, .int .i64 16941056, .string ⟨#[]⟩, .string ⟨#[0]⟩, .int .i64 41, .int .i64 1232, .int .i64 16941056, .string ⟨#[]⟩] 37)
  have T4 := T4.alloc (.cells #[.string ⟨#[0]⟩, .int .i64 41, .int .i64 1232, .int .i64 16941056, .string ⟨#[]⟩, .string ⟨#[0]⟩, .int .i64 41, .int .i64 1232, .int .i64 16941056, .string ⟨#[]⟩] 37)
  have wz := wz.alloc wz.size (.cells #[.string ⟨#[0]⟩, .int .i64 41, .int .i64 1232, .int .i64 16941056, .string ⟨#[]⟩, .string ⟨#[0]⟩, .int .i64 41, .int .i64 1232, .int .i64 16941056, .string ⟨#[]⟩] 37)
  go_wp2_with fail
  refine (find_2 _ _ (by simp)).mono ?_
  rintro e w3 ⟨rfl, hb⟩
  have T1 := T1.below hb
  have T2 := T2.below hb
  have T4 := T4.below hb
  have wz := wz.trans (hb.mono wz.size)
  clear hb
  clear q0 q1 q2 q3 q4
  have T1 := T1.alloc (.cells #[.bool false, .int .i64 0, .int .i64 0, .int .i64 0, .bool false] 29)
  have T2 := T2.alloc (.cells #[.bool false, .int .i64 0, .int .i64 0, .int .i64 0, .bool false] 29)
  have T4 := T4.alloc (.cells #[.bool false, .int .i64 0, .int .i64 0, .int .i64 0, .bool false] 29)
  have wz := wz.alloc wz.size (.cells #[.bool false, .int .i64 0, .int .i64 0, .int .i64 0, .bool false] 29)
  obtain ⟨q0, q1, q2, q3, q4⟩ := T2.five
  have T1 := T1.alloc (.cells #[.string ⟨#[0]⟩, .int .i64 41, .int .i64 1232, .int .i64 16941056, .string ⟨#[]⟩] 37)
  have T2 := T2.alloc (.cells #[.string ⟨#[0]⟩, .int .i64 41, .int .i64 1232, .int .i64 16941056, .string ⟨#[]⟩] 37)
  have T4 := T4.alloc (.cells #[.string ⟨#[0]⟩, .int .i64 41, .int .i64 1232, .int .i64 16941056, .string ⟨#[]⟩] 37)
  have wz := wz.alloc wz.size (.cells #[.string ⟨#[0]⟩, .int .i64 41, .int .i64 1232, .int .i64 16941056, .string ⟨#[]⟩] 37)
  go_wp2_with fail
  refine (find_3 _ _ (by simp)).mono ?_
  rintro e w4 ⟨rfl, hb⟩
  have T1 := T1.below hb
  have T2 := T2.below hb
  have T4 := T4.below hb
  have wz := wz.trans (hb.mono wz.size)
  clear hb
  clear q0 q1 q2 q3 q4
  have T1 := T1.alloc (.cells #[.bool false, .int .i64 0, .int .i64 0, .int .i64 0, .bool false] 29)
  have T2 := T2.alloc (.cells #[.bool false, .int .i64 0, .int .i64 0, .int .i64 0, .bool false] 29)
  have T4 := T4.alloc (.cells #[.bool false, .int .i64 0, .int .i64 0, .int .i64 0, .bool false] 29)
  have wz := wz.alloc wz.size (.cells #[.bool false, .int .i64 0, .int .i64 0, .int .i64 0, .bool false] 29)
  go_wp2_with fail
  refine (find_4 _).mono ?_
  rintro e w5 ⟨rfl, hb⟩
  have T1 := T1.below hb
  have T2 := T2.below hb
  have T4 := T4.below hb
  have wz := wz.trans (hb.mono wz.size)
  clear hb
  have T10 := Blk.new w5 29 #[.bool false, .int .i64 0, .int .i64 0, .int .i64 0, .bool false]
  have T1 := T1.alloc (.cells #[.bool false, .int .i64 0, .int .i64 0, .int .i64 0, .bool false] 29)
  have T2 := T2.alloc (.cells #[.bool false, .int .i64 0, .int .i64 0, .int .i64 0, .bool false] 29)
  have T4 := T4.alloc (.cells #[.bool false, .int .i64 0, .int .i64 0, .int .i64 0, .bool false] 29)
  have wz := wz.alloc wz.size (.cells #[.bool false, .int .i64 0, .int .i64 0, .int .i64 0, .bool false] 29)
  go_wp2_with fail
  refine (rec_z _).mono ?_
  rintro e w6 ⟨rfl, hb⟩
  have T1 := T1.below hb
  have T2 := T2.below hb
  have T4 := T4.below hb
  have T10 := T10.below hb
  have wz := wz.trans (hb.mono wz.size)
  clear hb
  have T1 := T1.alloc (.cells #[.string ⟨#[]⟩, .int .i64 0, .int .i64 0, .int .i64 0, .string ⟨#[]⟩] 37)
  have T2 := T2.alloc (.cells #[.string ⟨#[]⟩, .int .i64 0, .int .i64 0, .int .i64 0, .string ⟨#[]⟩] 37)
  have T4 := T4.alloc (.cells #[.string ⟨#[]⟩, .int .i64 0, .int .i64 0, .int .i64 0, .string ⟨#[]⟩] 37)
  have T10 := T10.alloc (.cells #[.string ⟨#[]⟩, .int .i64 0, .int .i64 0, .int .i64 0, .string ⟨#[]⟩] 37)
  have wz := wz.alloc wz.size (.cells #[.string ⟨#[]⟩, .int .i64 0, .int .i64 0, .int .i64 0, .string ⟨#[]⟩] 37)
  obtain ⟨p0, p1, p2, p3, p4⟩ := T1.five
  obtain ⟨q0, q1, q2, q3, q4⟩ := T2.five
  obtain ⟨r0, r1, r2, r3, r4⟩ := T4.five
  obtain ⟨s0, s1, s2, s3, s4⟩ := T10.five
  go_wp2_with fail
  refine (lim_1 _).mono ?_
  rintro e w7 ⟨rfl, hb⟩
  have T1 := T1.below hb
  have T2 := T2.below hb
  have T4 := T4.below hb
  have T10 := T10.below hb
  have wz := wz.trans (hb.mono wz.size)
  clear hb
  clear p0 p1 p2 p3 p4
  clear q0 q1 q2 q3 q4
  clear r0 r1 r2 r3 r4
  clear s0 s1 s2 s3 s4
  obtain ⟨p0, p1, p2, p3, p4⟩ := T1.five
  obtain ⟨s0, s1, s2, s3, s4⟩ := T10.five
  go_wp2_with fail
  refine (lim_2 _).mono ?_
  rintro e w8 ⟨rfl, hb⟩
  have T1 := T1.below hb
  have T2 := T2.below hb
  have T4 := T4.below hb
  have T10 := T10.below hb
  have wz := wz.trans (hb.mono wz.size)
  clear hb
  clear p0 p1 p2 p3 p4
  clear s0 s1 s2 s3 s4
  obtain ⟨p0, p1, p2, p3, p4⟩ := T1.five
  obtain ⟨s0, s1, s2, s3, s4⟩ := T10.five
  go_wp2_with fail
  refine (lim_3 _).mono ?_
  rintro e w9 ⟨rfl, hb⟩
  have T1 := T1.below hb
  have T2 := T2.below hb
  have T4 := T4.below hb
  have T10 := T10.below hb
  have wz := wz.trans (hb.mono wz.size)
  clear hb
  clear p0 p1 p2 p3 p4
  clear s0 s1 s2 s3 s4
  obtain ⟨p0, p1, p2, p3, p4⟩ := T1.five
  obtain ⟨s0, s1, s2, s3, s4⟩ := T10.five
  go_wp2_with fail
  refine (code_1 _).mono ?_
  rintro e w10 ⟨rfl, hb⟩
  have T1 := T1.below hb
  have T2 := T2.below hb
  have T4 := T4.below hb
  have T10 := T10.below hb
  have wz := wz.trans (hb.mono wz.size)
  clear hb
  clear p0 p1 p2 p3 p4
  clear s0 s1 s2 s3 s4
  obtain ⟨p0, p1, p2, p3, p4⟩ := T1.five
  obtain ⟨s0, s1, s2, s3, s4⟩ := T10.five
  go_wp2_with fail
  refine (code_2 _).mono ?_
  rintro e w11 ⟨rfl, hb⟩
  have T1 := T1.below hb
  have T2 := T2.below hb
  have T4 := T4.below hb
  have T10 := T10.below hb
  have wz := wz.trans (hb.mono wz.size)
  clear hb
  clear p0 p1 p2 p3 p4
  clear s0 s1 s2 s3 s4
  go_wp2_with fail
  go_ret
  exact ⟨rfl, wz⟩

end Go.Proofs.Ytnbngkecabacaaa.Ev
