/- The law EdnsFinds' function tells true. -/
import Derived.Test.YtnbngkecabacaaaEu
import Derived.WalkKit
import Derived.Below
import Derived.KernelRfl
import Derived.LoopTactic
import Derived.LoopN
import Derived.Outline
import Derived.Deep.RegionHeld3
import Derived.Lib.Hide
import Derived.Laws.Tables
import Derived.Laws.Rows
namespace Go.Proofs.Ytnbngkecabacaaa.Et
open Go.RowKit Go.Proofs.Ytnbngkecabacaaa.Fb Go.Proofs.Ytnbngkecabacaaa.Fl Go.Proofs.Ytnbngkecabacaaa.Fr Go.Proofs.Ytnbngkecabacaaa.Ed
set_option linter.unusedVariables false
open Go.Proofs.Ytnbngkecabacaaa.Ef
open Go.Proofs.Ytnbngkecabacaaa.Eg
open Go.Proofs.Ytnbngkecabacaaa.Ev
open Go.Proofs.Ytnbngkecabacaaa.Ex
open Go.Proofs.Ytnbngkecabacaaa.Ey
open Go.Proofs.Ytnbngkecabacaaa.Ez
open Go.Proofs.Ytnbngkecabacaaa.Eu

theorem blk_six {w : World} {g : Nat} {t : TypeId} {a b c d e f : Value} (h : Blk w g t #[a, b, c, d, e, f]) :
    w.cell? ⟨g, 0, none⟩ = some a ∧ w.cell? ⟨g, 1, none⟩ = some b ∧ w.cell? ⟨g, 2, none⟩ = some c ∧ w.cell? ⟨g, 3, none⟩ = some d ∧ w.cell? ⟨g, 4, none⟩ = some e ∧ w.cell? ⟨g, 5, none⟩ = some f :=
  ⟨h.cell 0, h.cell 1, h.cell 2, h.cell 3, h.cell 4, h.cell 5⟩

set_option maxHeartbeats 4000000 in
theorem finds_walk (id bits : Int) (Q A1 A2 A3 : Option Addr) (qn qc n1 c1 n2 c2 n3 c3 : Nat) (w : World) (h : Bool) (s x v : Int) (d : Bool) (er : Int)
    (F8 : ∀ w', Below w.heap.size w w' → Calls Try.prog 8 #[.agg #[.int .i64 id, .int .i64 bits, .slice Q qn qc, .slice A1 n1 c1, .slice A2 n2 c2, .slice A3 n3 c3]] w' fun e w'' => Bo e ∧ Below w'.heap.size w' w'')
    (F10 : ∀ w', Below w.heap.size w w' → Calls Try.prog 10 #[.agg #[.int .i64 id, .int .i64 bits, .slice Q qn qc, .slice A1 n1 c1, .slice A2 n2 c2, .slice A3 n3 c3]] w' fun e w'' => e = .returned (.tuple #[.agg #[.bool h, .int .i64 s, .int .i64 x, .int .i64 v, .bool d], .int .i64 er]) ∧ Below w'.heap.size w' w'')
    (F11 : ∀ w', Below w.heap.size w w' → Calls Try.prog 11 #[.agg #[.int .i64 id, .int .i64 bits, .slice Q qn qc, .slice A1 n1 c1, .slice A2 n2 c2, .slice A3 n3 c3]] w' fun e w'' => e = .returned (.tuple #[.agg #[.bool h, .int .i64 s, .int .i64 x, .int .i64 v, .bool d], .int .i64 er]) ∧ Below w'.heap.size w' w'') :
    Calls Try.prog 3 #[.agg #[.int .i64 id, .int .i64 bits, .slice Q qn qc, .slice A1 n1 c1, .slice A2 n2 c2, .slice A3 n3 c3]] w fun e w' => e = .returned (.bool true) ∧ Below w.heap.size w w' := by
  have T1 := Blk.new w 25 #[.int .i64 id, .int .i64 bits, .slice Q qn qc, .slice A1 n1 c1, .slice A2 n2 c2, .slice A3 n3 c3]
  have wz : Below w.heap.size w (w.alloc (.cells #[.int .i64 id, .int .i64 bits, .slice Q qn qc, .slice A1 n1 c1, .slice A2 n2 c2, .slice A3 n3 c3] 25)) := (Below.refl _ _).alloc (Nat.le_refl _) _
  go_enter Try.func3, Try.ntmps3
  go_wp2_with fail
  refine (F8 _ wz).mono ?_
  clear F8
  rintro e w1 ⟨⟨sm, rfl⟩, hb⟩
  have T1 := T1.below hb
  have wz := wz.trans (hb.mono wz.size)
  clear hb
  obtain ⟨a0, a1, a2, a3, a4, a5⟩ := blk_six T1
  cases sm
  · clear F10 F11
    go_wp2_with fail
    refine (live_any _).mono ?_
    rintro e w2 ⟨rfl, hb⟩
    go_wp2_with fail
    go_ret
    exact ⟨rfl, wz.trans (hb.mono wz.size)⟩
  · go_wp2_with fail
    refine (F10 _ wz).mono ?_
    clear F10
    rintro e w2 ⟨rfl, hb⟩
    have T1 := (T1.below hb).alloc (.cells #[.bool h, .int .i64 s, .int .i64 x, .int .i64 v, .bool d] 29)
    have T3 := Blk.new w2 29 #[.bool h, .int .i64 s, .int .i64 x, .int .i64 v, .bool d]
    have wz := wz.trans (hb.mono wz.size)
    have wz := wz.alloc wz.size (.cells #[.bool h, .int .i64 s, .int .i64 x, .int .i64 v, .bool d] 29)
    clear hb a0 a1 a2 a3 a4 a5
    obtain ⟨a0, a1, a2, a3, a4, a5⟩ := blk_six T1
    go_wp2_with fail
    refine (F11 _ wz).mono ?_
    clear F11
    rintro e w3 ⟨rfl, hb⟩
    have T3 := (T3.below hb).alloc (.cells #[.bool h, .int .i64 s, .int .i64 x, .int .i64 v, .bool d] 33)
    have T5 := Blk.new w3 33 #[.bool h, .int .i64 s, .int .i64 x, .int .i64 v, .bool d]
    have wz := wz.trans (hb.mono wz.size)
    have wz := wz.alloc wz.size (.cells #[.bool h, .int .i64 s, .int .i64 x, .int .i64 v, .bool d] 33)
    clear hb a0 a1 a2 a3 a4 a5 T1
    obtain ⟨a0, a1, a2, a3, a4⟩ := T3.five
    obtain ⟨b0, b1, b2, b3, b4⟩ := T5.five
    clear T3 T5
    go_wp2_with fail
    refine (live_any _).mono ?_
    rintro e w4 ⟨rfl, hb⟩
    go_wp2_with fail
    go_ret
    exact ⟨rfl, wz.trans (hb.mono wz.size)⟩

theorem finds_any (id bits : Int) (Q A1 A2 A3 : Option Addr) (qn qc n1 c1 n2 c2 n3 c3 : Nat) (an ns ar : List RV) (w : World) (q : Qn w Q qn) (s1 : Sl w A1 n1 c1 an) (s2 : Sl w A2 n2 c2 ns) (s3 : Sl w A3 n3 c3 ar) :
    Calls Try.prog 3 #[.agg #[.int .i64 id, .int .i64 bits, .slice Q qn qc, .slice A1 n1 c1, .slice A2 n2 c2, .slice A3 n3 c3]] w fun e w' => e = .returned (.bool true) ∧ Below w.heap.size w w' :=
  finds_walk id bits Q A1 A2 A3 qn qc n1 c1 n2 c2 n3 c3 w _ _ _ _ _ _
    (fun w' hb => small_any id bits Q A1 A2 A3 qn qc n1 c1 n2 c2 n3 c3 an ns ar w' (q.below hb) (s1.below hb) (s2.below hb) (s3.below hb))
    (fun w' hb => find_any id bits Q A1 A2 A3 qn qc n1 c1 n2 c2 n3 c3 an ns ar w' (s1.below hb) (s2.below hb) (s3.below hb))
    (fun w' hb => rfind_any id bits Q A1 A2 A3 qn qc n1 c1 n2 c2 n3 c3 an ns ar w' (s1.below hb) (s2.below hb) (s3.below hb))

end Go.Proofs.Ytnbngkecabacaaa.Et
