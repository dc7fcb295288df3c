/- The record of anything that is said, the limit, and the code are what the document's answer says: the law's function tells true at everything that can be said and every bits; no condition. -/
import Derived.Test.YtnbngkecabacaaaRows
import Derived.WalkKit
import Derived.ProofKit
import Derived.OpenShut
import Derived.ShutString
import Derived.ChangeOld
import Derived.Below
import Derived.SizedLaws
import Derived.Carry
import Derived.Test.YtnbngkecabacaaaEv
import Derived.Lib.Hide
import Derived.Deep.RegionHeld3
import Derived.Test.YtnbngkecabacaaaEx
import Derived.Lib.SmallJoins
namespace Go.Proofs.Ytnbngkecabacaaa.Tells
open Go.ChangeShapes Go.WideShapes Go.ChangeAt Go.RowKit
open Go.ChangeMaps (open_string shut_string)
set_option linter.unusedVariables false
open Go.Proofs.Ytnbngkecabacaaa.Fb Go.Proofs.Ytnbngkecabacaaa.Fl Go.Proofs.Ytnbngkecabacaaa.Fr Go.Proofs.Ytnbngkecabacaaa.Ed Go.Proofs.Ytnbngkecabacaaa.Ef Go.Proofs.Ytnbngkecabacaaa.Eg Go.Proofs.Ytnbngkecabacaaa.Ev
open Go.Proofs.Ytnbngkecabacaaa.Ex
open Go.Joins Go.Deep


theorem open_opt {H : Type} {enc : TypeId × Value → H} {P : Program} {W : World} {base : Nat} {sp : Nat → Bool} {held : Bool} {r : Reach} {b0 : Nat} {t ti tb : TypeId} {f0 f1 f2 f3 f4 : Field} {vv : Value} {dd : DataW H} {p : List MemPlace}
    (hs : P.underlying t = some (.struct #[f0, f1, f2, f3, f4])) (hone : oneCellFields P #[f0, f1, f2, f3, f4] = true) (hC : P.cellsOf t = 5)
    (e0 : P.underlying f0.type = some .bool) (e1 : P.underlying f1.type = some (.int .i64)) (e2 : P.underlying f2.type = some (.int .i64)) (e3 : P.underlying f3.type = some (.int .i64)) (e4 : P.underlying f4.type = some .bool)
    (hv : Value.okWide P W r b0 t vv) (hd : DataW.Trod enc P W base sp held t vv dd p) :
    ∃ (h : Bool) (s x v : Int) (d : Bool), vv = .agg #[.bool h, .int .i64 s, .int .i64 x, .int .i64 v, .bool d] := by
  obtain ⟨cs, rfl, hsz⟩ := okWide_struct hs hv
  obtain ⟨l⟩ := cs
  match l, hsz.trans hC with
  | [c0, c1, c2, c3, c4], _ =>
    obtain ⟨fuel, hf⟩ := hd
    obtain ⟨xs, n, _, hx, _, hlen, hg⟩ := DataW.trod_struct hs hf
    obtain ⟨o0, k0⟩ := hone_of hone 0 f0 rfl
    obtain ⟨o1, k1⟩ := hone_of hone 1 f1 rfl
    obtain ⟨o2, k2⟩ := hone_of hone 2 f2 rfl
    obtain ⟨o3, k3⟩ := hone_of hone 3 f3 rfl
    obtain ⟨o4, k4⟩ := hone_of hone 4 f4 rfl
    match xs, hlen with
    | [y0, y1, y2, y3, y4], _ =>
      have t0 : DataW.trod enc P W base sp held n f0.type [c0] = some y0 := by simpa [Value.cells, o0, k0] using hg 0 f0 rfl
      have t1 : DataW.trod enc P W base sp held n f1.type [c1] = some y1 := by simpa [Value.cells, o1, k1] using hg 1 f1 rfl
      have t2 : DataW.trod enc P W base sp held n f2.type [c2] = some y2 := by simpa [Value.cells, o2, k2] using hg 2 f2 rfl
      have t3 : DataW.trod enc P W base sp held n f3.type [c3] = some y3 := by simpa [Value.cells, o3, k3] using hg 3 f3 rfl
      have t4 : DataW.trod enc P W base sp held n f4.type [c4] = some y4 := by simpa [Value.cells, o4, k4] using hg 4 f4 rfl
      obtain ⟨h, a0, _⟩ := DataW.trod_bool e0 t0
      obtain ⟨s, a1, _, _⟩ := DataW.trod_int e1 t1
      obtain ⟨x, a2, _, _⟩ := DataW.trod_int e2 t2
      obtain ⟨v, a3, _, _⟩ := DataW.trod_int e3 t3
      obtain ⟨d, a4, _⟩ := DataW.trod_bool e4 t4
      simp at a0 a1 a2 a3 a4
      subst a0 a1 a2 a3 a4
      exact ⟨h, s, x, v, d, rfl⟩

/-- What the region's worlds have in common. -/
structure St (w : World) (n1 n2 : Nat) (h : Bool) (s x v : Int) (d : Bool) (nm : ByteArray) (ty cl tt : Int) (W : World) : Prop where
  t2 : Blk W w.heap.size 33 #[.bool h, .int .i64 s, .int .i64 x, .int .i64 v, .bool d]
  t5 : Blk W (w.heap.size + 1) 29 #[.bool h, .int .i64 s, .int .i64 x, .int .i64 v, .bool d]
  t6 : Blk W n1 37 #[.string nm, .int .i64 ty, .int .i64 cl, .int .i64 tt, .string ⟨#[]⟩]
  t8 : Blk W n2 37 #[.string nm, .int .i64 ty, .int .i64 cl, .int .i64 tt, .string ⟨#[]⟩]
  b : Below w.heap.size w W
section
variable {w W W' : World} {n1 n2 : Nat} {h : Bool} {s x v : Int} {d : Bool} {nm : ByteArray} {ty cl tt : Int}
theorem St.next (k : St w n1 n2 h s x v d nm ty cl tt W) (hb : Below W.heap.size W W') : St w n1 n2 h s x v d nm ty cl tt W' :=
  ⟨k.t2.below hb, k.t5.below hb, k.t6.below hb, k.t8.below hb, k.b.trans (hb.mono k.b.size)⟩
theorem St.to (k : St w n1 n2 h s x v d nm ty cl tt W) : W.cell? ⟨w.heap.size, 0, none⟩ = some (.bool h) ∧ W.cell? ⟨w.heap.size, 1, none⟩ = some (.int .i64 s) ∧ W.cell? ⟨w.heap.size, 2, none⟩ = some (.int .i64 x) ∧ W.cell? ⟨w.heap.size, 3, none⟩ = some (.int .i64 v) ∧ W.cell? ⟨w.heap.size, 4, none⟩ = some (.bool d) ∧ W.cell? ⟨w.heap.size + 1, 0, none⟩ = some (.bool h) ∧ W.cell? ⟨w.heap.size + 1, 1, none⟩ = some (.int .i64 s) ∧ W.cell? ⟨w.heap.size + 1, 2, none⟩ = some (.int .i64 x) ∧ W.cell? ⟨w.heap.size + 1, 3, none⟩ = some (.int .i64 v) ∧ W.cell? ⟨w.heap.size + 1, 4, none⟩ = some (.bool d) ∧ W.cell? ⟨n1, 0, none⟩ = some (.string nm) ∧ W.cell? ⟨n1, 1, none⟩ = some (.int .i64 ty) ∧ W.cell? ⟨n1, 2, none⟩ = some (.int .i64 cl) ∧ W.cell? ⟨n1, 3, none⟩ = some (.int .i64 tt) ∧ W.cell? ⟨n1, 4, none⟩ = some (.string ⟨#[]⟩) ∧ W.cell? ⟨n2, 0, none⟩ = some (.string nm) ∧ W.cell? ⟨n2, 1, none⟩ = some (.int .i64 ty) ∧ W.cell? ⟨n2, 2, none⟩ = some (.int .i64 cl) ∧ W.cell? ⟨n2, 3, none⟩ = some (.int .i64 tt) ∧ W.cell? ⟨n2, 4, none⟩ = some (.string ⟨#[]⟩) ∧ Blk W w.heap.size 33 #[.bool h, .int .i64 s, .int .i64 x, .int .i64 v, .bool d] ∧ Blk W (w.heap.size + 1) 29 #[.bool h, .int .i64 s, .int .i64 x, .int .i64 v, .bool d] ∧ Blk W n1 37 #[.string nm, .int .i64 ty, .int .i64 cl, .int .i64 tt, .string ⟨#[]⟩] ∧ Blk W n2 37 #[.string nm, .int .i64 ty, .int .i64 cl, .int .i64 tt, .string ⟨#[]⟩] ∧ Below w.heap.size w W := by
  obtain ⟨a0, a1, a2, a3, a4⟩ := k.t2.five
  obtain ⟨b0, b1, b2, b3, b4⟩ := k.t5.five
  obtain ⟨c0, c1, c2, c3, c4⟩ := k.t6.five
  obtain ⟨d0, d1, d2, d3, d4⟩ := k.t8.five
  exact ⟨a0, a1, a2, a3, a4, b0, b1, b2, b3, b4, c0, c1, c2, c3, c4, d0, d1, d2, d3, d4, k.t2, k.t5, k.t6, k.t8, k.b⟩
theorem St.of (k : W.cell? ⟨w.heap.size, 0, none⟩ = some (.bool h) ∧ W.cell? ⟨w.heap.size, 1, none⟩ = some (.int .i64 s) ∧ W.cell? ⟨w.heap.size, 2, none⟩ = some (.int .i64 x) ∧ W.cell? ⟨w.heap.size, 3, none⟩ = some (.int .i64 v) ∧ W.cell? ⟨w.heap.size, 4, none⟩ = some (.bool d) ∧ W.cell? ⟨w.heap.size + 1, 0, none⟩ = some (.bool h) ∧ W.cell? ⟨w.heap.size + 1, 1, none⟩ = some (.int .i64 s) ∧ W.cell? ⟨w.heap.size + 1, 2, none⟩ = some (.int .i64 x) ∧ W.cell? ⟨w.heap.size + 1, 3, none⟩ = some (.int .i64 v) ∧ W.cell? ⟨w.heap.size + 1, 4, none⟩ = some (.bool d) ∧ W.cell? ⟨n1, 0, none⟩ = some (.string nm) ∧ W.cell? ⟨n1, 1, none⟩ = some (.int .i64 ty) ∧ W.cell? ⟨n1, 2, none⟩ = some (.int .i64 cl) ∧ W.cell? ⟨n1, 3, none⟩ = some (.int .i64 tt) ∧ W.cell? ⟨n1, 4, none⟩ = some (.string ⟨#[]⟩) ∧ W.cell? ⟨n2, 0, none⟩ = some (.string nm) ∧ W.cell? ⟨n2, 1, none⟩ = some (.int .i64 ty) ∧ W.cell? ⟨n2, 2, none⟩ = some (.int .i64 cl) ∧ W.cell? ⟨n2, 3, none⟩ = some (.int .i64 tt) ∧ W.cell? ⟨n2, 4, none⟩ = some (.string ⟨#[]⟩) ∧ Blk W w.heap.size 33 #[.bool h, .int .i64 s, .int .i64 x, .int .i64 v, .bool d] ∧ Blk W (w.heap.size + 1) 29 #[.bool h, .int .i64 s, .int .i64 x, .int .i64 v, .bool d] ∧ Blk W n1 37 #[.string nm, .int .i64 ty, .int .i64 cl, .int .i64 tt, .string ⟨#[]⟩] ∧ Blk W n2 37 #[.string nm, .int .i64 ty, .int .i64 cl, .int .i64 tt, .string ⟨#[]⟩] ∧ Below w.heap.size w W) : St w n1 n2 h s x v d nm ty cl tt W := by
  obtain ⟨_, _, _, _, _, _, _, _, _, _, _, _, _, _, _, _, _, _, _, _, t2, t5, t6, t8, b⟩ := k
  exact ⟨t2, t5, t6, t8, b⟩
end

theorem out_hi (h : Bool) (s x v : Int) (d : Bool) (b : Int) (w : World) (k : 1099511627776 < x) : Calls Try.prog 4 #[.agg #[.bool h, .int .i64 s, .int .i64 x, .int .i64 v, .bool d], .int .i64 b] w fun e w' => e = .returned (.bool true) ∧ Below w.heap.size w w' := by
  have c1 : decide (1099511627776 < x) = true := by simpa using k
  clear k
  go_enter Try.func4, Try.ntmps4
  go_wp2_with fail
  refine (live_any _).mono ?_
  rintro e w1 ⟨rfl, b1⟩
  go_wp2_with fail
  go_ret
  exact ⟨rfl, ((Below.refl _ _).alloc (Nat.le_refl _) _).trans (b1.mono (by simp))⟩
theorem out_lo (h : Bool) (s x v : Int) (d : Bool) (b : Int) (w : World) (k : x < -1099511627776) : Calls Try.prog 4 #[.agg #[.bool h, .int .i64 s, .int .i64 x, .int .i64 v, .bool d], .int .i64 b] w fun e w' => e = .returned (.bool true) ∧ Below w.heap.size w w' := by
  have c1 : decide (1099511627776 < x) = false := by simp; omega
  have c2 : decide (x < -1099511627776) = true := by simpa using k
  clear k
  go_enter Try.func4, Try.ntmps4
  go_wp2_with fail
  refine (live_any _).mono ?_
  rintro e w1 ⟨rfl, b1⟩
  go_wp2_with fail
  go_ret
  exact ⟨rfl, ((Below.refl _ _).alloc (Nat.le_refl _) _).trans (b1.mono (by simp))⟩

set_option maxHeartbeats 8000000 in
theorem core (h : Bool) (s x v : Int) (d : Bool) (b : Int) (w : World) (k0 : ¬ 1099511627776 < x) (k1 : ¬ x < -1099511627776) (nm : ByteArray) (ty cl tt li co : Int) (ok : Bool)
    (R : ∀ w : World, Calls Try.prog 12 #[.agg #[.bool h, .int .i64 s, .int .i64 x, .int .i64 v, .bool d]] w fun e w' => e = .returned (.tuple #[.agg #[.string nm, .int .i64 ty, .int .i64 cl, .int .i64 tt, .string ⟨#[]⟩], .bool ok]) ∧ Below w.heap.size w w')
    (RR : ∀ w : World, Calls Try.prog 13 #[.agg #[.bool h, .int .i64 s, .int .i64 x, .int .i64 v, .bool d]] w fun e w' => e = .returned (.tuple #[.agg #[.string nm, .int .i64 ty, .int .i64 cl, .int .i64 tt, .string ⟨#[]⟩], .bool ok]) ∧ Below w.heap.size w w')
    (L : ∀ w : World, Calls Try.prog 14 #[.agg #[.bool h, .int .i64 s, .int .i64 x, .int .i64 v, .bool d]] w fun e w' => e = .returned (.int .i64 li) ∧ Below w.heap.size w w')
    (RL : ∀ w : World, Calls Try.prog 15 #[.agg #[.bool h, .int .i64 s, .int .i64 x, .int .i64 v, .bool d]] w fun e w' => e = .returned (.int .i64 li) ∧ Below w.heap.size w w')
    (C : ∀ w : World, Calls Try.prog 16 #[.int .i64 b, .agg #[.bool h, .int .i64 s, .int .i64 x, .int .i64 v, .bool d]] w fun e w' => e = .returned (.int .i64 co) ∧ Below w.heap.size w w')
    (RC : ∀ w : World, Calls Try.prog 17 #[.int .i64 b, .agg #[.bool h, .int .i64 s, .int .i64 x, .int .i64 v, .bool d]] w fun e w' => e = .returned (.int .i64 co) ∧ Below w.heap.size w w') :
    Calls Try.prog 4 #[.agg #[.bool h, .int .i64 s, .int .i64 x, .int .i64 v, .bool d], .int .i64 b] w fun e w' => e = .returned (.bool true) ∧ Below w.heap.size w w' := by
  have c1 : decide (1099511627776 < x) = false := by simpa using k0
  have c2 : decide (x < -1099511627776) = false := by simpa using k1
  clear k0 k1
  have T2 := (Blk.new w 33 #[.bool h, .int .i64 s, .int .i64 x, .int .i64 v, .bool d]).alloc (.cells #[.bool h, .int .i64 s, .int .i64 x, .int .i64 v, .bool d] 29)
  have T5 : Blk ((w.alloc (.cells #[.bool h, .int .i64 s, .int .i64 x, .int .i64 v, .bool d] 33)).alloc (.cells #[.bool h, .int .i64 s, .int .i64 x, .int .i64 v, .bool d] 29)) (w.heap.size + 1) 29 #[.bool h, .int .i64 s, .int .i64 x, .int .i64 v, .bool d] := by
    have := Blk.new (w.alloc (.cells #[.bool h, .int .i64 s, .int .i64 x, .int .i64 v, .bool d] 33)) 29 #[.bool h, .int .i64 s, .int .i64 x, .int .i64 v, .bool d]
    simpa using this
  have wz : Below w.heap.size w ((w.alloc (.cells #[.bool h, .int .i64 s, .int .i64 x, .int .i64 v, .bool d] 33)).alloc (.cells #[.bool h, .int .i64 s, .int .i64 x, .int .i64 v, .bool d] 29)) := ((Below.refl _ _).alloc (Nat.le_refl _) _).alloc (by simp) _
  go_enter Try.func4, Try.ntmps4
  go_wp2_with fail
  refine (R _).mono ?_
  rintro e w1 ⟨rfl, hb⟩
  have T2 := (T2.below hb).alloc (.cells #[.string nm, .int .i64 ty, .int .i64 cl, .int .i64 tt, .string ⟨#[]⟩] 37)
  have T5 := (T5.below hb).alloc (.cells #[.string nm, .int .i64 ty, .int .i64 cl, .int .i64 tt, .string ⟨#[]⟩] 37)
  have T6 := Blk.new w1 37 #[.string nm, .int .i64 ty, .int .i64 cl, .int .i64 tt, .string ⟨#[]⟩]
  have wz := wz.trans (hb.mono wz.size)
  have wz := wz.alloc wz.size (.cells #[.string nm, .int .i64 ty, .int .i64 cl, .int .i64 tt, .string ⟨#[]⟩] 37)
  clear hb
  obtain ⟨a0, a1, a2, a3, a4⟩ := T2.five
  go_wp2_with fail
  refine (RR _).mono ?_
  rintro e w2 ⟨rfl, hb⟩
  have T2 := (T2.below hb).alloc (.cells #[.string nm, .int .i64 ty, .int .i64 cl, .int .i64 tt, .string ⟨#[]⟩] 37)
  have T5 := (T5.below hb).alloc (.cells #[.string nm, .int .i64 ty, .int .i64 cl, .int .i64 tt, .string ⟨#[]⟩] 37)
  have T6 := (T6.below hb).alloc (.cells #[.string nm, .int .i64 ty, .int .i64 cl, .int .i64 tt, .string ⟨#[]⟩] 37)
  have T8 := Blk.new w2 37 #[.string nm, .int .i64 ty, .int .i64 cl, .int .i64 tt, .string ⟨#[]⟩]
  have wz := wz.trans (hb.mono wz.size)
  have wz := wz.alloc wz.size (.cells #[.string nm, .int .i64 ty, .int .i64 cl, .int .i64 tt, .string ⟨#[]⟩] 37)
  clear hb a0 a1 a2 a3 a4
  have S0 := (St.mk T2 T5 T6 T8 wz)
  have S1 : St w w1.heap.size w2.heap.size h s x v d nm ty cl tt (w2.alloc (.cells #[.string nm, .int .i64 ty, .int .i64 cl, .int .i64 tt, .string ⟨#[]⟩] 37)).drew := S0.next (Below.drew (Below.refl _ _))
  have S2 := Lib.hid S1.to
  clear T2 T5 T6 T8 wz S0 S1
  go_wp2_with fail
  go_region_held3 (fun W => W.cell? ⟨w.heap.size, 0, none⟩ = some (.bool h) ∧ W.cell? ⟨w.heap.size, 1, none⟩ = some (.int .i64 s) ∧ W.cell? ⟨w.heap.size, 2, none⟩ = some (.int .i64 x) ∧ W.cell? ⟨w.heap.size, 3, none⟩ = some (.int .i64 v) ∧ W.cell? ⟨w.heap.size, 4, none⟩ = some (.bool d) ∧ W.cell? ⟨w.heap.size + 1, 0, none⟩ = some (.bool h) ∧ W.cell? ⟨w.heap.size + 1, 1, none⟩ = some (.int .i64 s) ∧ W.cell? ⟨w.heap.size + 1, 2, none⟩ = some (.int .i64 x) ∧ W.cell? ⟨w.heap.size + 1, 3, none⟩ = some (.int .i64 v) ∧ W.cell? ⟨w.heap.size + 1, 4, none⟩ = some (.bool d) ∧ W.cell? ⟨w1.heap.size, 0, none⟩ = some (.string nm) ∧ W.cell? ⟨w1.heap.size, 1, none⟩ = some (.int .i64 ty) ∧ W.cell? ⟨w1.heap.size, 2, none⟩ = some (.int .i64 cl) ∧ W.cell? ⟨w1.heap.size, 3, none⟩ = some (.int .i64 tt) ∧ W.cell? ⟨w1.heap.size, 4, none⟩ = some (.string ⟨#[]⟩) ∧ W.cell? ⟨w2.heap.size, 0, none⟩ = some (.string nm) ∧ W.cell? ⟨w2.heap.size, 1, none⟩ = some (.int .i64 ty) ∧ W.cell? ⟨w2.heap.size, 2, none⟩ = some (.int .i64 cl) ∧ W.cell? ⟨w2.heap.size, 3, none⟩ = some (.int .i64 tt) ∧ W.cell? ⟨w2.heap.size, 4, none⟩ = some (.string ⟨#[]⟩) ∧ Blk W w.heap.size 33 #[.bool h, .int .i64 s, .int .i64 x, .int .i64 v, .bool d] ∧ Blk W (w.heap.size + 1) 29 #[.bool h, .int .i64 s, .int .i64 x, .int .i64 v, .bool d] ∧ Blk W w1.heap.size 37 #[.string nm, .int .i64 ty, .int .i64 cl, .int .i64 tt, .string ⟨#[]⟩] ∧ Blk W w2.heap.size 37 #[.string nm, .int .i64 ty, .int .i64 cl, .int .i64 tt, .string ⟨#[]⟩] ∧ Below w.heap.size w W)
    (first | assumption | exact S2.out)
    (first
      | (go_at_call 14; refine (L _).mono ?_; rintro e w' ⟨rfl, hb⟩; have h9 := ((St.of ‹_ ∧ _›).next hb).to; clear hb)
      | (go_at_call 15; refine (RL _).mono ?_; rintro e w' ⟨rfl, hb⟩; have h9 := ((St.of ‹_ ∧ _›).next hb).to; clear hb)
      | (go_at_call 16; refine (C _).mono ?_; rintro e w' ⟨rfl, hb⟩; have h9 := ((St.of ‹_ ∧ _›).next hb).to; clear hb)
      | (go_at_call 17; refine (RC _).mono ?_; rintro e w' ⟨rfl, hb⟩; have h9 := ((St.of ‹_ ∧ _›).next hb).to; clear hb)
      | (go_at_call 9; refine (live_any _).mono ?_; rintro e w' ⟨rfl, hb⟩; have h9 := ((St.of ‹_ ∧ _›).next hb).to; clear hb))
  all_goals go_wp2
  all_goals go_ret
  all_goals (rename_i hh; exact ⟨rfl, (St.of hh).b⟩)

theorem tells_any (h : Bool) (s x v : Int) (d : Bool) (b : Int) (w : World) : Calls Try.prog 4 #[.agg #[.bool h, .int .i64 s, .int .i64 x, .int .i64 v, .bool d], .int .i64 b] w fun e w' => e = .returned (.bool true) ∧ Below w.heap.size w w' := by
  by_cases k0 : 1099511627776 < x
  · exact out_hi h s x v d b w k0
  by_cases k1 : x < -1099511627776
  · exact out_lo h s x v d b w k1
  exact core h s x v d b w k0 k1 _ _ _ _ _ _ _ (record_any ⟨h, s, x, v, d⟩) (rrecord_any ⟨h, s, x, v, d⟩) (limit_any ⟨h, s, x, v, d⟩) (rlimit_any ⟨h, s, x, v, d⟩) (code_any b ⟨h, s, x, v, d⟩) (rcode_any b ⟨h, s, x, v, d⟩)

theorem own : ownKnob Try.prog.godebug = none := by kernel_rfl
theorem laidOut : laidOutB Try.prog = true := by kernel_rfl
set_option maxRecDepth 100000 in
theorem lifted (os : Os) (started : os.Started) (H : Type) (enc : TypeId × Value → H) :
    ReturnsInHanded {} Try.checked os 4 .any (Rows.ednsTellsSpec.pre6 enc Try.prog Try.f4 Rows.ednsTellsRow.domain false) (Rows.ednsTellsSpec.post enc Try.prog Try.f4 false true false false) := by
  refine returnsInHanded_of_change_sized (C := Try.checked) own started (by kernel_rfl) Try.func4
    (ChangeSpec.witness6 (enc := enc) (C := Try.checked) false ⟨#[], #[.agg #[.bool false, .int .i64 0, .int .i64 0, .int .i64 0, .bool false], .int .i64 0], []⟩ 8 (by kernel_rfl) (by kernel_rfl) (by kernel_rfl) (by kernel_rfl)) ?_
  intro W base args ds gs before hval0 hW hcnd hsz0 _
  have hsz : (DataW.weightsEach Try.prog (Try.f4.params.toList ++ Rows.ednsTellsSpec.plain.varTypes Try.prog) (ds ++ gs)).all (· ≤ reachBytes) = true := hsz0
  have hval : ∀ (j : Nat) t v, Try.f4.params[j]? = some t → args[j]? = some v → Value.okWide Try.prog W .any base t v := hval0
  have hW' := hW
  obtain ⟨p, q, hA0, hV, rfl, hfz, hnd⟩ := hW
  have hA : DataW.TrodAll enc Try.prog W 0 (fun _ => true) true Try.f4.params.toList args.toList ds p := hA0
  rw [Try.params4] at hA hval hsz
  obtain ⟨v0, vs0, d0, ds0, p0, q0, hargs, rfl, rfl, h0, r0⟩ := trodAll_cons hA
  obtain ⟨v1, vs1, d1, ds1, p1, q1, rfl, rfl, rfl, h1, r1⟩ := trodAll_cons r0
  obtain ⟨rfl, rfl, rfl⟩ := trodAll_nil r1
  obtain rfl : args = #[v0, v1] := by cases args; simp_all
  obtain ⟨rfl, rfl⟩ := trodVars_none hV
  have h0k := h0
  have hlt0 : ∀ x ∈ p0, x.block < W.heap.size := fun x hx => hW'.lt x (by simp [hx])
  obtain ⟨hh, ss, xx, vv, dd, rfl⟩ := open_opt (ti := 3) (tb := 4) Try.underlying33 (by kernel_rfl) (by kernel_rfl) Try.underlying4 Try.underlying3 Try.underlying3 Try.underlying3 Try.underlying4 (hval 0 33 v0 rfl rfl) h0
  obtain ⟨a1, rfl, rfl, rfl, w1⟩ := open_int Try.underlying3 (hval 1 3 v1 rfl rfl) h1
  refine (tells_any hh ss xx vv dd a1 W).mono fun e W' ⟨he, bel⟩ => ?_
  subst he
  exact ⟨_, rfl, _, _, _, [], _, [], hW', trodAll_mk1 (shut_bool Try.underlying4 _), (trodAll_cons_mk (Below.trod laidOut (by kernel_rfl) (of_decide_eq_true (by kernel_rfl)) h0k bel hlt0) (trodAll_cons_mk (shut_int Try.underlying3 w1) trodAll_mk0)), rfl, bel.frame _, fun h => by cases h⟩
theorem over : Rows.ednsTellsRow.holds Try.pinned (OpenSpec.ofChange Rows.ednsTellsSpec) :=
  OpenClaim.holds_of_wide 4 Try.f4 rfl rfl rfl rfl rfl rfl rfl ⟨rfl, rfl, rfl, rfl, rfl⟩ rfl rfl rfl rfl rfl (by kernel_rfl) Try.func4 (by kernel_rfl)
    (of_decide_eq_true (by kernel_rfl)) (by unfold Func.isWrapper; first | (rw [if_pos (by decide +kernel)]; kernel_rfl) | (rw [if_neg (by decide +kernel)]; exact ⟨rfl, rfl⟩))
    (fun os started H enc _ => lifted os started H enc)
theorem proved : Rows.EdnsTellsSaid := over

end Go.Proofs.Ytnbngkecabacaaa.Tells
namespace Go.Proofs.Ytnbngkecabacaaa
/-- The row, under a short name, for the claim. -/
theorem ednsTells_holds : Rows.EdnsTellsSaid := Tells.proved
end Go.Proofs.Ytnbngkecabacaaa
