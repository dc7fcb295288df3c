/- How much any section is believed, whether any rank takes the place of any other one, and whether it is told, is what the document's answer says: the law's function tells true at every section, either bool and every pair of ranks; no condition. -/
import Derived.Test.YtggpdlbffhoogaaRows
import Derived.WalkKit
import Derived.ProofKit
import Derived.OpenShut
import Derived.ShutString
import Derived.ChangeOld
import Derived.Below
import Derived.SizedLaws
import Derived.Carry
import Derived.Test.YtggpdlbffhoogaaRk
import Derived.Deep.RegionHeld3
namespace Go.Proofs.Ytggpdlbffhoogaa.Tells
open Go.ChangeShapes Go.WideShapes Go.ChangeAt Go.RowKit
open Go.ChangeMaps (open_string shut_string)
set_option linter.unusedVariables false
open Go.Proofs.Ytggpdlbffhoogaa.Rk

theorem okWide_arr2 {P : Program} {W : World} {r : Reach} {b0 : Nat} {t e : TypeId} {v : Value} (hu : P.underlying t = some (.array 2 e)) (hc : P.cellsOf t = 2) (h : Value.okWide P W r b0 t v) : ∃ x y : Value, v = .agg #[x, y] := by
  simp only [Value.okWide, hu] at h
  obtain ⟨cs, h1, h2, _⟩ := h
  obtain ⟨l⟩ := cs
  match l, h2.trans hc with
  | [x, y], _ => exact ⟨x, y, h1⟩

/-- An array of two whole numbers, opened. -/
theorem open_arr2 {H : Type} {enc : TypeId × Value → H} {P : Program} {W : World} {base : Nat} {sp : Nat → Bool} {held : Bool} {r : Reach} {b0 : Nat} {t e : TypeId} {k : IntKind} {v : Value} {d : DataW H} {ps : List MemPlace}
    (hu : P.underlying t = some (.array 2 e)) (hc : P.cellsOf t = 2) (he : P.underlying e = some (.int k)) (hce : P.cellsOf e = 1) (h : Value.okWide P W r b0 t v) (hd : DataW.Trod enc P W base sp held t v d ps) :
    ∃ x y : Int, v = .agg #[.int k x, .int k y] ∧ (Lit.int k x).wf = true ∧ (Lit.int k y).wf = true := by
  obtain ⟨vx, vy, rfl⟩ := okWide_arr2 hu hc h
  obtain ⟨fuel, hf⟩ := hd
  obtain ⟨ys, m, _, _, _, hl, hg⟩ := DataW.trod_array hu hf
  match ys, hl with
  | [y0, y1], _ =>
    have g0 := hg 0 (by omega)
    have g1 := hg 1 (by omega)
    simp [hce, Value.cells] at g0 g1
    obtain ⟨x, e0, _, wx⟩ := DataW.trod_int he g0
    obtain ⟨y, e1, _, wy⟩ := DataW.trod_int he g1
    simp at e0 e1
    subst e0 e1
    exact ⟨x, y, rfl, wx, wy⟩

/-- What the region's worlds have in common: the boxed pair, and all that lay in w. -/
structure St (w : World) (r0 r1 : Int) (w' : World) : Prop where
  c0 : w'.cell? ⟨w.heap.size, 0, none⟩ = some (.int .i64 r0)
  c1 : w'.cell? ⟨w.heap.size, 1, none⟩ = some (.int .i64 r1)
  b : Below w.heap.size w w'
  s : w.heap.size < w'.heap.size

theorem St.of {w w' : World} {r0 r1 : Int} (h : w'.cell? ⟨w.heap.size, 0, none⟩ = some (.int .i64 r0) ∧ w'.cell? ⟨w.heap.size, 1, none⟩ = some (.int .i64 r1) ∧ Below w.heap.size w w' ∧ w.heap.size < w'.heap.size) : St w r0 r1 w' := ⟨h.1, h.2.1, h.2.2.1, h.2.2.2⟩
theorem St.to {w w' : World} {r0 r1 : Int} (h : St w r0 r1 w') : w'.cell? ⟨w.heap.size, 0, none⟩ = some (.int .i64 r0) ∧ w'.cell? ⟨w.heap.size, 1, none⟩ = some (.int .i64 r1) ∧ Below w.heap.size w w' ∧ w.heap.size < w'.heap.size := ⟨h.c0, h.c1, h.b, h.s⟩

theorem St.next {w w' w'' : World} {r0 r1 : Int} (h : St w r0 r1 w') (b : Below w'.heap.size w' w'') : St w r0 r1 w'' :=
  ⟨(b.cell (p := ⟨w.heap.size, 0, none⟩) h.s).trans h.c0, (b.cell (p := ⟨w.heap.size, 1, none⟩) h.s).trans h.c1, h.b.trans (b.mono h.b.size), Nat.lt_of_lt_of_le h.s b.size⟩

theorem rankS {s : Int} {aa : Bool} {x : Int} (hx : rk s aa = x) {w w' : World} {r0 r1 : Int} (h : St w r0 r1 w') : Calls Try.prog 6 #[.int .i64 s, .bool aa] w' fun e w'' => e = .returned (.int .i64 x) ∧ St w r0 r1 w'' := by
  rw [← hx]
  exact (rank_any s aa w').mono fun e w'' ⟨he, hb⟩ => ⟨he, h.next hb⟩
theorem liveS {w w' : World} {r0 r1 : Int} (h : St w r0 r1 w') : Calls Try.prog 12 #[] w' fun e w'' => e = .returned (.bool true) ∧ St w r0 r1 w'' :=
  (live_any w').mono fun e w'' ⟨he, hb⟩ => ⟨he, h.next hb⟩
theorem refRankE {s : Int} {aa : Bool} {x : Int} (hx : rk s aa = x) (w : World) : Calls Try.prog 7 #[.int .i64 s, .bool aa] w fun e w' => e = .returned (.int .i64 x) ∧ w = w' := by
  rw [← hx]; exact refRank_any s aa w
theorem overE {o n : Int} {l r : Bool} (h : overB o l n = r) (w : World) : Calls Try.prog 8 #[.int .i64 o, .bool l, .int .i64 n] w fun e w' => e = .returned (.bool r) ∧ w = w' := by
  rw [← h]; exact over_any o n l w
theorem refOverE {o n : Int} {l r : Bool} (h : overB o l n = r) (w : World) : Calls Try.prog 9 #[.int .i64 o, .bool l, .int .i64 n] w fun e w' => e = .returned (.bool r) ∧ w = w' := by
  rw [← h]; exact refOver_any o n l w
theorem toldE {o : Int} {r : Bool} (h : toldB o = r) (w : World) : Calls Try.prog 10 #[.int .i64 o] w fun e w' => e = .returned (.bool r) ∧ w = w' := by
  rw [← h]; exact told_any o w
theorem refToldE {o : Int} {r : Bool} (h : toldB o = r) (w : World) : Calls Try.prog 11 #[.int .i64 o] w fun e w' => e = .returned (.bool r) ∧ w = w' := by
  rw [← h]; exact refTold_any o w

set_option maxHeartbeats 4000000 in
theorem tells_any (s r0 r1 : Int) (aa : Bool) (w : World) : Calls Try.prog 3 #[.int .i64 s, .bool aa, .agg #[.int .i64 r0, .int .i64 r1]] w fun e w' => e = .returned (.bool true) ∧ Below w.heap.size w w' := by
  obtain ⟨x, hx⟩ : ∃ x, rk s aa = x := ⟨_, rfl⟩
  obtain ⟨y, hy⟩ : ∃ y, overB r0 aa r1 = y := ⟨_, rfl⟩
  obtain ⟨z, hz⟩ : ∃ z, toldB r0 = z := ⟨_, rfl⟩
  have C6 := fun w' (h : St w r0 r1 w') => rankS hx h
  have C12 := fun w' (h : St w r0 r1 w') => liveS h
  have C7 := refRankE hx
  have C8 := overE hy
  have C9 := refOverE hy
  have C10 := toldE hz
  have C11 := refToldE hz
  clear hx hy hz
  go_enter Try.func3, Try.ntmps3
  go_wp2
  go_region_held3 (fun w' => w'.cell? ⟨w.heap.size, 0, none⟩ = some (.int .i64 r0) ∧ w'.cell? ⟨w.heap.size, 1, none⟩ = some (.int .i64 r1) ∧ Below w.heap.size w w' ∧ w.heap.size < w'.heap.size)
    (first | assumption | exact ⟨by simp, by simp, (Below.refl _ _).alloc (Nat.le_refl _) _, by simp⟩ | exact ⟨by simp, by simp, ((Below.refl _ _).alloc (Nat.le_refl _) _).drew, by simp⟩)
    (first
      | (go_at_call 6; refine (C6 _ ?hs).mono ?_; (case hs => exact St.of (by assumption)); rintro e w' ⟨rfl, h1⟩; have h2 := h1.to; clear h1)
      | (go_at_call 7; refine (C7 _).mono ?_; rintro e w' ⟨rfl, rfl⟩)
      | (go_at_call 8; refine (C8 _).mono ?_; rintro e w' ⟨rfl, rfl⟩)
      | (go_at_call 9; refine (C9 _).mono ?_; rintro e w' ⟨rfl, rfl⟩)
      | (go_at_call 10; refine (C10 _).mono ?_; rintro e w' ⟨rfl, rfl⟩)
      | (go_at_call 11; refine (C11 _).mono ?_; rintro e w' ⟨rfl, rfl⟩)
      | (go_at_call 12; refine (C12 _ ?hs).mono ?_; (case hs => exact St.of (by assumption)); rintro e w' ⟨rfl, h1⟩; have h2 := h1.to; clear h1))
  all_goals go_wp2
  all_goals go_ret
  all_goals (rename_i hh; exact ⟨rfl, hh.2.2.1⟩)

theorem own : ownKnob Try.prog.godebug = none := by kernel_rfl
theorem laidOut : laidOutB Try.prog = true := by kernel_rfl
set_option maxRecDepth 100000 in
theorem lifted (os : Os) (started : os.Started) (H : Type) (enc : TypeId × Value → H) :
    ReturnsInHanded {} Try.checked os 3 .any (Rows.rankTellsSpec.pre6 enc Try.prog Try.f3 Rows.rankTellsRow.domain false) (Rows.rankTellsSpec.post enc Try.prog Try.f3 false true false false) := by
  refine returnsInHanded_of_change_sized (C := Try.checked) own started (by kernel_rfl) Try.func3
    (ChangeSpec.witness6 (enc := enc) (C := Try.checked) false ⟨#[], #[.int .i64 0, .bool false, .agg #[.int .i64 0, .int .i64 0]], []⟩ 8 (by kernel_rfl) (by kernel_rfl) (by kernel_rfl) (by kernel_rfl)) ?_
  intro W base args ds gs before hval0 hW hcnd hsz0 _
  have hsz : (DataW.weightsEach Try.prog (Try.f3.params.toList ++ Rows.rankTellsSpec.plain.varTypes Try.prog) (ds ++ gs)).all (· ≤ reachBytes) = true := hsz0
  have hval : ∀ (j : Nat) t v, Try.f3.params[j]? = some t → args[j]? = some v → Value.okWide Try.prog W .any base t v := hval0
  have hW' := hW
  obtain ⟨p, q, hA0, hV, rfl, hfz, hnd⟩ := hW
  have hA : DataW.TrodAll enc Try.prog W 0 (fun _ => true) true Try.f3.params.toList args.toList ds p := hA0
  rw [Try.params3] at hA hval hsz
  obtain ⟨v0, vs0, d0, ds0, p0, q0, hargs, rfl, rfl, h0, r0⟩ := trodAll_cons hA
  obtain ⟨v1, vs1, d1, ds1, p1, q1, rfl, rfl, rfl, h1, r1⟩ := trodAll_cons r0
  obtain ⟨v2, vs2, d2, ds2, p2, q2, rfl, rfl, rfl, h2, r2⟩ := trodAll_cons r1
  obtain ⟨rfl, rfl, rfl⟩ := trodAll_nil r2
  obtain rfl : args = #[v0, v1, v2] := by cases args; simp_all
  obtain ⟨rfl, rfl⟩ := trodVars_none hV
  have h2k := h2
  have hlt2 : ∀ x ∈ p2, x.block < W.heap.size := fun x hx => hW'.lt x (by simp [hx])
  obtain ⟨a0, rfl, rfl, rfl, w0⟩ := open_int Try.underlying3 (hval 0 3 v0 rfl rfl) h0
  obtain ⟨a1, rfl, rfl, rfl⟩ := open_bool Try.underlying4 (hval 1 4 v1 rfl rfl) h1
  obtain ⟨x0, x1, rfl, wx0, wx1⟩ := open_arr2 Try.underlying22 (by kernel_rfl) Try.underlying3 (by kernel_rfl) (hval 2 22 v2 rfl rfl) h2
  refine (tells_any a0 x0 x1 a1 W).mono fun e W' ⟨he, bel⟩ => ?_
  subst he
  exact ⟨_, rfl, _, _, _, [], _, [], hW', trodAll_mk1 (shut_bool Try.underlying4 _), (trodAll_cons_mk (shut_int Try.underlying3 w0) (trodAll_cons_mk (shut_bool Try.underlying4 _) (trodAll_cons_mk (Below.trod laidOut (by kernel_rfl) (of_decide_eq_true (by kernel_rfl)) h2k bel hlt2) trodAll_mk0))), rfl, bel.frame _, fun h => by cases h⟩
theorem over : Rows.rankTellsRow.holds Try.pinned (OpenSpec.ofChange Rows.rankTellsSpec) :=
  OpenClaim.holds_of_wide 3 Try.f3 rfl rfl rfl rfl rfl rfl rfl ⟨rfl, rfl, rfl, rfl, rfl⟩ rfl rfl rfl rfl rfl (by kernel_rfl) Try.func3 (by kernel_rfl)
    (of_decide_eq_true (by kernel_rfl)) (by unfold Func.isWrapper; first | (rw [if_pos (by decide +kernel)]; kernel_rfl) | (rw [if_neg (by decide +kernel)]; exact ⟨rfl, rfl⟩))
    (fun os started H enc _ => lifted os started H enc)
theorem proved : Rows.RankTellsSaid := over

end Go.Proofs.Ytggpdlbffhoogaa.Tells
namespace Go.Proofs.Ytggpdlbffhoogaa
/-- The row, under a short name, for the claim. -/
theorem rankTells_holds : Rows.RankTellsSaid := Tells.proved
end Go.Proofs.Ytggpdlbffhoogaa
