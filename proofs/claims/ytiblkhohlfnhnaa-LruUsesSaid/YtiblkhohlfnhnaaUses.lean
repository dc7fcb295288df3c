/- Whoever is touched, one behind the other: who is cut away was touched ahead of all who are left: the law's function tells true at every list and any number; no condition. -/
import Derived.Test.YtiblkhohlfnhnaaRows
import Derived.WalkKit
import Derived.ProofKit
import Derived.OpenShut
import Derived.ShutString
import Derived.ChangeOld
import Derived.Below
import Derived.SizedLaws
import Derived.Carry
import Derived.Lib.SmallJoins
import Derived.Deep.Slices
import Derived.Test.YtiblkhohlfnhnaaLm
namespace Go.Proofs.Ytiblkhohlfnhnaa.Uses
open Go.ChangeShapes Go.WideShapes Go.ChangeAt Go.RowKit
open Go.ChangeMaps (open_string shut_string)
set_option linter.unusedVariables false
open Go.Joins Go.Deep
open Go.Proofs.Ytiblkhohlfnhnaa.La
open Go.Proofs.Ytiblkhohlfnhnaa.Lb
open Go.Proofs.Ytiblkhohlfnhnaa.Lc
open Go.Proofs.Ytiblkhohlfnhnaa.Ld
open Go.Proofs.Ytiblkhohlfnhnaa.Le
open Go.Proofs.Ytiblkhohlfnhnaa.Lf
open Go.Proofs.Ytiblkhohlfnhnaa.Lg
open Go.Proofs.Ytiblkhohlfnhnaa.Lh
open Go.Proofs.Ytiblkhohlfnhnaa.Li
open Go.Proofs.Ytiblkhohlfnhnaa.Lj
open Go.Proofs.Ytiblkhohlfnhnaa.Lm

theorem arg_i {H : Type} {enc : TypeId × Value → H} {W : World} {base : Nat} {sp : Nat → Bool} {held : Bool} {r : Reach} {b0 : Nat} {v : Value} {d : DataW H} {p : List MemPlace} (hval : Value.okWide Try.prog W r b0 22 v) (hd : DataW.Trod enc Try.prog W base sp held 22 v d p) :
    ∃ A n c, v = .slice A n c ∧ (n ≤ 200 → ∃ xs, Sv mki W A n c xs) := by
  obtain ⟨A, n, c, rfl⟩ := okWide_slice Try.underlying22 hval
  refine ⟨A, n, c, rfl, fun hn => ?_⟩
  obtain ⟨fuel, hf⟩ := hd
  rcases open_slice1 Try.underlying22 (by kernel_rfl) hf with ⟨hc, _⟩ | ⟨a, len, cap, m, k, V, D, Pl, hcs, _, hl, _, hm, hx, hi⟩
  · simp [Value.cells] at hc
    obtain ⟨rfl, rfl, rfl⟩ := hc
    exact ⟨[], rfl, by omega, by omega, .inl rfl⟩
  · simp [Value.cells] at hcs
    obtain ⟨rfl, rfl, rfl⟩ := hcs
    have hlm : n ≤ m := by rw [hm]; split <;> omega
    obtain ⟨f, hf⟩ := choose_lt (α := Int) (n := n) (p := fun i x => W.cell? (a.add i) = some (.int .i64 x)) (fun i hi' => by
      obtain ⟨h1, h2⟩ := hi i (by omega)
      obtain ⟨z, hz, _, _⟩ := DataW.trod_int Try.underlying3 h2
      simp at hz
      exact ⟨z, by rw [h1, hz]⟩)
    refine ⟨(List.range n).map f, by simp, hl, by omega, ?_⟩
    by_cases h0 : n = 0
    · exact .inl h0
    · right
      obtain ⟨b, off, spot⟩ := a
      have c0 := hf 0 (by omega)
      have hspot : spot = none := by simpa [Addr.add] using World.cell?_spot c0
      subst hspot
      refine ⟨b, off, rfl, ?_, ?_⟩
      · rcases Nat.lt_or_ge b W.heap.size with hlt | hge
        · exact hlt
        · exfalso
          simp [World.cell?, Addr.add, Array.getElem?_eq_none hge] at c0
      · intro k x hx
        rw [List.getElem?_map] at hx
        have hk : k < n := by
          rcases Nat.lt_or_ge k n with h | h
          · exact h
          · rw [List.getElem?_eq_none (by simpa using h)] at hx; cases hx
        rw [List.getElem?_range hk] at hx
        injection hx with hx
        subst hx
        have := hf k hk
        rw [addr_add] at this
        exact this

theorem uses_any {A : Option Addr} {n c : Nat} (k : Int) {w : World} (h : n ≤ 200 → ∃ xs, Sv mki w A n c xs) : Calls Try.prog 4 #[.slice A n c, .int .i64 k] w fun e w' => e = .returned (.bool true) ∧ Below w.heap.size w w' := by
  by_cases hn : n ≤ 200
  · obtain ⟨xs, sv⟩ := h hn
    by_cases hk : k < 0
    · exact uses_neg A n c k xs w hn sv hk
    · exact uses_pos A n c k xs w hn sv (by omega)
  · exact uses_big A n c k w (by omega)

theorem own : ownKnob Try.prog.godebug = none := by kernel_rfl
theorem laidOut : laidOutB Try.prog = true := by kernel_rfl
set_option maxRecDepth 100000 in
theorem lifted (os : Os) (started : os.Started) (H : Type) (enc : TypeId × Value → H) :
    ReturnsInHanded {} Try.checked os 4 .any (Rows.lruUsesSpec.pre6 enc Try.prog Try.f4 Rows.lruUsesRow.domain false) (Rows.lruUsesSpec.post enc Try.prog Try.f4 false true false false) := by
  refine returnsInHanded_of_change_sized (C := Try.checked) own started (by kernel_rfl) Try.func4
    (ChangeSpec.witness6 (enc := enc) (C := Try.checked) false ⟨#[], #[.slice none 0 0, .int .i64 0], []⟩ 8 (by kernel_rfl) (by kernel_rfl) (by kernel_rfl) (by kernel_rfl)) ?_
  intro W base args ds gs before hval0 hW hcnd hsz0 _
  have hsz : (DataW.weightsEach Try.prog (Try.f4.params.toList ++ Rows.lruUsesSpec.plain.varTypes Try.prog) (ds ++ gs)).all (· ≤ reachBytes) = true := hsz0
  have hval : ∀ (j : Nat) t v, Try.f4.params[j]? = some t → args[j]? = some v → Value.okWide Try.prog W .any base t v := hval0
  have hW' := hW
  obtain ⟨p, q, hA0, hV, rfl, hfz, hnd⟩ := hW
  have hA : DataW.TrodAll enc Try.prog W 0 (fun _ => true) true Try.f4.params.toList args.toList ds p := hA0
  rw [Try.params4] at hA hval hsz
  obtain ⟨v0, vs0, d0, ds0, p0, q0, hargs, rfl, rfl, h0, r0⟩ := trodAll_cons hA
  obtain ⟨v1, vs1, d1, ds1, p1, q1, rfl, rfl, rfl, h1, r1⟩ := trodAll_cons r0
  obtain ⟨rfl, rfl, rfl⟩ := trodAll_nil r1
  obtain rfl : args = #[v0, v1] := by cases args; simp_all
  obtain ⟨rfl, rfl⟩ := trodVars_none hV
  have h0k := h0
  have hlt0 : ∀ x ∈ p0, x.block < W.heap.size := fun x hx => hW'.lt x (by simp [hx])
  obtain ⟨A0, n0, c0, rfl, hs0⟩ := arg_i (hval 0 22 v0 rfl rfl) h0
  obtain ⟨a1, rfl, rfl, rfl, w1⟩ := open_int Try.underlying3 (hval 1 3 v1 rfl rfl) h1
  refine (uses_any a1 hs0).mono fun e W' ⟨he, bel⟩ => ?_
  subst he
  exact ⟨_, rfl, _, _, _, [], _, [], hW', trodAll_mk1 (shut_bool Try.underlying4 _), (trodAll_cons_mk (Below.trod laidOut (by kernel_rfl) (of_decide_eq_true (by kernel_rfl)) h0k bel hlt0) (trodAll_cons_mk (shut_int Try.underlying3 w1) trodAll_mk0)), rfl, bel.frame _, fun h => by cases h⟩
theorem over : Rows.lruUsesRow.holds Try.pinned (OpenSpec.ofChange Rows.lruUsesSpec) :=
  OpenClaim.holds_of_wide 4 Try.f4 rfl rfl rfl rfl rfl rfl rfl ⟨rfl, rfl, rfl, rfl, rfl⟩ rfl rfl rfl rfl rfl (by kernel_rfl) Try.func4 (by kernel_rfl)
    (of_decide_eq_true (by kernel_rfl)) (by unfold Func.isWrapper; first | (rw [if_pos (by decide +kernel)]; kernel_rfl) | (rw [if_neg (by decide +kernel)]; exact ⟨rfl, rfl⟩))
    (fun os started H enc _ => lifted os started H enc)
theorem proved : Rows.LruUsesSaid := over

end Go.Proofs.Ytiblkhohlfnhnaa.Uses
namespace Go.Proofs.Ytiblkhohlfnhnaa
/-- The row, under a short name, for the claim. -/
theorem lruUses_holds : Rows.LruUsesSaid := Uses.proved
end Go.Proofs.Ytiblkhohlfnhnaa
