/- A message as an argument: its slices' records as a list. -/
import Derived.Test.YtnbngkecabacaaaRows
import Derived.WalkKit
import Derived.ProofKit
import Derived.OpenShut
import Derived.ShutString
import Derived.ChangeOld
import Derived.Below
import Derived.SizedLaws
import Derived.Carry
import Derived.Test.YtnbngkecabacaaaEv
import Derived.Lib.Hide
import Derived.Deep.RegionHeld3
import Derived.Test.YtnbngkecabacaaaEx
import Derived.Lib.SmallJoins
import Derived.Test.YtnbngkecabacaaaEt
namespace Go.Proofs.Ytnbngkecabacaaa.Em
open Go.ChangeShapes Go.WideShapes Go.ChangeAt Go.RowKit
open Go.ChangeMaps (open_string shut_string)
set_option linter.unusedVariables false
open Go.Proofs.Ytnbngkecabacaaa.Fb Go.Proofs.Ytnbngkecabacaaa.Fl Go.Proofs.Ytnbngkecabacaaa.Fr Go.Proofs.Ytnbngkecabacaaa.Ed Go.Proofs.Ytnbngkecabacaaa.Ef Go.Proofs.Ytnbngkecabacaaa.Eg Go.Proofs.Ytnbngkecabacaaa.Ev
open Go.Proofs.Ytnbngkecabacaaa.Ex
open Go.Joins Go.Deep
open Go.Proofs.Ytnbngkecabacaaa.Ey Go.Proofs.Ytnbngkecabacaaa.Ez Go.Proofs.Ytnbngkecabacaaa.Eu Go.Proofs.Ytnbngkecabacaaa.Et


section
variable {H : Type} {enc : TypeId × Value → H} {W : World} {base : Nat} {sp : Nat → Bool} {held : Bool}

theorem addr_add (b off i : Nat) : Addr.add ⟨b, off, none⟩ i = ⟨b, off + i, none⟩ := by
  unfold Addr.add
  split <;> simp_all
theorem z3 : Try.prog.cellsOf 3 = 1 := by kernel_rfl
theorem z9 : Try.prog.cellsOf 9 = 1 := by kernel_rfl
theorem z22 : Try.prog.cellsOf 22 = 1 := by kernel_rfl
theorem z23 : Try.prog.cellsOf 23 = 1 := by kernel_rfl
/-- One record's cells, read as a struct of type 37. -/
theorem rr_at {a : Addr} {n : Nat} {cs : List Value} {x : DataW H × List MemPlace} (hc : W.cells? base a 5 = some cs) (h : DataW.trod enc Try.prog W base sp held n 37 cs = some x) :
    ∃ r : RV, W.cell? (a.add 0) = some (.string r.name) ∧ W.cell? (a.add 1) = some (.int .i64 r.type) ∧ W.cell? (a.add 2) = some (.int .i64 r.cls) ∧ W.cell? (a.add 3) = some (.int .i64 r.ttl) ∧ W.cell? (a.add 4) = some (.string r.data) := by
  obtain ⟨_, hlen, hat⟩ := World.cells?_some hc
  match cs, hlen with
  | [c0, c1, c2, c3, c4], _ =>
    obtain ⟨ys, m, _, _, _, hyl, hg⟩ := DataW.trod_struct Try.underlying37 h
    match ys, hyl with
    | [y0, y1, y2, y3, y4], _ =>
      have t0 : DataW.trod enc Try.prog W base sp held m 9 [c0] = some y0 := by simpa [Value.cells, z3, z9, z22, z23] using hg 0 _ rfl
      have t1 : DataW.trod enc Try.prog W base sp held m 3 [c1] = some y1 := by simpa [Value.cells, z3, z9, z22, z23] using hg 1 _ rfl
      have t2 : DataW.trod enc Try.prog W base sp held m 3 [c2] = some y2 := by simpa [Value.cells, z3, z9, z22, z23] using hg 2 _ rfl
      have t3 : DataW.trod enc Try.prog W base sp held m 3 [c3] = some y3 := by simpa [Value.cells, z3, z9, z22, z23] using hg 3 _ rfl
      have t4 : DataW.trod enc Try.prog W base sp held m 9 [c4] = some y4 := by simpa [Value.cells, z3, z9, z22, z23] using hg 4 _ rfl
      obtain ⟨s0, a0, _⟩ := DataW.trod_string Try.underlying9 t0
      obtain ⟨s1, a1, _, _⟩ := DataW.trod_int Try.underlying3 t1
      obtain ⟨s2, a2, _, _⟩ := DataW.trod_int Try.underlying3 t2
      obtain ⟨s3, a3, _, _⟩ := DataW.trod_int Try.underlying3 t3
      obtain ⟨s4, a4, _⟩ := DataW.trod_string Try.underlying9 t4
      simp at a0 a1 a2 a3 a4
      subst a0 a1 a2 a3 a4
      exact ⟨⟨s0, s1, s2, s3, s4⟩, hat 0 (by omega), hat 1 (by omega), hat 2 (by omega), hat 3 (by omega), hat 4 (by omega)⟩

theorem q_at {a : Addr} {n : Nat} {cs : List Value} {x : DataW H × List MemPlace} (hc : W.cells? base a 3 = some cs) (h : DataW.trod enc Try.prog W base sp held n 51 cs = some x) :
    ∃ nm, W.cell? (a.add 0) = some (.string nm) := by
  obtain ⟨_, hlen, hat⟩ := World.cells?_some hc
  match cs, hlen with
  | [c0, c1, c2], _ =>
    obtain ⟨ys, m, _, _, _, hyl, hg⟩ := DataW.trod_struct Try.underlying51 h
    match ys, hyl with
    | [y0, y1, y2], _ =>
      have t0 : DataW.trod enc Try.prog W base sp held m 9 [c0] = some y0 := by simpa [Value.cells, z3, z9, z22, z23] using hg 0 _ rfl
      obtain ⟨s0, a0, _⟩ := DataW.trod_string Try.underlying9 t0
      simp at a0
      subst a0
      exact ⟨s0, hat 0 (by omega)⟩

instance : Inhabited RV := ⟨⟨⟨#[]⟩, 0, 0, 0, ⟨#[]⟩⟩⟩

theorem reach_47 : reachBytes = 140737488351232 := by kernel_rfl

/-- A slice of records, as the argument holds it. -/
theorem sl_of {fuel : Nat} {c : Value} {y : DataW H × List MemPlace} (h : DataW.trod enc Try.prog W base sp held fuel 23 [c] = some y) (hz : ∀ n ∈ y.1.weights Try.prog 23, n ≤ reachBytes) :
    ∃ A n c0 rs, c = .slice A n c0 ∧ Sl W A n c0 rs ∧ n * 56 ≤ 140737488351232 := by
  rcases open_slice Try.underlying23 h with ⟨hc, _⟩ | ⟨a, len, cap, m, n, D, Pl, hcs, _, hl, _, hm, hx, hi⟩
  · simp at hc
    exact ⟨none, 0, 0, [], hc, ⟨rfl, by omega, by omega, .inl rfl⟩, by omega⟩
  · simp at hcs
    have hC : Try.prog.cellsOf 37 = 5 := by kernel_rfl
    rw [hC] at hi
    have hlm : len ≤ m := by rw [hm]; split <;> omega
    obtain ⟨f, hf⟩ := choose_lt (α := RV) (n := len) (p := fun i r => W.cell? ((a.add (i * 5)).add 0) = some (.string r.name) ∧ W.cell? ((a.add (i * 5)).add 1) = some (.int .i64 r.type) ∧ W.cell? ((a.add (i * 5)).add 2) = some (.int .i64 r.cls) ∧ W.cell? ((a.add (i * 5)).add 3) = some (.int .i64 r.ttl) ∧ W.cell? ((a.add (i * 5)).add 4) = some (.string r.data)) (fun i hi' => by
      obtain ⟨cs', h1, h2⟩ := hi i (by omega)
      exact rr_at h1 h2)
    have hby : (len + (m - len)) * 56 ≤ reachBytes := by
      have := hz ((len + (m - len)) * Try.prog.bytesOf 37) (by rw [hx]; simp [DataW.weights, Try.underlying23])
      rw [(by kernel_rfl : Try.prog.bytesOf 37 = 56)] at this
      exact this
    rw [reach_47] at hby
    refine ⟨some a, len, cap, (List.range len).map f, hcs, ⟨by simp, hl, by omega, ?_⟩, by omega⟩
    by_cases h0 : len = 0
    · exact .inl h0
    · right
      obtain ⟨b, off, spot⟩ := a
      have c0 := (hf 0 (by omega)).1
      have hspot : spot = none := by simpa [Addr.add] using World.cell?_spot c0
      subst hspot
      refine ⟨b, off, rfl, ?_, ?_⟩
      · rcases Nat.lt_or_ge b W.heap.size with hlt | hge
        · exact hlt
        · exfalso
          simp [World.cell?, Addr.add, Array.getElem?_eq_none hge] at c0
      · intro k r hr
        rw [List.getElem?_map] at hr
        have hk : k < len := by
          rcases Nat.lt_or_ge k len with h | h
          · exact h
          · rw [List.getElem?_eq_none (by simpa using h)] at hr; cases hr
        rw [List.getElem?_range hk] at hr
        injection hr with hr
        subst hr
        have := hf k hk
        simp only [addr_add] at this
        exact this

theorem q_of {fuel : Nat} {c : Value} {y : DataW H × List MemPlace} (h : DataW.trod enc Try.prog W base sp held fuel 22 [c] = some y) (hz : ∀ n ∈ y.1.weights Try.prog 22, n ≤ reachBytes) :
    ∃ A n c0, c = .slice A n c0 ∧ Qn W A n := by
  rcases open_slice Try.underlying22 h with ⟨hc, _⟩ | ⟨a, len, cap, m, n, D, Pl, hcs, _, hl, _, hm, hx, hi⟩
  · simp at hc
    exact ⟨none, 0, 0, hc, by omega, .inl rfl⟩
  · simp at hcs
    have hC : Try.prog.cellsOf 51 = 3 := by kernel_rfl
    rw [hC] at hi
    have hlm : len ≤ m := by rw [hm]; split <;> omega
    have hf : ∀ i, i < len → ∃ nm, W.cell? ((a.add (i * 3)).add 0) = some (.string nm) := fun i hi' => by
      obtain ⟨cs', h1, h2⟩ := hi i (by omega)
      exact q_at h1 h2
    have hby : (len + (m - len)) * 32 ≤ reachBytes := by
      have := hz ((len + (m - len)) * Try.prog.bytesOf 51) (by rw [hx]; simp [DataW.weights, Try.underlying22])
      rw [(by kernel_rfl : Try.prog.bytesOf 51 = 32)] at this
      exact this
    rw [reach_47] at hby
    refine ⟨some a, len, cap, hcs, by omega, ?_⟩
    by_cases h0 : len = 0
    · exact .inl h0
    · right
      obtain ⟨b, off, spot⟩ := a
      obtain ⟨nm, c0⟩ := hf 0 (by omega)
      have hspot : spot = none := by simpa [Addr.add] using World.cell?_spot c0
      subst hspot
      refine ⟨b, off, rfl, ?_, ?_⟩
      · rcases Nat.lt_or_ge b W.heap.size with hlt | hge
        · exact hlt
        · exfalso
          simp [World.cell?, Addr.add, Array.getElem?_eq_none hge] at c0
      · intro k hk
        have := hf k hk
        simp only [addr_add] at this
        exact this

/-- A message, as the argument holds it. -/
theorem open_msg {r : Reach} {b0 : Nat} {vv : Value} {dd : DataW H} {p : List MemPlace} (hv : Value.okWide Try.prog W r b0 25 vv) (hd : DataW.Trod enc Try.prog W base sp held 25 vv dd p) (hz : ∀ n ∈ dd.weights Try.prog 25, n ≤ reachBytes) :
    ∃ (id bits : Int) (Q A1 A2 A3 : Option Addr) (qn qc n1 c1 n2 c2 n3 c3 : Nat) (an ns ar : List RV), vv = .agg #[.int .i64 id, .int .i64 bits, .slice Q qn qc, .slice A1 n1 c1, .slice A2 n2 c2, .slice A3 n3 c3] ∧ Qn W Q qn ∧ Sl W A1 n1 c1 an ∧ Sl W A2 n2 c2 ns ∧ Sl W A3 n3 c3 ar ∧ n3 * 56 ≤ 140737488351232 := by
  obtain ⟨cs, rfl, hsz⟩ := okWide_struct Try.underlying25 hv
  obtain ⟨l⟩ := cs
  have hC : Try.prog.cellsOf 25 = 6 := by kernel_rfl
  match l, hsz.trans hC with
  | [c0, c1, c2, c3, c4, c5], _ =>
    obtain ⟨fuel, hf⟩ := hd
    obtain ⟨xs, n, _, hx, _, hlen, hg⟩ := DataW.trod_struct Try.underlying25 hf
    match xs, hlen with
    | [y0, y1, y2, y3, y4, y5], _ =>
      simp only [Prod.mk.injEq] at hx
      obtain ⟨rfl, _⟩ := hx
      have hw : ∀ (j : Nat) (t : TypeId) (y : DataW H × List MemPlace), [3, 3, 22, 23, 23, 23][j]? = some t → [y0, y1, y2, y3, y4, y5][j]? = some y → ∀ n ∈ y.1.weights Try.prog t, n ≤ reachBytes := fun j t y ht hy n hn => by
        refine hz n ?_
        have hm := DataW.weights_mem_each (ts := [3, 3, 22, 23, 23, 23]) (ds := [y0, y1, y2, y3, y4, y5].map (·.1)) (j := j) (t := t) (d := y.1) ht (by rw [List.getElem?_map, hy]; rfl) n hn
        simpa [DataW.weights, Try.underlying25] using hm
      have t0 : DataW.trod enc Try.prog W base sp held n 3 [c0] = some y0 := by simpa [Value.cells, z3, z9, z22, z23] using hg 0 _ rfl
      have t1 : DataW.trod enc Try.prog W base sp held n 3 [c1] = some y1 := by simpa [Value.cells, z3, z9, z22, z23] using hg 1 _ rfl
      have t2 : DataW.trod enc Try.prog W base sp held n 22 [c2] = some y2 := by simpa [Value.cells, z3, z9, z22, z23] using hg 2 _ rfl
      have t3 : DataW.trod enc Try.prog W base sp held n 23 [c3] = some y3 := by simpa [Value.cells, z3, z9, z22, z23] using hg 3 _ rfl
      have t4 : DataW.trod enc Try.prog W base sp held n 23 [c4] = some y4 := by simpa [Value.cells, z3, z9, z22, z23] using hg 4 _ rfl
      have t5 : DataW.trod enc Try.prog W base sp held n 23 [c5] = some y5 := by simpa [Value.cells, z3, z9, z22, z23] using hg 5 _ rfl
      obtain ⟨id, a0, _, _⟩ := DataW.trod_int Try.underlying3 t0
      obtain ⟨bits, a1, _, _⟩ := DataW.trod_int Try.underlying3 t1
      obtain ⟨Q, qn, qc, rfl, q⟩ := q_of t2 (hw 2 _ _ rfl rfl)
      obtain ⟨A1, n1, c1', an, rfl, s1, b1⟩ := sl_of t3 (hw 3 _ _ rfl rfl)
      obtain ⟨A2, n2, c2', ns, rfl, s2, b2⟩ := sl_of t4 (hw 4 _ _ rfl rfl)
      obtain ⟨A3, n3, c3', ar, rfl, s3, b3⟩ := sl_of t5 (hw 5 _ _ rfl rfl)
      simp at a0 a1
      subst a0 a1
      exact ⟨id, bits, Q, A1, A2, A3, qn, qc, n1, _, n2, _, n3, _, an, ns, ar, rfl, q, s1, s2, s3, b3⟩
end

end Go.Proofs.Ytnbngkecabacaaa.Em
