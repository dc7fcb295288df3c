/- The law EdnsBack's function tells true: the walk. -/
import Derived.Test.YtnbngkecabacaaaEu
import Derived.WalkKit
import Derived.Below
import Derived.KernelRfl
import Derived.LoopTactic
import Derived.LoopN
import Derived.Outline
import Derived.Deep.RegionHeld3
import Derived.Lib.Hide
import Derived.Laws.Tables
import Derived.Laws.Rows
import Derived.Maps.AppendAt
import Derived.Deep.AppendLies
import Derived.RegionTactic
import Derived.OwnWalk
namespace Go.Proofs.Ytnbngkecabacaaa.Eb
open Go.RowKit Go.Proofs.Ytnbngkecabacaaa.Fb Go.Proofs.Ytnbngkecabacaaa.Fl Go.Proofs.Ytnbngkecabacaaa.Fr Go.Proofs.Ytnbngkecabacaaa.Ed
set_option linter.unusedVariables false
open Go.Proofs.Ytnbngkecabacaaa.Ef
open Go.Proofs.Ytnbngkecabacaaa.Eg
open Go.Proofs.Ytnbngkecabacaaa.Ev
open Go.Proofs.Ytnbngkecabacaaa.Ex
open Go.Proofs.Ytnbngkecabacaaa.Ey
open Go.Proofs.Ytnbngkecabacaaa.Ez
open Go.Proofs.Ytnbngkecabacaaa.Eu

def flat : List RV → List Value
  | [] => []
  | r :: l => .string r.name :: .int .i64 r.type :: .int .i64 r.cls :: .int .i64 r.ttl :: .string r.data :: flat l
theorem flat_len : ∀ l, (flat l).length = l.length * 5
  | [] => rfl
  | r :: l => by simp [flat, flat_len l]; omega
theorem flat_one : ∀ l, ∀ u ∈ flat l, u.oneCell' = true
  | [], u, h => by simp [flat] at h
  | r :: l, u, h => by
    simp only [flat, List.mem_cons] at h
    rcases h with rfl | rfl | rfl | rfl | rfl | h
    · rfl
    · rfl
    · rfl
    · rfl
    · rfl
    · exact flat_one l u h
theorem flat_cells (w : World) (b : Nat) : ∀ (l : List RV) (off : Nat), Row w b off l → ∀ (j : Nat) u, (flat l)[j]? = some u → w.cell? ⟨b, off + j, none⟩ = some u
  | [], off, _, j, u, h => by simp [flat] at h
  | r :: l, off, hr, j, u, h => by
    obtain ⟨e0, e1, e2, e3, e4⟩ := hr 0 r rfl
    simp only [Nat.zero_mul, Nat.add_zero] at e0 e1 e2 e3 e4
    match j, h with
    | 0, h => simp [flat] at h; subst h; exact e0
    | 1, h => simp [flat] at h; subst h; exact e1
    | 2, h => simp [flat] at h; subst h; exact e2
    | 3, h => simp [flat] at h; subst h; exact e3
    | 4, h => simp [flat] at h; subst h; exact e4
    | j + 5, h =>
      have h' : (flat l)[j]? = some u := by simpa [flat] using h
      have hd : Row w b (off + 1 * 5) l := hr.drop 1
      have := flat_cells w b l (off + 1 * 5) hd j u h'
      rw [show off + (j + 5) = off + 1 * 5 + j by omega]
      exact this
theorem flat_get : ∀ (l : List RV) (k : Nat) (r : RV), l[k]? = some r → (flat l)[k * 5]? = some (.string r.name) ∧ (flat l)[k * 5 + 1]? = some (.int .i64 r.type) ∧ (flat l)[k * 5 + 2]? = some (.int .i64 r.cls) ∧ (flat l)[k * 5 + 3]? = some (.int .i64 r.ttl) ∧ (flat l)[k * 5 + 4]? = some (.string r.data)
  | [], k, r, h => by simp at h
  | x :: l, 0, r, h => by simp at h; subst h; exact ⟨rfl, rfl, rfl, rfl, rfl⟩
  | x :: l, k + 1, r, h => by
    have := flat_get l k r (by simpa using h)
    simp only [flat]
    rw [show (k + 1) * 5 = k * 5 + 5 by omega]
    simpa using this
theorem flat_app : ∀ a b, flat (a ++ b) = flat a ++ flat b
  | [], b => rfl
  | r :: l, b => by simp [flat, flat_app l b]
theorem addr_add' (b off i : Nat) : Addr.add ⟨b, off, none⟩ i = ⟨b, off + i, none⟩ := by
  unfold Addr.add
  split <;> simp_all
theorem sl_set {w : World} {A : Option Addr} {n c : Nat} {rs : List RV} (h : Sl w A n c rs) {p : Addr} (hp : ∀ b off, A = some ⟨b, off, none⟩ → b ≠ p.block) (u : Value) : Sl (w.setCell p u) A n c rs := by
  obtain ⟨h1, h2, h3, h4⟩ := h
  refine ⟨h1, h2, h3, ?_⟩
  rcases h4 with h4 | ⟨b, off, rfl, hlt, hr⟩
  · exact .inl h4
  · have hne := hp b off rfl
    have hc : ∀ i, (w.setCell p u).cell? ⟨b, i, none⟩ = w.cell? ⟨b, i, none⟩ := fun i => World.cell?_of_block (Below.heap_setCell w p u b hne)
    refine .inr ⟨b, off, rfl, by simpa using hlt, fun k r hk => ?_⟩
    obtain ⟨e0, e1, e2, e3, e4⟩ := hr k r hk
    exact ⟨(hc _).trans e0, (hc _).trans e1, (hc _).trans e2, (hc _).trans e3, (hc _).trans e4⟩
/-- A row of the call's own, as a slice of records. -/
theorem sl_own {w : World} {base n : Nat} {v : Value} {rs : List RV} (h : w.ownsRow base 37 5 v n (flat rs)) (hn : 0 < n) (hb : n * 56 ≤ 140737488355328) : ∃ g c, v = .slice (some ⟨g, 0, none⟩) n c ∧ base ≤ g ∧ Sl w (some ⟨g, 0, none⟩) n c rs := by
  have hl : n = rs.length := by have := h.1; rw [flat_len] at this; omega
  have hc : ∀ g, v.ownBlock = some g → ∀ j u, (flat rs)[j]? = some u → w.cell? ((⟨g, 0, none⟩ : Addr).add j) = some u := fun g hg => h.cells hg
  rcases h.2 with ⟨_, h0⟩ | ⟨g, cap, cur, rfl, hg, hh, hnc, _⟩
  · omega
  · refine ⟨g, cap, rfl, hg, hl, hnc, hb, .inr ⟨g, 0, rfl, ?_, ?_⟩⟩
    · rcases Nat.lt_or_ge g w.heap.size with h1 | h1
      · exact h1
      · rw [Array.getElem?_eq_none h1] at hh; cases hh
    · intro k r hr
      obtain ⟨e0, e1, e2, e3, e4⟩ := flat_get rs k r hr
      have f0 := hc g rfl _ _ e0
      have f1 := hc g rfl _ _ e1
      have f2 := hc g rfl _ _ e2
      have f3 := hc g rfl _ _ e3
      have f4 := hc g rfl _ _ e4
      rw [addr_add'] at f0 f1 f2 f3 f4
      exact ⟨f0, f1, f2, f3, f4⟩

theorem rr_info : (Try.prog.info? 37).map (fun i => (i.zero, i.size, i.bytes)) = some (some (.agg #[.string ⟨#[]⟩, .int .i64 0, .int .i64 0, .int .i64 0, .string ⟨#[]⟩]), 5, 56) := by kernel_rfl

theorem run_app (w : World) (ty base : Nat) (v : Value) (n : Nat) (xs : List Value) (hown : w.ownsRow base 37 5 v n xs) (A : Option Addr) (m c : Nat) (rs : List RV) (sl : Sl w A m c rs) (hb : (n + m) * 56 ≤ 140737488355328) (hbase : base ≤ w.heap.size) :
    ∃ v' w', (Builtin.append_ #[23, 23] ty #[v, .slice A m c]).run Try.prog w = .ok v' w' ∧ w'.ownsRow base 37 5 v' (n + m) (xs ++ flat rs) ∧ w.grownBy w' v.ownBlock ∧ (v'.ownBlock = v.ownBlock ∨ v'.ownBlock = some w.heap.size) := by
  obtain ⟨i0, hi0, hz0, hz1, hz2⟩ := info_parts rr_info
  obtain ⟨h1, h2, h3, h4⟩ := sl
  rcases A with _ | ad
  · have hm : m = 0 := by
      rcases h4 with h | ⟨b, off, h, _⟩
      · exact h
      · cases h
    subst hm
    obtain rfl : rs = [] := List.eq_nil_of_length_eq_zero h1.symm
    refine ⟨v, w, ?_, by simpa [flat] using hown, World.grownBy.refl w _, .inl rfl⟩
    rcases hown.2 with ⟨rfl, rfl⟩ | ⟨g, cap, cur, rfl, _, _, hnc, _⟩
    · simp [Builtin.append_, run_underlying Try.underlying23, sizeOf, typeInfo, hi0, Builtin.lenOf, Builtin.firstCells]
    · simp [Builtin.append_, run_underlying Try.underlying23, sizeOf, typeInfo, hi0, Builtin.lenOf, Builtin.firstCells, hnc, storeCells]
  · obtain ⟨v', w', hrun, k2, k3, _, k5⟩ := run_append_own_at (P := Try.prog) w base 23 ty 37 i0 _ 5 56 Try.underlying23 hi0 hz0 hz1 hz2 rfl (by omega) v n xs hown ad m c (flat rs) (by rw [flat_len, h1]) (fun j u hu => by
        rcases h4 with rfl | ⟨b, off, he, _, hr⟩
        · obtain rfl : rs = [] := List.eq_nil_of_length_eq_zero h1.symm
          simp [flat] at hu
        · injection he with he
          subst he
          rw [addr_add']
          exact flat_cells w b rs off hr j u hu) (flat_one rs) (by simp only [maxLen]; omega) hb hbase
    exact ⟨v', w', hrun, k2, k3, k5⟩

theorem wp_app {ops : Array Oper} {rest : List Oper} {o : Oper} {a : Act} {Q : Exit → Act → World → Prop} (w : World) (hgd : o.guard = none) (s x : Operand)
    (ho : o.op = .call { callee := .builtin .append, args := #[s, x], argTypes := #[23, 23] })
    (base : Nat) (v : Value) (n : Nat) (xs : List Value) (hs : a.eval s = v) (hown : w.ownsRow base 37 5 v n xs) (A : Option Addr) (m c : Nat) (rs : List RV) (hx : a.eval x = .slice A m c) (sl : Sl w A m c rs) (hb : (n + m) * 56 ≤ 140737488355328) (hbase : base ≤ w.heap.size)
    (h : ∀ v' w', w'.ownsRow base 37 5 v' (n + m) (xs ++ flat rs) → w.grownBy w' v.ownBlock → (v'.ownBlock = v.ownBlock ∨ v'.ownBlock = some w.heap.size) → wpList Try.prog ops Q rest (a.put o.dst v') w') : wpList Try.prog ops Q (o :: rest) a w := by
  refine wpList_plain hgd fun _ hK => ?_
  obtain ⟨v', w', hrun, h2, h3, h4⟩ := run_app w o.type base v n xs hown A m c rs sl hb hbase
  unfold Oper.wp execOp
  simp only [ho, resolve, invoke, builtin, Sem.run_bind, Sem.run_pure, Result.andThen_ok, List.map_toArray, List.map_cons, List.map_nil, hs, hx, hrun]
  exact hK _ _ (h v' w' h2 h3 h4)

theorem blk_six {w : World} {g : Nat} {t : TypeId} {a b c d e f : Value} (h : Blk w g t #[a, b, c, d, e, f]) :
    w.cell? ⟨g, 0, none⟩ = some a ∧ w.cell? ⟨g, 1, none⟩ = some b ∧ w.cell? ⟨g, 2, none⟩ = some c ∧ w.cell? ⟨g, 3, none⟩ = some d ∧ w.cell? ⟨g, 4, none⟩ = some e ∧ w.cell? ⟨g, 5, none⟩ = some f :=
  ⟨h.cell 0, h.cell 1, h.cell 2, h.cell 3, h.cell 4, h.cell 5⟩
theorem blk_frozen {w : World} {g : Nat} {t : TypeId} {cs : Array Value} (h : Blk w g t cs) (i : Nat) : w.frozen? ⟨g, i, none⟩ = false := by
  unfold Blk at h
  simp [World.frozen?, h]
theorem blk_far {w : World} {g : Nat} {t : TypeId} {cs : Array Value} (h : Blk w g t cs) {p : Addr} (hp : g ≠ p.block) (u : Value) : Blk (w.setCell p u) g t cs := (Below.heap_setCell w p u g hp).trans h
theorem blk_set {w : World} {g : Nat} {t : TypeId} {cs : Array Value} (h : Blk w g t cs) (i : Nat) (u : Value) : Blk (w.setCell ⟨g, i, none⟩ u) g t (cs.setIfInBounds i u) := by
  unfold Blk at h ⊢
  simp [World.setCell, Array.getElem?_modify, h]

set_option maxHeartbeats 8000000 in
theorem back_walk (id bits : Int) (Q A1 A2 A3 : Option Addr) (qn qc n1 c1 n2 c2 n3 c3 : Nat) (w : World) (h : Bool) (s x v : Int) (d : Bool) (li : Int) (h1 : Bool) (s1 x1 v1 : Int) (d1 : Bool) (er : Int) (nm : ByteArray) (ty cl tt : Int) (ok : Bool) (ar : List RV)
    (l0 : decide (li < 512) = false) (l1 : decide (4096 < li) = false) (sl3 : Sl w A3 n3 c3 ar) (HB : Hid (n3 * 56 ≤ 140737488351232))
    (F8 : ∀ w', Below w.heap.size w w' → Calls Try.prog 8 #[.agg #[.int .i64 id, .int .i64 bits, .slice Q qn qc, .slice A1 n1 c1, .slice A2 n2 c2, .slice A3 n3 c3]] w' fun e w'' => Bo e ∧ Below w'.heap.size w' w'')
    (F14 : ∀ w', Calls Try.prog 14 #[.agg #[.bool h, .int .i64 s, .int .i64 x, .int .i64 v, .bool d]] w' fun e w'' => e = .returned (.int .i64 li) ∧ Below w'.heap.size w' w'')
    (F10 : ∀ w', Below w.heap.size w w' → Calls Try.prog 10 #[.agg #[.int .i64 id, .int .i64 bits, .slice Q qn qc, .slice A1 n1 c1, .slice A2 n2 c2, .slice A3 n3 c3]] w' fun e w'' => e = .returned (.tuple #[.agg #[.bool h1, .int .i64 s1, .int .i64 x1, .int .i64 v1, .bool d1], .int .i64 er]) ∧ Below w'.heap.size w' w'')
    (F12 : ∀ w', Calls Try.prog 12 #[.agg #[.bool h, .int .i64 s, .int .i64 x, .int .i64 v, .bool d]] w' fun e w'' => e = .returned (.tuple #[.agg #[.string nm, .int .i64 ty, .int .i64 cl, .int .i64 tt, .string ⟨#[]⟩], .bool ok]) ∧ Below w'.heap.size w' w'')
    (F : er = 0 → h1 = false → ok = true → ∀ w' A n c, Below w.heap.size w w' → Sl w' A n c (⟨nm, ty, cl, tt, ⟨#[]⟩⟩ :: ar) → Calls Try.prog 10 #[.agg #[.int .i64 id, .int .i64 bits, .slice Q qn qc, .slice A1 n1 c1, .slice A2 n2 c2, .slice A n c]] w' fun e w'' => e = .returned (.tuple #[.agg #[.bool h, .int .i64 s, .int .i64 x, .int .i64 v, .bool d], .int .i64 0]) ∧ Below w'.heap.size w' w'') :
    Calls Try.prog 5 #[.agg #[.bool h, .int .i64 s, .int .i64 x, .int .i64 v, .bool d], .agg #[.int .i64 id, .int .i64 bits, .slice Q qn qc, .slice A1 n1 c1, .slice A2 n2 c2, .slice A3 n3 c3]] w fun e w' => e = .returned (.bool true) ∧ Below w.heap.size w w' := by
  have T2 := (Blk.new w 33 #[.bool h, .int .i64 s, .int .i64 x, .int .i64 v, .bool d]).alloc (.cells #[.int .i64 id, .int .i64 bits, .slice Q qn qc, .slice A1 n1 c1, .slice A2 n2 c2, .slice A3 n3 c3] 25)
  have T3 : Blk ((w.alloc (.cells #[.bool h, .int .i64 s, .int .i64 x, .int .i64 v, .bool d] 33)).alloc (.cells #[.int .i64 id, .int .i64 bits, .slice Q qn qc, .slice A1 n1 c1, .slice A2 n2 c2, .slice A3 n3 c3] 25)) (w.heap.size + 1) 25 #[.int .i64 id, .int .i64 bits, .slice Q qn qc, .slice A1 n1 c1, .slice A2 n2 c2, .slice A3 n3 c3] := by
    have := Blk.new (w.alloc (.cells #[.bool h, .int .i64 s, .int .i64 x, .int .i64 v, .bool d] 33)) 25 #[.int .i64 id, .int .i64 bits, .slice Q qn qc, .slice A1 n1 c1, .slice A2 n2 c2, .slice A3 n3 c3]
    simpa using this
  have wz : Below w.heap.size w ((w.alloc (.cells #[.bool h, .int .i64 s, .int .i64 x, .int .i64 v, .bool d] 33)).alloc (.cells #[.int .i64 id, .int .i64 bits, .slice Q qn qc, .slice A1 n1 c1, .slice A2 n2 c2, .slice A3 n3 c3] 25)) := ((Below.refl _ _).alloc (Nat.le_refl _) _).alloc (by simp) _
  have HF := Lib.hid F
  have HS := Lib.hid sl3
  clear F sl3
  go_enter Try.func5, Try.ntmps5
  go_wp2_with fail
  refine (F8 _ wz).mono ?_
  clear F8
  rintro e w1 ⟨⟨sm, rfl⟩, hb⟩
  have T2 := T2.below hb
  have z1 : w.heap.size + 1 < w1.heap.size := by have := hb.size; simp at this; omega
  have T3 := T3.below hb
  have wz := wz.trans (hb.mono wz.size)
  clear hb
  cases sm
  · clear F10 F12 F14 HF
    go_wp2_with fail
    refine (live_any _).mono ?_
    rintro e w2 ⟨rfl, hb⟩
    go_wp2_with fail
    go_ret
    exact ⟨rfl, wz.trans (hb.mono wz.size)⟩
  have HX := Lib.hid F10
  clear F10
  obtain ⟨a0, a1, a2, a3, a4⟩ := T2.five
  have T5 := Blk.new w1 29 #[.bool h, .int .i64 s, .int .i64 x, .int .i64 v, .bool d]
  have T2 := T2.alloc (.cells #[.bool h, .int .i64 s, .int .i64 x, .int .i64 v, .bool d] 29)
  have T3 := T3.alloc (.cells #[.bool h, .int .i64 s, .int .i64 x, .int .i64 v, .bool d] 29)
  have wz := wz.alloc wz.size (.cells #[.bool h, .int .i64 s, .int .i64 x, .int .i64 v, .bool d] 29)
  go_wp2_with fail
  refine (F14 _).mono ?_
  clear F14
  rintro e w2 ⟨rfl, hb⟩
  have T3 := T3.below hb
  have T5 := T5.below hb
  have wz := wz.trans (hb.mono wz.size)
  clear hb T2 a0 a1 a2 a3 a4
  obtain ⟨a0, a1, a2, a3, a4, a5⟩ := blk_six T3
  go_wp2_with fail
  refine (HX.out _ wz).mono ?_
  clear HX
  rintro e w3 ⟨rfl, hb⟩
  have T3 := (T3.below hb).alloc (.cells #[.bool h1, .int .i64 s1, .int .i64 x1, .int .i64 v1, .bool d1] 29)
  have T5 := (T5.below hb).alloc (.cells #[.bool h1, .int .i64 s1, .int .i64 x1, .int .i64 v1, .bool d1] 29)
  have T7 := Blk.new w3 29 #[.bool h1, .int .i64 s1, .int .i64 x1, .int .i64 v1, .bool d1]
  have wz := wz.trans (hb.mono wz.size)
  have wz := wz.alloc wz.size (.cells #[.bool h1, .int .i64 s1, .int .i64 x1, .int .i64 v1, .bool d1] 29)
  clear hb a0 a1 a2 a3 a4 a5
  obtain ⟨a0, a1, a2, a3, a4⟩ := T5.five
  go_wp2_with fail
  refine (F12 _).mono ?_
  clear F12
  rintro e w4 ⟨rfl, hb⟩
  have T3 := (T3.below hb).alloc (.cells #[.string nm, .int .i64 ty, .int .i64 cl, .int .i64 tt, .string ⟨#[]⟩] 37)
  have T5 := (T5.below hb).alloc (.cells #[.string nm, .int .i64 ty, .int .i64 cl, .int .i64 tt, .string ⟨#[]⟩] 37)
  have T7 := (T7.below hb).alloc (.cells #[.string nm, .int .i64 ty, .int .i64 cl, .int .i64 tt, .string ⟨#[]⟩] 37)
  have T9 := Blk.new w4 37 #[.string nm, .int .i64 ty, .int .i64 cl, .int .i64 tt, .string ⟨#[]⟩]
  have wz := wz.trans (hb.mono wz.size)
  have wz := wz.alloc wz.size (.cells #[.string nm, .int .i64 ty, .int .i64 cl, .int .i64 tt, .string ⟨#[]⟩] 37)
  clear hb a0 a1 a2 a3 a4
  have b0 := T7.cell 0
  have X3 := T3
  have X5 := T5
  have X9 := T9
  have W9 := wz
  clear T3 T5 T7 T9 wz
  have z3 : w.heap.size + 1 < w4.heap.size + 1 := by have := X3.lt; simp at this; omega
  by_cases ke : er = 0
  case neg =>
    have ce : (er != 0) = true := by simpa using ke
    clear ke HF X9 X5 X3
    go_wp2_with fail
    refine (live_any _).mono ?_
    rintro e w5 ⟨rfl, hb⟩
    go_wp2_with fail
    go_ret
    exact ⟨rfl, W9.trans (hb.mono W9.size)⟩
  have HG := Lib.hid (HF.out ke)
  clear HF
  subst ke
  simp at b0
  cases h1
  case true =>
    clear HG X9 X5 X3
    go_wp2_with fail
    refine (live_any _).mono ?_
    rintro e w5 ⟨rfl, hb⟩
    go_wp2_with fail
    go_ret
    exact ⟨rfl, W9.trans (hb.mono W9.size)⟩
  cases ok
  case false =>
    clear HG X9 X5 X3
    go_wp2_with fail
    refine (live_any _).mono ?_
    rintro e w5 ⟨rfl, hb⟩
    go_wp2_with fail
    go_ret
    exact ⟨rfl, W9.trans (hb.mono W9.size)⟩
  have HFF := Lib.hid (HG.out rfl rfl)
  clear HG
  obtain ⟨a0, a1, a2, a3, a4⟩ := X9.five
  have SL1 : Hid (Sl ((w4.alloc (.cells #[.string nm, .int .i64 ty, .int .i64 cl, .int .i64 tt, .string ⟨#[]⟩] 37)).alloc (.cells #[.string nm, .int .i64 ty, .int .i64 cl, .int .i64 tt, .string ⟨#[]⟩] 37)) (some ⟨w4.heap.size + 1, 0, none⟩) 1 1 [⟨nm, ty, cl, tt, ⟨#[]⟩⟩]) := by
    have := sl_one (w4.alloc (.cells #[.string nm, .int .i64 ty, .int .i64 cl, .int .i64 tt, .string ⟨#[]⟩] 37)) ⟨nm, ty, cl, tt, ⟨#[]⟩⟩
    rw [show (w4.alloc (.cells #[.string nm, .int .i64 ty, .int .i64 cl, .int .i64 tt, .string ⟨#[]⟩] 37)).heap.size = w4.heap.size + 1 by simp] at this
    exact Lib.hid this
  have Y3 := X3.alloc (.cells #[.string nm, .int .i64 ty, .int .i64 cl, .int .i64 tt, .string ⟨#[]⟩] 37)
  have Y5 := X5.alloc (.cells #[.string nm, .int .i64 ty, .int .i64 cl, .int .i64 tt, .string ⟨#[]⟩] 37)
  have W10 := W9.alloc W9.size (.cells #[.string nm, .int .i64 ty, .int .i64 cl, .int .i64 tt, .string ⟨#[]⟩] 37)
  have S3 := Lib.hid ((HS.out.below W10))
  clear HS X9 X3 X5 W9
  go_wp2_with (first
    | (at_builtin
       refine wp_app _ rfl (.tmp 48) (.tmp 50) rfl (w4.heap.size + 1 + 1) (.slice none 0 0) 0 [] rfl ⟨by simp, .inl ⟨rfl, rfl⟩⟩ _ 1 1 [⟨nm, ty, cl, tt, ⟨#[]⟩⟩] rfl SL1.out (by omega) (by simp) ?_
       intro va w5 own1 g1 at1
       have hb5 : Below (w4.heap.size + 1 + 1) ((w4.alloc (.cells #[.string nm, .int .i64 ty, .int .i64 cl, .int .i64 tt, .string ⟨#[]⟩] 37)).alloc (.cells #[.string nm, .int .i64 ty, .int .i64 cl, .int .i64 tt, .string ⟨#[]⟩] 37)) w5 := (Below.refl _ _).grown g1 (by simp) (by simp [Value.ownBlock])
       have hb5' : Below ((w4.alloc (.cells #[.string nm, .int .i64 ty, .int .i64 cl, .int .i64 tt, .string ⟨#[]⟩] 37)).alloc (.cells #[.string nm, .int .i64 ty, .int .i64 cl, .int .i64 tt, .string ⟨#[]⟩] 37)).heap.size ((w4.alloc (.cells #[.string nm, .int .i64 ty, .int .i64 cl, .int .i64 tt, .string ⟨#[]⟩] 37)).alloc (.cells #[.string nm, .int .i64 ty, .int .i64 cl, .int .i64 tt, .string ⟨#[]⟩] 37)) w5 := by simpa using hb5
       obtain ⟨p0, p1, p2, p3, p4, p5⟩ := blk_six (Y3.below hb5')
       have own1 := Lib.hid own1
       have g1 := Lib.hid g1
       have at1 := Lib.hid at1
       have hb5 := Lib.hid hb5
       have S4 := Lib.hid (S3.out.below hb5')
       clear S3 hb5')
    | (at_builtin
       refine wp_app _ rfl (.tmp 52) (.tmp 54) rfl (w4.heap.size + 1 + 1) va (0 + 1) ([] ++ flat [⟨nm, ty, cl, tt, ⟨#[]⟩⟩]) rfl own1.out A3 n3 c3 ar rfl S4.out (by have := HB.out; omega) (by have := hb5.out.size; simp at this; omega) ?_
       intro vb w6 own2 g2 at2
       have hb6 : Below (w4.heap.size + 1 + 1) ((w4.alloc (.cells #[.string nm, .int .i64 ty, .int .i64 cl, .int .i64 tt, .string ⟨#[]⟩] 37)).alloc (.cells #[.string nm, .int .i64 ty, .int .i64 cl, .int .i64 tt, .string ⟨#[]⟩] 37)) w6 := hb5.out.grown g2 (by have := hb5.out.size; simp at this ⊢; omega) (fun k hk => by
         rcases at1.out with e | e <;> rw [e] at hk <;> simp [Value.ownBlock] at hk
         omega)
       have hb6 : Below ((w4.alloc (.cells #[.string nm, .int .i64 ty, .int .i64 cl, .int .i64 tt, .string ⟨#[]⟩] 37)).alloc (.cells #[.string nm, .int .i64 ty, .int .i64 cl, .int .i64 tt, .string ⟨#[]⟩] 37)).heap.size ((w4.alloc (.cells #[.string nm, .int .i64 ty, .int .i64 cl, .int .i64 tt, .string ⟨#[]⟩] 37)).alloc (.cells #[.string nm, .int .i64 ty, .int .i64 cl, .int .i64 tt, .string ⟨#[]⟩] 37)) w6 := by simpa using hb6
       obtain ⟨gg, cc, rfl, hgg, sl6⟩ := sl_own (rs := ⟨nm, ty, cl, tt, ⟨#[]⟩⟩ :: ar) own2 (by omega) (by have := HB.out; omega)
       have Z3 := Y3.below hb6
       obtain ⟨r0, r1, r2, r3, r4, r5⟩ := blk_six Z3
       have rz := blk_frozen Z3 5
       have zz := Z3.lt
       have Z5 := blk_far (Y5.below hb6) (p := ⟨w.heap.size + 1, 5, none⟩) (by simp; omega) (.slice (some ⟨gg, 0, none⟩) (0 + 1 + n3) cc)
       have W11 := (W10.trans (hb6.mono W10.size)).setCell (p := ⟨w.heap.size + 1, 5, none⟩) (by simp) (.slice (some ⟨gg, 0, none⟩) (0 + 1 + n3) cc)
       have S7 := Lib.hid (sl_set sl6 (p := ⟨w.heap.size + 1, 5, none⟩) (by intro b off hb; injection hb with hb; injection hb with hb; simp; omega) (.slice (some ⟨gg, 0, none⟩) (0 + 1 + n3) cc))
       clear own2 g2 at2 sl6 hb6 own1 g1 at1 hb5 S4 Z3))
  refine (HFF.out _ _ _ _ W11 S7.out).mono ?_
  clear HFF
  rintro e w8 ⟨rfl, hb⟩
  have Z5 := (Z5.below hb).alloc (.cells #[.bool h, .int .i64 s, .int .i64 x, .int .i64 v, .bool d] 29)
  have Z12 := Blk.new w8 29 #[.bool h, .int .i64 s, .int .i64 x, .int .i64 v, .bool d]
  have W12 := W11.trans (hb.mono W11.size)
  have W12 := W12.alloc W12.size (.cells #[.bool h, .int .i64 s, .int .i64 x, .int .i64 v, .bool d] 29)
  clear hb
  obtain ⟨k0, k1, k2, k3, k4⟩ := Z5.five
  obtain ⟨m0, m1, m2, m3, m4⟩ := Z12.five
  go_wp2_with fail
  refine (live_any _).mono ?_
  rintro e w9 ⟨rfl, hb⟩
  go_wp2_with fail
  go_ret
  exact ⟨rfl, W12.trans (hb.mono W12.size)⟩

theorem limO_bd (o : OV) : 512 ≤ limO o ∧ limO o ≤ 4096 := by
  unfold limO
  (repeat' split) <;> omega

theorem optOf_rec (o : OV) (hok : okO o = true) : optOf ⟨(recS o).name, (recS o).type, (recS o).cls, (recS o).ttl, ⟨#[]⟩⟩ = o := by
  obtain ⟨h, s, x, v, d⟩ := o
  unfold recS
  rw [if_pos hok]
  unfold okO inB at hok
  simp at hok
  obtain ⟨⟨⟨rfl, hs⟩, hx⟩, hv⟩ := hok
  unfold optOf ttlO
  cases d
  · simp
    refine ⟨?_, ?_, ?_⟩ <;> omega
  · simp
    refine ⟨?_, ?_, ?_⟩ <;> omega

theorem good_rec (o : OV) (hok : okO o = true) : goodR ⟨(recS o).name, (recS o).type, (recS o).cls, (recS o).ttl, ⟨#[]⟩⟩ = true ∧ (recS o).type = 41 := by
  obtain ⟨h, s, x, v, d⟩ := o
  unfold recS
  rw [if_pos hok]
  unfold okO inB at hok
  simp at hok
  obtain ⟨⟨⟨rfl, hs⟩, hx⟩, hv⟩ := hok
  refine ⟨?_, rfl⟩
  unfold goodR inB ttlO
  cases d <;> simp <;> omega

theorem findS_back (an ns ar : List RV) (o : OV) (e0 : (findS an ns ar).2 = 0) (e1 : (findS an ns ar).1.has = false) (hok : okO o = true) :
    findS an ns (⟨(recS o).name, (recS o).type, (recS o).cls, (recS o).ttl, ⟨#[]⟩⟩ :: ar) = (o, 0) := by
  have hn : idx an < 0 ∧ idx ns < 0 ∧ idx ar < 0 := by
    unfold findS at e0 e1
    by_cases k1 : 0 ≤ idx an
    · rw [if_pos k1] at e0; simp at e0
    · rw [if_neg k1] at e0 e1
      by_cases k2 : 0 ≤ idx ns
      · rw [if_pos k2] at e0; simp at e0
      · rw [if_neg k2] at e0 e1
        by_cases k3 : idx ar < 0
        · exact ⟨by omega, by omega, k3⟩
        · rw [if_neg k3] at e0 e1
          obtain ⟨r, hr, _⟩ := idx_get ar (by omega)
          rw [hr] at e0 e1
          unfold pick at e0 e1
          by_cases k4 : (goodR r && decide (idx (ar.drop ((idx ar).toNat + 1)) < 0)) = true
          · simp only [k4, if_true] at e1; simp [optOf] at e1
          · simp only [k4] at e0; simp at e0
  obtain ⟨i1, i2, i3⟩ := hn
  obtain ⟨hg, ht⟩ := good_rec o hok
  unfold findS
  rw [if_neg (by omega), if_neg (by omega)]
  have hi : idx (⟨(recS o).name, (recS o).type, (recS o).cls, (recS o).ttl, ⟨#[]⟩⟩ :: ar) = 0 := by
    unfold idx; rw [if_pos ht]
  rw [hi, if_neg (by omega)]
  simp only [Int.toNat_zero, List.getElem?_cons_zero, Nat.zero_add, List.drop_succ_cons, List.drop_zero]
  unfold pick
  simp only [hg, i3, decide_true, Bool.and_self, if_true]
  rw [optOf_rec o hok]

theorem back_any (o : OV) (id bits : Int) (Q A1 A2 A3 : Option Addr) (qn qc n1 c1 n2 c2 n3 c3 : Nat) (an ns ar : List RV) (w : World) (q : Qn w Q qn) (s1 : Sl w A1 n1 c1 an) (s2 : Sl w A2 n2 c2 ns) (s3 : Sl w A3 n3 c3 ar) (b3 : n3 * 56 ≤ 140737488351232) :
    Calls Try.prog 5 #[o.agg, .agg #[.int .i64 id, .int .i64 bits, .slice Q qn qc, .slice A1 n1 c1, .slice A2 n2 c2, .slice A3 n3 c3]] w fun e w' => e = .returned (.bool true) ∧ Below w.heap.size w w' := by
  have hl := limO_bd o
  exact back_walk id bits Q A1 A2 A3 qn qc n1 c1 n2 c2 n3 c3 w o.has o.size o.ext o.vers o.dob (limO o) (findS an ns ar).1.has _ _ _ _ (findS an ns ar).2 (recS o).name (recS o).type (recS o).cls (recS o).ttl (okO o) ar
    (by simp; omega) (by simp; omega) s3 (Lib.hid b3)
    (fun w' hb => small_any id bits Q A1 A2 A3 qn qc n1 c1 n2 c2 n3 c3 an ns ar w' (q.below hb) (s1.below hb) (s2.below hb) (s3.below hb))
    (fun w' => limit_any o w')
    (fun w' hb => find_any id bits Q A1 A2 A3 qn qc n1 c1 n2 c2 n3 c3 an ns ar w' (s1.below hb) (s2.below hb) (s3.below hb))
    (fun w' => record_any o w')
    (fun e0 e1 hok w' A n c hb sl => by
      have hf := find_any id bits Q A1 A2 A qn qc n1 c1 n2 c2 n c an ns _ w' (s1.below hb) (s2.below hb) sl
      rw [findS_back an ns ar o e0 e1 hok] at hf
      exact hf)

end Go.Proofs.Ytnbngkecabacaaa.Eb
