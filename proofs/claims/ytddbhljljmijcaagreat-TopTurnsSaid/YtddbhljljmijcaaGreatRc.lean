/- Cells read and written; what an operation's step must show. -/
import Derived.Test.YtddbhljljmijcaaGreatRb
import Derived.Laws.IdiomCopy
import Derived.Laws.Rows
namespace Go.Proofs.YtddbhljljmijcaaGreat.V
open Go.RowKit
set_option linter.unusedVariables false

theorem addr_add (b off i : Nat) : Addr.add ⟨b, off, none⟩ i = ⟨b, off + i, none⟩ := by
  unfold Addr.add
  split <;> simp_all

/-! ### Lists, by continuation -/
noncomputable def lgetK {α : Type} (l : List α) : Nat → (α → Bool) → Bool :=
  List.rec (motive := fun _ => Nat → (α → Bool) → Bool) (fun _ _ => false) (fun x _ ih n k => Nat.rec (motive := fun _ => Bool) (k x) (fun m _ => ih m k) n) l
theorem lgetK_sound {α : Type} : ∀ (l : List α) (n : Nat) (k : α → Bool), lgetK l n k = true → ∃ x, l[n]? = some x ∧ k x = true
  | [], _, _, h => by cases h
  | x :: l, 0, k, h => ⟨x, rfl, h⟩
  | x :: l, n + 1, k, h => by
    obtain ⟨y, h1, h2⟩ := lgetK_sound l n k h
    exact ⟨y, by simpa using h1, h2⟩
/-- So many from the head on; what is left. -/
noncomputable def ltakeK {α : Type} (n : Nat) : List α → (List α → Bool) → Bool :=
  Nat.rec (motive := fun _ => List α → (List α → Bool) → Bool) (fun _ k => k [])
    (fun _ ih l k => List.rec (motive := fun _ => Bool) false (fun x l _ => ih l (fun r => k (x :: r))) l) n
theorem ltakeK_sound {α : Type} : ∀ (n : Nat) (l : List α) (k : List α → Bool), ltakeK n l k = true → ∃ r, r.length = n ∧ (∀ i, i < n → l[i]? = r[i]?) ∧ k r = true
  | 0, l, k, h => ⟨[], rfl, fun i hi => by omega, h⟩
  | n + 1, [], k, h => by cases h
  | n + 1, x :: l, k, h => by
    obtain ⟨r, h1, h2, h3⟩ := ltakeK_sound n l _ h
    refine ⟨x :: r, by simp [h1], fun i hi => ?_, h3⟩
    cases i with
    | zero => rfl
    | succ i => simpa using h2 i (by omega)
noncomputable def ldropK {α : Type} (n : Nat) : List α → (List α → Bool) → Bool :=
  Nat.rec (motive := fun _ => List α → (List α → Bool) → Bool) (fun l k => k l)
    (fun _ ih l k => List.rec (motive := fun _ => Bool) false (fun _ l _ => ih l k) l) n
theorem ldropK_sound {α : Type} : ∀ (n : Nat) (l : List α) (k : List α → Bool), ldropK n l k = true → n ≤ l.length ∧ ∃ r, (∀ i, l[n + i]? = r[i]?) ∧ r.length = l.length - n ∧ k r = true
  | 0, l, k, h => ⟨by omega, l, fun i => by rw [Nat.zero_add], rfl, h⟩
  | n + 1, [], k, h => by cases h
  | n + 1, x :: l, k, h => by
    obtain ⟨h0, r, h1, h2, h3⟩ := ldropK_sound n l k h
    refine ⟨by simp; omega, r, fun i => ?_, by simp; omega, h3⟩
    rw [show n + 1 + i = (n + i) + 1 by omega]
    simpa using h1 i
/-- The cells from a place on. -/
noncomputable def lsubK {α : Type} (l : List α) (o n : Nat) (k : List α → Bool) : Bool := ldropK o l (fun r => ltakeK n r k)
theorem lsubK_sound {α : Type} (l : List α) (o n : Nat) (k : List α → Bool) (h : lsubK l o n k = true) : ∃ r, r.length = n ∧ (∀ i, i < n → l[o + i]? = r[i]?) ∧ k r = true := by
  obtain ⟨_, r, h1, _, h2⟩ := ldropK_sound o l _ h
  obtain ⟨r', h3, h4, h5⟩ := ltakeK_sound n r k h2
  exact ⟨r', h3, fun i hi => (h1 i).trans (h4 i hi), h5⟩
/-- Some are laid over those from the head on. -/
noncomputable def loverK {α : Type} (v : List α) : List α → (List α → Bool) → Bool :=
  List.rec (motive := fun _ => List α → (List α → Bool) → Bool) (fun l k => k l)
    (fun x _ ih l k => List.rec (motive := fun _ => Bool) false (fun _ l _ => ih l (fun r => k (x :: r))) l) v
theorem loverK_sound {α : Type} : ∀ (v l : List α) (k : List α → Bool), loverK v l k = true → ∃ r, r.length = l.length ∧ v.length ≤ l.length ∧ (∀ i, r[i]? = if i < v.length then v[i]? else l[i]?) ∧ k r = true
  | [], l, k, h => ⟨l, rfl, by simp, fun i => by simp, h⟩
  | x :: v, [], k, h => by cases h
  | x :: v, y :: l, k, h => by
    obtain ⟨r, h1, h2, h3, h4⟩ := loverK_sound v l _ h
    refine ⟨x :: r, by simp [h1], by simp; omega, fun i => ?_, h4⟩
    cases i with
    | zero => simp
    | succ i => simpa using h3 i
noncomputable def lputK {α : Type} (l : List α) (o : Nat) (v : List α) : (List α → Bool) → Bool :=
  Nat.rec (motive := fun _ => List α → (List α → Bool) → Bool) (fun l k => loverK v l k)
    (fun _ ih l k => List.rec (motive := fun _ => Bool) false (fun x l _ => ih l (fun r => k (x :: r))) l) o l
theorem lputK_sound {α : Type} : ∀ (o : Nat) (l v : List α) (k : List α → Bool), lputK l o v k = true → ∃ r, r.length = l.length ∧ o + v.length ≤ l.length ∧ (∀ i, r[i]? = if o ≤ i ∧ i < o + v.length then v[i - o]? else l[i]?) ∧ k r = true
  | 0, l, v, k, h => by
    obtain ⟨r, h1, h2, h3, h4⟩ := loverK_sound v l k h
    exact ⟨r, h1, by omega, fun i => by rw [h3]; simp, h4⟩
  | o + 1, [], v, k, h => by cases h
  | o + 1, x :: l, v, k, h => by
    obtain ⟨r, h1, h2, h3, h4⟩ := lputK_sound o l v _ h
    refine ⟨x :: r, by simp [h1], by simp; omega, fun i => ?_, h4⟩
    cases i with
    | zero => simp
    | succ i =>
      have e : (o + 1 ≤ i + 1 ∧ i + 1 < o + 1 + v.length) ↔ (o ≤ i ∧ i < o + v.length) := by omega
      simp only [List.getElem?_cons_succ, h3 i, e, Nat.add_sub_add_right]

/-! ### The world's cells -/
theorem heap_setCells (g : Nat) (e : TypeId) (fr : Nat × Nat) : ∀ (vs : List Value) (o : Nat) (w : World) (CS : Array Value), w.heap[g]? = some (.cells CS e fr) →
    ∃ CS', (w.setCells g o vs).heap[g]? = some (.cells CS' e fr) ∧ CS'.size = CS.size ∧ (∀ j, o + vs.length ≤ CS.size → CS'[j]? = if o ≤ j ∧ j < o + vs.length then vs[j - o]? else CS[j]?) ∧
      (∀ k, k ≠ g → (w.setCells g o vs).heap[k]? = w.heap[k]?) ∧ (w.setCells g o vs).heap.size = w.heap.size ∧ (w.setCells g o vs).os = w.os ∧ (w.setCells g o vs).tape = w.tape ∧ (w.setCells g o vs).output = w.output
  | [], o, w, CS, h => ⟨CS, h, rfl, fun j _ => by rw [if_neg (by simp)], fun _ _ => rfl, rfl, rfl, rfl, rfl⟩
  | v :: vs, o, w, CS, h => by
    have h1 : (w.setCell ⟨g, o, none⟩ v).heap[g]? = some (.cells (CS.setIfInBounds o v) e fr) := by
      simp [World.setCell, Array.getElem?_modify, h]
    obtain ⟨CS', a1, a2, a3, a4, a5, a6, a7, a8⟩ := heap_setCells g e fr vs (o + 1) _ _ h1
    refine ⟨CS', a1, by simpa using a2, fun j hj => ?_, fun k hk => (a4 k hk).trans (Below.heap_setCell w ⟨g, o, none⟩ v k hk), a5.trans (by simp), a6, a7, a8⟩
    have hj' : o + 1 + vs.length ≤ (CS.setIfInBounds o v).size := by simp only [List.length_cons, Array.size_setIfInBounds] at hj ⊢; omega
    rw [a3 j hj']
    by_cases e1 : j = o
    · subst e1
      rw [if_neg (by omega), if_pos (by simp), Array.getElem?_setIfInBounds_self_of_lt (by simp at hj; omega)]
      simp
    · by_cases e2 : o ≤ j ∧ j < o + (vs.length + 1)
      · rw [if_pos (by omega), if_pos (by simpa using e2), show j - o = (j - (o + 1)) + 1 by omega]
        simp
      · rw [if_neg (by omega), if_neg (by simpa using e2), Array.getElem?_setIfInBounds_ne (by omega)]

variable {H : Nat} {W0 : World} {ρ : Ren} {h : Heap} {w : World}
/-- A pointer into a row that is known. -/
theorem Rel.row (r : Rel H W0 ρ h w) {b : Nat} {c : List At} {fz : Nat} {byte : Bool} {bd : Nat} (g : h.m.get b = some (.cells c fz byte bd)) (hd : (ρ b).Known) :
    ∃ B base S CS e fr, ρ b = .loc B base S ∧ H ≤ B ∧ w.heap[B]? = some (.cells CS e fr) ∧ CS.size = S ∧ (∀ (i : Nat) a, c[i]? = some a → ∃ v, CS[base + i]? = some v ∧ ARel ρ a v) ∧ (∀ i, fz ≤ i → base + i < S → w.frozen? ⟨B, base + i, none⟩ = false) ∧ (byte = true → e = 5 ∧ fr.1 ≤ fr.2 ∧ fr.2 ≤ base + fz) ∧ (bd ≠ 0 → e = bd ∧ base = 0 ∧ S = Go.Proofs.Tryz.prog.cellsOf bd) := by
  cases e : ρ b with
  | un => rw [e] at hd; exact hd.elim
  | val V => rw [e] at hd; exact hd.elim
  | dead => have := r.dead b _ e g; cases this
  | loc B base S =>
    obtain ⟨ob, g', hB, o⟩ := r.live b B base S e
    rw [g] at g'
    cases g'
    obtain ⟨CS, el, fr, h1, h2, h3, h4, h5⟩ := o
    exact ⟨B, base, S, CS, el, fr, rfl, hB, h1, h2, h3, h4, h5⟩
theorem cell_of (B i : Nat) {CS : Array Value} {e : TypeId} {fr : Nat × Nat} (hh : w.heap[B]? = some (.cells CS e fr)) : w.cell? ⟨B, i, none⟩ = CS[i]? := by
  simp [World.cell?, hh]
/-- A row is written. -/
theorem Rel.write (r : Rel H W0 ρ h w) {b B base S : Nat} {c c' : List At} {fz fz' : Nat} {byte : Bool} {bd : Nat} (e : ρ b = .loc B base S) (g : h.m.get b = some (.cells c fz byte bd)) {h' : Heap} (hn : h'.next = h.next) (hg : ∀ j, h'.m.get j = if b = j then some (.cells c' fz' byte bd) else h.m.get j)
    {w' : World} {CS : Array Value} {el : TypeId} {fr : Nat × Nat} (hB : w'.heap[B]? = some (.cells CS el fr)) (hs : CS.size = S) (hc : ∀ (i : Nat) a, c'[i]? = some a → ∃ v, CS[base + i]? = some v ∧ ARel ρ a v) (hf : ∀ i, fz' ≤ i → base + i < S → w'.frozen? ⟨B, base + i, none⟩ = false) (hy : byte = true → el = 5 ∧ fr.1 ≤ fr.2 ∧ fr.2 ≤ base + fz')
    (hbd : bd ≠ 0 → el = bd ∧ base = 0 ∧ S = Go.Proofs.Tryz.prog.cellsOf bd) (ho : ∀ k, k ≠ B → w'.heap[k]? = w.heap[k]?) (hz : w'.heap.size = w.heap.size) (h1 : w'.os = w.os) (h2 : w'.tape = w.tape) (h3 : w'.output = w.output) : Rel H W0 ρ h' w' ∧ Ext ρ h ρ h' := by
  have hBl : H ≤ B := let ⟨_, _, x, _⟩ := r.live b B base S e; x
  refine ⟨⟨r.base, ⟨h1.trans r.below.os, h2.trans r.below.tape, h3.trans r.below.output, by rw [hz]; exact r.below.size, fun k hk => (ho k (by omega)).trans (r.below.block k hk)⟩, ?_, ?_, fun b' hb' => r.fresh b' (by omega), r.inj, fun k o hk q => ?_⟩, ⟨Ren.le_refl _, by omega, fun b' hb' e' => ⟨e', ?_⟩⟩⟩
  · intro b' B' base' S' e'
    by_cases hbb : b = b'
    · subst hbb
      rw [e] at e'
      injection e' with q1 q2 q3
      subst q1; subst q2; subst q3
      exact ⟨.cells c' fz' byte bd, by rw [hg, if_pos rfl], hBl, CS, el, fr, hB, hs, hc, hf, hy, hbd⟩
    · obtain ⟨ob, g', hB', o⟩ := r.live b' B' base' S' e'
      refine ⟨ob, by rw [hg, if_neg hbb]; exact g', hB', o.same (ho B' ?_)⟩
      intro q
      subst q
      exact hbb (r.inj _ _ _ _ _ _ _ e e')
  · intro b' ob e' g'
    rw [hg, if_neg (by intro q; subst q; rw [e] at e'; cases e')] at g'
    exact r.dead b' ob e' g'
  · by_cases hkB : k = B
    · subst hkB
      obtain ⟨ob, g', _, o2⟩ := r.live b k base S e
      rw [g] at g'
      cases g'
      obtain ⟨_, _, _, h1, _⟩ := o2
      rw [r.keep k o hk q] at h1
      cases h1
      exact q.elim
    · exact (ho k hkB).trans (r.keep k o hk q)
  · rw [hg, if_neg]
    intro q; subst q; rw [e] at e'; cases e'
theorem ARel.not_un {v : Value} {b o : Nat} (h : ARel ρ (.ptr b o) v) : (ρ b).Known := by
  cases h with
  | ptr h => rw [h]; trivial
  | ptrd h => rw [h]; trivial

/-! ### One operation -/
/-- The fences that the walks stand in: none, or a round of a range over a function. -/
inductive Wide : Fence → Prop
  | wide : Wide Fence.wide
  | round (l : Nat) : Wide (Fence.wide.inRound l)
theorem Wide.fn {F : Fence} (h : Wide F) (f : FuncId) : F.fn f := by cases h <;> trivial
theorem Wide.calls {F : Fence} (h : Wide F) {n : Nat} {P : Program} {f : FuncId} {args : Array Value} {w : World} {R : Ending → World → Prop} (hc : Calls P f args w R) : CallsIn F n P f args w R := by
  cases h with
  | wide => exact callsIn_wide.2 hc
  | round l => exact CallsIn.inRound l (callsIn_wide.2 hc)
theorem Wide.deep {F : Fence} (h : Wide F) : F.depth.isSome = true → 1 ≤ 0 := by
  cases h <;> (intro q; cases q)
/-- What an operation comes to, given what its operands are: in every world behind the heap h it yields what v tells, in a world behind h'. -/
def OpS (P : Program) (o : Oper) (vals : List AV) (h : Heap) (v : AV) (h' : Heap) : Prop :=
  ∀ (F : Fence) (H : Nat) (W0 : World) (ρ : Ren) (w : World) (a : Act) (K : Act → World → Prop) (Q : Exit → Act → World → Prop), Wide F → VRels ρ vals (o.op.operands.toList.map a.eval) → Rel H W0 ρ h w →
    (∀ V w' ρ', Ext ρ h ρ' h' → Rel H W0 ρ' h' w' → VRel ρ' v V → K (a.put o.dst V) w') → o.wpIn F 0 P a w K Q
/-- Of an operation that calls no function. -/
theorem OpS.of_run {P : Program} {o : Oper} {vals : List AV} {h : Heap} {v : AV} {h' : Heap}
    (hr : ∀ (H : Nat) (W0 : World) (ρ : Ren) (w : World) (ev : Operand → Value), VRels ρ vals (o.op.operands.toList.map ev) → Rel H W0 ρ h w → ∃ V w' ρ', ((execOp ev o).run P w = .ok (.value V) w' ∨ ((execOp ev o).run P w = .ok .skip w' ∧ V = Go.undef)) ∧ Ext ρ h ρ' h' ∧ Rel H W0 ρ' h' w' ∧ VRel ρ' v V) : OpS P o vals h v h' := by
  intro F H W0 ρ w a K Q hF hv hrel hk
  obtain ⟨V, w', ρ', h1, h2, h3, h4⟩ := hr H W0 ρ w a.eval hv hrel
  have := hk V w' ρ' h2 h3 h4
  have hd : ∀ c, o.op ≠ .defer c := fun c hc => by
    have : (execOp a.eval o).run P w = (do pure (.defer (← resolve a.eval c o.type)) : Sem Next).run P w := by unfold execOp; rw [hc]
    rw [this, Sem.run_bind] at h1
    cases hres : (resolve a.eval c o.type).run P w <;> rw [hres] at h1 <;> rcases h1 with h1 | ⟨h1, _⟩ <;> cases h1
  unfold Oper.wpIn
  refine ⟨fun f _ => hF.fn f, ?_⟩
  rw [Oper.semAt_eq _ _ _ hd]
  rcases h1 with h1 | ⟨h1, rfl⟩
  · rw [h1]; exact this
  · rw [h1]; exact this
/-- .. and that touches no memory. -/
theorem OpS.of_pure {P : Program} {o : Oper} {vals : List AV} {h : Heap} {v : AV}
    (hr : ∀ (ρ : Ren) (w : World) (ev : Operand → Value), VRels ρ vals (o.op.operands.toList.map ev) → ∃ V, (execOp ev o).run P w = .ok (.value V) w ∧ VRel ρ v V) : OpS P o vals h v h :=
  OpS.of_run fun H W0 ρ w ev hv hrel => let ⟨V, h1, h2⟩ := hr ρ w ev hv; ⟨V, w, ρ, .inl h1, Ext.refl _ _, hrel, h2⟩
end Go.Proofs.YtddbhljljmijcaaGreat.V
