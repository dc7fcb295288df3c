/- Appends as operations; rows cleared and made; texts and bytes. -/
import Derived.Test.YtddbhljljmijcaaGreatRj
import Derived.Laws.BytesString
import Derived.Laws.MakeOwn
import Derived.Lib.ConvBytes
import Derived.Lib.UnsafeStr
namespace Go.Proofs.YtddbhljljmijcaaGreat.V
open Go.RowKit
set_option linter.unusedVariables false
set_option linter.unusedSimpArgs false
variable {P : Program}

/-! ### So many zeros -/
noncomputable def lrepK (n : Nat) (z : List At) (k : List At → Bool) : Bool :=
  Nat.rec (motive := fun _ => (List At → Bool) → Bool) (fun k => k []) (fun _ ih k => ih (fun l => lappK z l k)) n k
theorem lrepK_eq : ∀ (n : Nat) (z : List At) (k : List At → Bool), lrepK n z k = k ((List.replicate n z).flatten)
  | 0, z, k => rfl
  | n + 1, z, k => by
    have : lrepK (n + 1) z k = lrepK n z (fun l => lappK z l k) := rfl
    rw [this, lrepK_eq, lappK_eq, List.replicate_succ, List.flatten_cons]
theorem rep_get {α : Type} (z : List α) : ∀ (n i : Nat), ((List.replicate n z).flatten)[i]? = if i < n * z.length then z[i % z.length]? else none
  | 0, i => by simp
  | n + 1, i => by
    rw [List.replicate_succ, List.flatten_cons]
    by_cases h : i < z.length
    · rw [List.getElem?_append_left h, if_pos (by rw [Nat.add_mul]; omega), Nat.mod_eq_of_lt h]
    · rw [List.getElem?_append_right (by omega), rep_get z n (i - z.length)]
      by_cases h2 : i < (n + 1) * z.length
      · rw [if_pos h2, if_pos (by rw [Nat.add_mul] at h2; omega), Nat.mod_eq_sub_mod (by omega : i ≥ z.length)]
      · rw [if_neg h2, if_neg (by rw [Nat.add_mul] at h2; omega)]
theorem zeros_toList (Z : Array Value) (n m : Nat) (hm : m = n * Z.size) : ((Array.range m).map (fun i => Z[i % Z.size]!)).toList = (List.replicate n Z.toList).flatten := by
  apply List.ext_getElem?
  intro i
  rw [rep_get]
  simp only [Array.length_toList]
  by_cases h : i < m
  · rw [if_pos (by omega)]
    have hz : 0 < Z.size := by
      rcases Nat.eq_zero_or_pos Z.size with q | q
      · rw [q] at hm; omega
      · exact q
    have hlt : i % Z.size < Z.size := Nat.mod_lt _ hz
    simp [h, hlt, getElem!_pos]
  · rw [if_neg (by omega), List.getElem?_eq_none (by simp; omega)]
theorem ARels.flat {ρ : Ren} {z : List At} {Z : List Value} (h : ARels ρ z Z) : ∀ n, ARels ρ (List.replicate n z).flatten (List.replicate n Z).flatten
  | 0 => .nil
  | n + 1 => by rw [List.replicate_succ, List.flatten_cons, List.replicate_succ, List.flatten_cons]; exact h.append (h.flat n)

/-! ### append -/
theorem exec_builtin2 (ev : Operand → Value) (o : Oper) (b : Builtin) (x y : Operand) (ats : Array TypeId) (ho : o.op = .call { callee := .builtin b, args := #[x, y], argTypes := ats }) :
    ∃ cs, execOp ev o = builtin b ats o.type cs #[ev x, ev y] := ⟨_, (exec_builtin ev o b _ _ ho).trans (congrArg (builtin b ats o.type _) (by simp))⟩
noncomputable def xapp (esz : Nat) (be : Bool) (s x : At) (h : Heap) (k : At → Heap → Bool) : Bool := srcK esz x h (fun n new => appK esz be s n new h k)
theorem appK_slice {esz n : Nat} {be : Bool} {s : At} {new : List At} {h : Heap} {k : At → Heap → Bool} (hk : appK esz be s n new h k = true) {ρ : Ren} {S : Value} (hS : ARel ρ s S) : ∃ base m c, S = .slice base m c := by
  unfold appK at hk
  rw [sel_eq] at hk
  split at hk <;> split at hk
  all_goals first
    | (cases hS <;> exact ⟨_, _, _, rfl⟩)
    | cases hk
theorem s_append (o : Oper) (sT xT e : TypeId) (x y : Operand) (ho : o.op = .call { callee := .builtin .append, args := #[x, y], argTypes := #[sT, xT] }) (ie : TypeInfo) (dx : TypeDesc) (Z : Value) (ht : P.underlying sT = some (.slice e)) (hie : P.info? e = some ie) (hx : P.underlying xT = some dx) (hxi : ∀ k, dx ≠ .int k) (hzr : ie.zero = some Z) (hzs : Z.cells.size = ie.size) (hby : ie.bytes ≤ 1048576) (be : Bool) (hbe : be = true → e = 5)
    (s a : At) (h : Heap) (k : At → Heap → Bool) (hk : xapp ie.size be s a h k = true) : ∃ r h', k r h' = true ∧ OpS P o [.one s, .one a] h (.one r) h' := by
  obtain ⟨n, new, hk, hl, hsrc⟩ := srcK_sound (P := P) hk
  obtain ⟨r, h', hk', hs⟩ := appK_sound (P := P) (sT := sT) (xT := xT) (Z := Z) hzs hby hbe hl hk
  refine ⟨r, h', hk', OpS.of_run fun H W0 ρ w ev hv hrel => ?_⟩
  rw [ho, call_operands_builtin] at hv
  obtain ⟨V, U, hL, h1, h2⟩ := VRels.inv2 hv
  simp at hL
  obtain ⟨rfl, rfl⟩ := hL
  have h1 := vinv h1
  have h2 := vinv h2
  obtain ⟨e1, N, e2, e3⟩ := hsrc H W0 ρ w _ hrel h2
  obtain ⟨V, w', ρ', hr, hx', hR, hV⟩ := hs H W0 ρ w _ _ o.type N hrel h1 (AppRun.of_src ht hie hx hxi hzr o.type e1 e2) e3
  refine ⟨V, w', ρ', .inl ?_, hx', hR, .one hV⟩
  obtain ⟨cs, hex⟩ := exec_builtin2 ev o .append x y _ ho
  rw [hex]
  simp only [builtin, Sem.run_bind, hr, Result.andThen_ok, Sem.run_pure]
noncomputable def xappz (esz : Nat) (be : Bool) (z : List At) (s : At) (n : Nat) (h : Heap) (k : At → Heap → Bool) : Bool :=
  gd (Nat.ble n 1048576) (sel (Nat.beq n 0) false (lrepK n z (fun new => appK esz be s n new h k)))
theorem s_append_zeros (o : Oper) (sT xT e : TypeId) (x y : Operand) (ho : o.op = .call { callee := .builtin .append, args := #[x, y], argTypes := #[sT, xT] }) (ie : TypeInfo) (kx : IntKind) (Z : Value) (ht : P.underlying sT = some (.slice e)) (hie : P.info? e = some ie) (hx : P.underlying xT = some (.int kx)) (hzr : ie.zero = some Z) (hzs : Z.cells.size = ie.size) (hsz : ie.size ≠ 0) (hby : ie.bytes ≤ 1048576) (be : Bool) (hbe : be = true → e = 5)
    (z : List At) (hz : ∀ ρ, ARels ρ z Z.cells.toList) (s : At) (kk : IntKind) (n : Nat) (h : Heap) (k : At → Heap → Bool) (hk : xappz ie.size be z s n h k = true) : ∃ r h', k r h' = true ∧ OpS P o [.one s, .one (.int kk (.ofNat n))] h (.one r) h' := by
  obtain ⟨h1, hk⟩ := gd_eq hk
  obtain ⟨h2, hk⟩ := sel_false hk
  have h1 : n ≤ 1048576 := by simpa using h1
  have h2 : n ≠ 0 := by
    intro q
    subst q
    cases h2
  rw [lrepK_eq] at hk
  have hzl : z.length = ie.size := by have := (hz (fun _ => .un)).length; simp at this; omega
  obtain ⟨r, h', hk', hs⟩ := appK_sound (P := P) (sT := sT) (xT := xT) (Z := Z) hzs hby hbe (by
    have : ∀ n, (List.replicate n z).flatten.length = n * z.length := fun n => by simp
    rw [this, hzl]) hk
  refine ⟨r, h', hk', OpS.of_run fun H W0 ρ w ev hv hrel => ?_⟩
  rw [ho, call_operands_builtin] at hv
  obtain ⟨V, U, hL, q1, q2⟩ := VRels.inv2 hv
  simp at hL
  obtain ⟨rfl, rfl⟩ := hL
  have q1 := vinv q1
  have q2 := vinv q2
  generalize hy : ev y = Y at q2
  cases q2
  obtain ⟨V, w', ρ', hr, hx', hR, hV⟩ := hs H W0 ρ w _ _ o.type _ hrel q1 (AppRun.of_zeros ht hie hx hzr hby h1 h2 hsz kk o.type) (by
    have : (Builtin.zeroCells Z.cells n).toList = (List.replicate n Z.cells.toList).flatten := zeros_toList Z.cells n _ rfl
    rw [this]
    exact (hz ρ).flat n)
  refine ⟨V, w', ρ', .inl ?_, hx', hR, .one hV⟩
  obtain ⟨cs, hex⟩ := exec_builtin2 ev o .append x y _ ho
  rw [hex, hy]
  simp only [builtin, Sem.run_bind, hr, Result.andThen_ok, Sem.run_pure]

/-! ### Maps are written -/
theorem run_setObj {w : World} {B : Nat} {E : Array MapEntry} {clock : Nat} (hw : w.heap[B]? = some (.map E clock)) (o : Obj) : (setObj B o).run P w = .ok () { w with heap := w.heap.setIfInBounds B o } := by
  simp [setObj, Sem.run, hw]
theorem run_getObj {w : World} {B : Nat} {E : Array MapEntry} {clock : Nat} (hw : w.heap[B]? = some (.map E clock)) : (getObj B).run P w = .ok (.map E clock) w := by
  simp [getObj, Sem.run, hw]
theorem Rel.writeMap {H : Nat} {W0 : World} {ρ : Ren} {h h' : Heap} {w : World} (r : Rel H W0 ρ h w) {b B S : Nat} {es es' : List (AV × AV)} (e : ρ b = .loc B 0 S) (g : h.m.get b = some (.map es)) (hn : h'.next = h.next) (hg : ∀ j, h'.m.get j = if b = j then some (.map es') else h.m.get j)
    {E : Array MapEntry} {clock : Nat} (hw : w.heap[B]? = some (.map E clock)) (E' : Array MapEntry) (clock' : Nat) (hl : es'.length = E'.size) (hE : ∀ (i : Nat) k x, es'[i]? = some (k, x) → ∃ en, E'[i]? = some en ∧ VRel ρ k en.key ∧ VRel ρ x en.val) :
    Rel H W0 ρ h' { w with heap := w.heap.setIfInBounds B (.map E' clock') } ∧ Ext ρ h ρ h' := by
  have hBl : H ≤ B := let ⟨_, _, x, _⟩ := r.live b B 0 S e; x
  have hlt : B < w.heap.size := by
    rcases Nat.lt_or_ge B w.heap.size with q | q
    · exact q
    · rw [Array.getElem?_eq_none q] at hw; cases hw
  have hoth : ∀ k, k ≠ B → (w.heap.setIfInBounds B (.map E' clock'))[k]? = w.heap[k]? := fun k hk => Array.getElem?_setIfInBounds_ne (by omega)
  refine ⟨⟨r.base, ⟨r.below.os, r.below.tape, r.below.output, by simpa using r.below.size, fun k hk => (hoth k (by omega)).trans (r.below.block k hk)⟩, ?_, ?_, fun b' hb' => r.fresh b' (by omega), r.inj, fun k o hk q => by
    have h1 := r.keep k o hk q
    have hne : k ≠ B := fun e => by rw [e, hw] at h1; cases h1; exact q
    exact (hoth k hne).trans h1⟩, ⟨Ren.le_refl _, by omega, fun b' hb' e' => ⟨e', ?_⟩⟩⟩
  · intro b' B' base' S' e'
    by_cases hbb : b = b'
    · subst hbb
      rw [e] at e'
      injection e' with q1 q2 q3
      subst q1; subst q2; subst q3
      exact ⟨.map es', by rw [hg, if_pos rfl], hBl, E', clock', by simp [hlt], rfl, hl, hE⟩
    · obtain ⟨ob, g', hB', o⟩ := r.live b' B' base' S' e'
      refine ⟨ob, by rw [hg, if_neg hbb]; exact g', hB', o.same (hoth B' ?_)⟩
      intro q
      subst q
      exact hbb (r.inj _ _ _ _ _ _ _ e e')
  · intro b' ob e' g'
    rw [hg, if_neg (by intro q; subst q; rw [e] at e'; cases e')] at g'
    exact r.dead b' ob e' g'
  · rw [hg, if_neg]
    intro q; subst q; rw [e] at e'; cases e'

/-! ### clear -/
noncomputable def xclear (z : List At) (v : At) (h : Heap) (k : Heap → Bool) : Bool :=
  match v with
  | .nils => k h
  | .emps => k h
  | .nilm => k h
  | .mp b => mapK h b (fun _ => h.m.setK b (.map []) (fun m => k ⟨m, h.next⟩))
  | .slc b o n _ _ _ => sel (Nat.beq n 0) (k h) (lrepK n z (fun l => storeK h b o l k))
  | _ => false
theorem s_clear (o : Oper) (t : TypeId) (x : Operand) (d : TypeDesc) (ho : o.op = .call { callee := .builtin .clear, args := #[x], argTypes := #[t] }) (ht : P.underlying t = some d) (z : List At) (hz : (∃ kt e, d = .map kt e) ∨ ∃ e ie Z, d = .slice e ∧ P.info? e = some ie ∧ ie.zero = some Z ∧ ∀ ρ, ARels ρ z Z.cells.toList)
    (v : At) (h : Heap) (k : Heap → Bool) (hk : xclear z v h k = true) (hd : (∃ kt e, d = .map kt e) → ∀ b o n c sz ex, v ≠ .slc b o n c sz ex) : ∃ h', k h' = true ∧ OpS P o [.one v] h (.tup []) h' := by
  have fin : ∀ {h' : Heap} (hs : ∀ (H : Nat) (W0 : World) (ρ : Ren) (w : World) (X : Value) (ty : TypeId), Rel H W0 ρ h w → ARel ρ v X → ∃ w' ρ', (Builtin.clear_ #[t] ty #[X]).run P w = .ok (.tuple #[]) w' ∧ Ext ρ h ρ' h' ∧ Rel H W0 ρ' h' w'), OpS P o [.one v] h (.tup []) h' := by
    intro h' hs
    refine OpS.of_run fun H W0 ρ w ev hv hrel => ?_
    rw [ho, call_operands_builtin] at hv
    obtain ⟨V, hL, h1⟩ := VRels.inv1 hv
    simp at hL
    subst hL
    obtain ⟨w', ρ', hr, hx, hR⟩ := hs H W0 ρ w _ o.type hrel (vinv h1)
    refine ⟨.tuple #[], w', ρ', .inl ?_, hx, hR, .tup .nil⟩
    rw [exec_builtin ev o _ _ _ ho]
    simp only [builtin, List.map_toArray, List.map_cons, List.map_nil, Sem.run_bind, hr, Result.andThen_ok, Sem.run_pure]
  have nothing : ∀ (X : Value) (ty : TypeId) (w : World), (X = .map none ∨ (∃ n c, X = .slice none n c) ∨ (∃ a c, X = .slice a 0 c)) → (Builtin.clear_ #[t] ty #[X]).run P w = .ok (.tuple #[]) w := by
    intro X ty w hX
    rcases hX with rfl | ⟨n, c, rfl⟩ | ⟨a, c, rfl⟩
    · simp [Builtin.clear_, run_underlying ht]
    · simp [Builtin.clear_, run_underlying ht]
    · cases a <;> simp [Builtin.clear_, run_underlying ht]
  unfold xclear at hk
  split at hk
  · exact ⟨h, hk, fin fun H W0 ρ w X ty r hX => by cases hX; exact ⟨w, ρ, nothing _ _ _ (.inr (.inl ⟨_, _, rfl⟩)), Ext.refl _ _, r⟩⟩
  · exact ⟨h, hk, fin fun H W0 ρ w X ty r hX => by cases hX; exact ⟨w, ρ, nothing _ _ _ (.inr (.inr ⟨_, _, rfl⟩)), Ext.refl _ _, r⟩⟩
  · exact ⟨h, hk, fin fun H W0 ρ w X ty r hX => by cases hX; exact ⟨w, ρ, nothing _ _ _ (.inl rfl), Ext.refl _ _, r⟩⟩
  · rename_i b
    obtain ⟨es, hg, hk⟩ := mapK_sound hk
    obtain ⟨m, hm, hk⟩ := T.setK_sound _ _ _ _ hk
    refine ⟨_, hk, fin fun H W0 ρ w X ty r hX => ?_⟩
    obtain ⟨B, S, E, clock, rfl, hb, hH, hw, _, _⟩ := r.mapAt hg hX
    obtain ⟨r', x'⟩ := r.writeMap (h' := ⟨m, h.next⟩) (es' := []) hb hg rfl hm hw #[] clock rfl (fun i k x hx => by simp at hx)
    refine ⟨_, ρ, ?_, x', r'⟩
    have e1 := run_getObj (P := P) hw
    have e2 := run_setObj (P := P) hw (.map #[] clock)
    rcases hz with ⟨kt, e, rfl⟩ | ⟨e, ie, Z, rfl, _⟩
    · simp only [Builtin.clear_, List.getElem?_toArray, List.getElem?_cons_zero, Sem.run_bind, run_underlying ht, Result.andThen_ok, e1, e2, Sem.run_pure]
    · simp only [Builtin.clear_, List.getElem?_toArray, List.getElem?_cons_zero, Sem.run_bind, run_underlying ht, Result.andThen_ok, e1, e2, Sem.run_pure]
  · rename_i b o' n c sz ex
    rw [sel_eq] at hk
    by_cases h0 : n = 0
    · subst h0
      rw [if_pos (show Nat.beq 0 0 = true from rfl)] at hk
      exact ⟨h, hk, fin fun H W0 ρ w X ty r hX => by cases hX <;> exact ⟨w, ρ, nothing _ _ _ (.inr (.inr ⟨_, _, rfl⟩)), Ext.refl _ _, r⟩⟩
    · rw [if_neg (by simpa using h0), lrepK_eq] at hk
      obtain ⟨c0, fz0, byte0, bd0, hg⟩ := storeK_live hk
      obtain ⟨h', hk, _, hs⟩ := storeK_sound (P := P) hk
      refine ⟨h', hk, fin fun H W0 ρ w X ty r hX => ?_⟩
      rcases hz with ⟨kt, e, rfl⟩ | ⟨e, ie, Z, rfl, hie, hzr, hz⟩
      · exact absurd rfl (hd ⟨kt, e, rfl⟩ b o' n c sz ex)
      · cases hX with
        | slcd q a1 a2 a3 => exact absurd (r.dead b _ q hg) (by intro q; cases q)
        | slc q a1 a2 a3 a4 =>
          have hrel := (hz ρ).flat n
          obtain ⟨A, w', hA, hst, _, hx', hr'⟩ := hs H W0 ρ w _ _ r (.ptr (o := o') q) hrel
          cases hA
          refine ⟨w', ρ, ?_, hx', hr'⟩
          obtain ⟨n, rfl⟩ : ∃ m, n = m + 1 := ⟨n - 1, by omega⟩
          have e1 : (Builtin.zeroCells Z.cells (n + 1)).toList = (List.replicate (n + 1) Z.cells.toList).flatten := zeros_toList Z.cells (n + 1) _ rfl
          have e2 := hst _ ⟨_, _, rfl, rfl⟩
          rw [← e1] at e2
          simp [Builtin.clear_, run_underlying ht, zeroValue, typeInfo, hie, hzr, e2]
  · cases hk

/-! ### make -/
noncomputable def xmake (esz : Nat) (be : Bool) (z : List At) (l c : Nat) (h : Heap) (k : At → Heap → Bool) : Bool :=
  gd (Nat.ble c 1048576) (gd (Nat.ble l c) (lrepK c z (fun cs => newK cs be h (fun nb h' => k (.slc nb 0 l c esz true) h'))))
theorem s_makeSlice (o : Oper) (t e : TypeId) (x y : Operand) (ho : o.op = .makeSlice t x y) (ht : P.underlying t = some (.slice e)) (ie : TypeInfo) (hie : P.info? e = some ie) (Z : Value) (hzr : ie.zero = some Z) (hzs : Z.cells.size = ie.size) (hby : ie.bytes ≤ 1048576) (be : Bool) (hbe : be = true → e = 5) (z : List At) (hz : ∀ ρ, ARels ρ z Z.cells.toList)
    (kl kc : IntKind) (l c : Nat) (h : Heap) (k : At → Heap → Bool) (hk : xmake ie.size be z l c h k = true) : ∃ r h', k r h' = true ∧ OpS P o [.one (.int kl (.ofNat l)), .one (.int kc (.ofNat c))] h (.one r) h' := by
  obtain ⟨h1, hk⟩ := gd_eq hk
  obtain ⟨h2, hk⟩ := gd_eq hk
  have h1 : c ≤ 1048576 := by simpa using h1
  have h2 : l ≤ c := by simpa using h2
  rw [lrepK_eq] at hk
  obtain ⟨h', hk, hs⟩ := newK_sound hk
  refine ⟨_, h', hk, OpS.of_run fun H W0 ρ w ev hv hrel => ?_⟩
  rw [ho] at hv
  obtain ⟨V, U, hL, q1, q2⟩ := VRels.inv2 hv
  simp [Op.operands] at hL
  obtain ⟨rfl, rfl⟩ := hL
  have q1 := vinv q1
  have q2 := vinv q2
  generalize hx : ev x = X at q1
  generalize hy : ev y = Y at q2
  cases q1
  cases q2
  have hm : (madeCells Z.cells (c * ie.size)).toList = (List.replicate c Z.cells.toList).flatten := zeros_toList Z.cells c _ (by rw [hzs])
  obtain ⟨ρ', _, hx', hr', hat⟩ := hs H W0 ρ w (madeCells Z.cells (c * ie.size)) e hrel (by rw [hm]; exact (hz ρ).flat c) hbe
  have hb : (ie.bytes : Int) * (c : Int) ≤ 281474976710656 := by
    have : ie.bytes * c ≤ 1048576 * 1048576 := Nat.mul_le_mul hby h1
    have e : (ie.bytes : Int) * (c : Int) = ((ie.bytes * c : Nat) : Int) := by simp
    omega
  have hrun := run_make (P := P) w t e ie Z ht hie hzr kl kc (l : Int) (c : Int) (by omega) (by omega) hb (by omega)
  refine ⟨.slice (some ⟨w.heap.size, 0, none⟩) l c, _, ρ', .inl ?_, hx', hr', .one ?_⟩
  · unfold execOp
    rw [ho]
    simp only [hx, hy, Sem.run_bind]
    have hrun' : (Instr.makeSlice t (.int kl (.ofNat l)) (.int kc (.ofNat c))).run P w = .ok (.slice (some ⟨w.heap.size, 0, none⟩) l c) (w.alloc (.cells (madeCells Z.cells (c * ie.size)) e)) := by simpa using hrun
    rw [hrun']
    rfl
  · have := ARel.slc (o := 0) (n := l) (c := c) (c' := c) (sz := ie.size) (ex := true) hat h2 (Nat.le_refl _) (fun _ => rfl) (by simp [size_madeCells])
    simpa using this
end Go.Proofs.YtddbhljljmijcaaGreat.V
