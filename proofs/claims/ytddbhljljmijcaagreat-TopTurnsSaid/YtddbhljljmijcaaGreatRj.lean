/- Appends. -/
import Derived.Test.YtddbhljljmijcaaGreatRi
import Derived.Laws.AppendOwn
namespace Go.Proofs.YtddbhljljmijcaaGreat.V
open Go.RowKit
set_option linter.unusedVariables false
set_option linter.unusedSimpArgs false
variable {P : Program}

/-! ### What is appended -/
noncomputable def bytesK (s : List Nat) (k : List At → Bool) : Bool :=
  List.rec (motive := fun _ => (List At → Bool) → Bool) (fun k => k []) (fun n _ ih k => ih (fun l => k (.int .u8 (.ofNat n) :: l))) s k
theorem bytesK_eq : ∀ (s : List Nat) (k : List At → Bool), bytesK s k = k (s.map (fun n => .int .u8 (.ofNat n)))
  | [], k => rfl
  | n :: s, k => bytesK_eq s _
noncomputable def srcK (esz : Nat) (x : At) (h : Heap) (k : Nat → List At → Bool) : Bool :=
  match x with
  | .nils => k 0 []
  | .emps => k 0 []
  | .slc b o n _ sz _ => gd (Nat.beq sz esz) (cellsK h b (fun c _ _ => fN (n * esz) (fun q => lsubK c o q (fun l => k n l))))
  | .str s => gd (Nat.beq esz 1) (llenK s (fun n => bytesK s (fun l => k n l)))
  | _ => false
theorem srcK_sound {esz : Nat} {x : At} {h : Heap} {k : Nat → List At → Bool} (hk : srcK esz x h k = true) : ∃ n l, k n l = true ∧ l.length = n * esz ∧ ∀ (H : Nat) (W0 : World) (ρ : Ren) (w : World) (X : Value), Rel H W0 ρ h w → ARel ρ x X →
    (∀ w', (Builtin.lenOf X).run P w' = .ok n w') ∧ ∃ N : List Value, (∀ w' : World, w'.heap = w.heap → (Builtin.firstCells esz n X).run P w' = .ok N.toArray w') ∧ ARels ρ l N := by
  unfold srcK at hk
  split at hk
  · refine ⟨0, [], hk, by simp, fun H W0 ρ w X r hX => ?_⟩
    cases hX
    exact ⟨fun w' => rfl, [], fun w' _ => by simp [Builtin.firstCells], .nil⟩
  · refine ⟨0, [], hk, by simp, fun H W0 ρ w X r hX => ?_⟩
    cases hX
    exact ⟨fun w' => rfl, [], fun w' _ => by simp [Builtin.firstCells, loadCells, loadCellsFrom], .nil⟩
  · rename_i b o n c sz ex
    obtain ⟨h0, hk⟩ := gd_eq hk
    have h0 : sz = esz := by simpa using h0
    subst h0
    obtain ⟨cs, fz, byte, bd, hg, hk⟩ := cellsK_sound hk
    rw [fN_eq] at hk
    obtain ⟨l, hl, hc, hk⟩ := lsubK_sound _ _ _ _ hk
    refine ⟨n, l, hk, hl, fun H W0 ρ w X r hX => ?_⟩
    have key : ∀ (hd : (ρ b).Known), ∃ B base S CS e fr, ρ b = .loc B base S ∧ H ≤ B ∧ w.heap[B]? = some (.cells CS e fr) ∧ CS.size = S ∧ (∀ (i : Nat) a, cs[i]? = some a → ∃ v, CS[base + i]? = some v ∧ ARel ρ a v) ∧ _ := fun hd => r.row hg hd
    cases hX with
    | slcd q hn hc' hx => exact absurd (r.dead b _ q hg) (by intro q; cases q)
    | slc q hn hc' hx hs =>
      obtain ⟨B, base, S, CS, el, fr, hb, _, hw, _, hcs, _⟩ := key (by rw [q]; trivial)
      rw [hb] at q
      injection q with q1 q2
      subst q1; subst q2
      refine ⟨fun w' => rfl, ?_⟩
      have hcell : ∀ j, j < n * sz → ∃ v a, CS[base + o + j]? = some v ∧ l[j]? = some a ∧ ARel ρ a v := fun j hj => by
        obtain ⟨a, ha⟩ : ∃ a, l[j]? = some a := ⟨l[j]'(by omega), List.getElem?_eq_getElem _⟩
        obtain ⟨v, hv, hr⟩ := hcs (o + j) a ((hc j hj).trans ha)
        exact ⟨v, a, by rw [← hv]; congr 1; omega, ha, hr⟩
      refine ⟨(List.range (n * sz)).map (fun j => (CS[base + o + j]?).getD Go.undef), fun w' hw' => ?_, ?_⟩
      · exact run_firstCells_some w' sz n ⟨B, base + o, none⟩ n _ _ (by simp) (fun j v hv => by
          have hj : j < n * sz := by have := (List.getElem?_eq_some_iff.1 hv).1; simpa using this
          rw [List.getElem?_map, List.getElem?_range hj] at hv
          obtain ⟨v', a, h1, _⟩ := hcell j hj
          rw [Option.map_some, h1] at hv
          simp at hv
          rw [addr_add, cell_of B _ (by rw [hw']; exact hw), h1, hv])
      · refine ARels.of_get (by simp [hl]) (fun j a v h1 h2 => ?_)
        have hj : j < n * sz := by have := (List.getElem?_eq_some_iff.1 h1).1; omega
        obtain ⟨v', a', e1, e2, e3⟩ := hcell j hj
        rw [h1] at e2
        cases e2
        simp only [List.getElem?_map, List.getElem?_range hj, e1, Option.map_some] at h2
        cases h2
        exact e3
  · rename_i s
    obtain ⟨h0, hk⟩ := gd_eq hk
    have h0 : esz = 1 := by simpa using h0
    subst h0
    rw [llenK_eq, bytesK_eq] at hk
    refine ⟨_, _, hk, by simp, fun H W0 ρ w X r hX => ?_⟩
    cases hX with | str hs => ?_
    rename_i bs
    have hl : s.length = bs.size := by rw [← hs, List.length_map, Array.length_toList]; rfl
    refine ⟨fun w' => by simp [Builtin.lenOf, hl], bs.data.toList.map (fun b => .int .u8 b.toNat), fun w' _ => ?_, ?_⟩
    · simp only [Builtin.firstCells, Sem.run_pure]
      congr 1
      apply Array.ext'
      rw [ByteArray.data_extract]
      rw [hl]
      have : bs.data.extract 0 bs.size = bs.data := by
        have : bs.size = bs.data.size := rfl
        rw [this]; simp
      rw [this]
      simp
    · subst hs
      clear hk hl
      rw [List.map_map]
      generalize bs.data.toList = q
      induction q with
      | nil => exact .nil
      | cons x q ih => exact .cons (.int _ _) ih
  · cases hk

/-! ### The two ways of an append -/
section
variable {sT xT e : TypeId} {ie : TypeInfo} {dx : TypeDesc}
theorem run_app_fit (ht : P.underlying sT = some (.slice e)) (hie : P.info? e = some ie) (hx : P.underlying xT = some dx) (hxi : ∀ k, dx ≠ .int k) (ty : TypeId) (base : Option Addr) (sLen sCap n : Nat) (X : Value) (N : List Value) (w : World)
    (hl : ∀ w', (Builtin.lenOf X).run P w' = .ok n w') (hn : (Builtin.firstCells ie.size n X).run P w = .ok N.toArray w) (hfit : sLen + n ≤ sCap) :
    (Builtin.append_ #[sT, xT] ty #[.slice base sLen sCap, X]).run P w = (match base with
      | some a => (storeCells (a.add (sLen * ie.size)) N).run P w
      | none => .ok () w).andThen (fun _ w' => .ok (.slice base (sLen + n) sCap) w') := by
  have hz : (dx matches .int _) = false := by cases dx <;> first | rfl | exact absurd rfl (hxi _)
  cases base with
  | none => simp [Builtin.append_, run_underlying ht, run_underlying hx, hz, sizeOf, typeInfo, hie, hl, hn, hfit]
  | some a => simp [Builtin.append_, run_underlying ht, run_underlying hx, hz, sizeOf, typeInfo, hie, hl, hn, hfit]
theorem run_app_new (ht : P.underlying sT = some (.slice e)) (hie : P.info? e = some ie) (hx : P.underlying xT = some dx) (hxi : ∀ k, dx ≠ .int k) (Z : Value) (hzr : ie.zero = some Z) (ty : TypeId) (base : Option Addr) (sLen sCap n : Nat) (X : Value) (O N : List Value) (w : World)
    (hl : ∀ w', (Builtin.lenOf X).run P w' = .ok n w') (hn : ∀ w' : World, w'.heap = w.heap → (Builtin.firstCells ie.size n X).run P w' = .ok N.toArray w') (ho : ∀ w' : World, w'.heap = w.heap → (Builtin.firstCells ie.size sLen (.slice base sLen sCap)).run P w' = .ok O.toArray w')
    (hgrow : sCap < sLen + n) (hsm : sLen + n ≤ 1048576) (hb : ie.bytes ≤ 1048576) :
    ∃ cap, sLen + n ≤ cap ∧ (Builtin.append_ #[sT, xT] ty #[.slice base sLen sCap, X]).run P w = .ok (.slice (some ⟨w.heap.size, 0, none⟩) (sLen + n) cap) (w.drew.alloc (.cells (O.toArray ++ N.toArray ++ Builtin.zeroCells Z.cells (cap - (sLen + n))) e)) := by
  have hz : (dx matches .int _) = false := by cases dx <;> first | rfl | exact absurd rfl (hxi _)
  have hnf : ¬ (sLen + n ≤ sCap) := by omega
  have h63' : ¬ (9223372036854775807 < ((sLen : Int) + (n : Int))) := by omega
  have h48 := growslice_fits (bytes := ie.bytes) hgrow (by
    have : (sLen + n) * ie.bytes ≤ 1048576 * 1048576 := Nat.mul_le_mul hsm hb
    omega)
  have h48' : ¬ (281474976710656 < Builtin.nextslicecap (sLen + n) sCap * ie.bytes) := by omega
  refine ⟨grownCap w (sLen + n) sCap e, grownCap_ge w _ _ e, ?_⟩
  have hn' := hn w.drew rfl
  have ho' := ho w.drew rfl
  simp [Builtin.append_, run_underlying ht, run_underlying hx, hz, sizeOf, typeInfo, zeroValue, hie, hzr, hl, hnf, h63', h48', Question.forced, hn', ho', newRow, grownCap]
  congr 2
  apply Array.ext'
  simp
end

theorem storeCells_nil0 (A : Addr) (w : World) : (storeCells A []).run P w = .ok () w := rfl
/-- What an append of n elements, that are the cells N, comes to. -/
structure AppRun (P : Program) (sT xT ty e : TypeId) (ie : TypeInfo) (Z : Value) (X : Value) (n : Nat) (N : List Value) (w : World) : Prop where
  fit : ∀ (base : Option Addr) (sLen sCap : Nat), sLen + n ≤ sCap → (Builtin.append_ #[sT, xT] ty #[.slice base sLen sCap, X]).run P w = (match base with
      | some a => (storeCells (a.add (sLen * ie.size)) N).run P w
      | none => .ok () w).andThen (fun _ w' => .ok (.slice base (sLen + n) sCap) w')
  new : ∀ (base : Option Addr) (sLen sCap : Nat) (O : List Value), (∀ w' : World, w'.heap = w.heap → (Builtin.firstCells ie.size sLen (.slice base sLen sCap)).run P w' = .ok O.toArray w') → sCap < sLen + n → sLen + n ≤ 1048576 → ie.bytes ≤ 1048576 →
    ∃ cap, sLen + n ≤ cap ∧ (Builtin.append_ #[sT, xT] ty #[.slice base sLen sCap, X]).run P w = .ok (.slice (some ⟨w.heap.size, 0, none⟩) (sLen + n) cap) (w.drew.alloc (.cells (O.toArray ++ N.toArray ++ Builtin.zeroCells Z.cells (cap - (sLen + n))) e))
theorem AppRun.of_src {sT xT e : TypeId} {ie : TypeInfo} {dx : TypeDesc} {Z : Value} (ht : P.underlying sT = some (.slice e)) (hie : P.info? e = some ie) (hx : P.underlying xT = some dx) (hxi : ∀ k, dx ≠ .int k) (hzr : ie.zero = some Z) {X : Value} {n : Nat} {N : List Value} {w : World} (ty : TypeId)
    (hl : ∀ w', (Builtin.lenOf X).run P w' = .ok n w') (hf : ∀ w' : World, w'.heap = w.heap → (Builtin.firstCells ie.size n X).run P w' = .ok N.toArray w') : AppRun P sT xT ty e ie Z X n N w :=
  ⟨fun base sLen sCap h => run_app_fit ht hie hx hxi ty base sLen sCap n X N w hl (hf w rfl) h,
    fun base sLen sCap O ho h1 h2 h3 => run_app_new ht hie hx hxi Z hzr ty base sLen sCap n X O N w hl hf ho h1 h2 h3⟩
/-- .. of so many zeros. -/
theorem AppRun.of_zeros {sT xT e : TypeId} {ie : TypeInfo} {kx : IntKind} {Z : Value} (ht : P.underlying sT = some (.slice e)) (hie : P.info? e = some ie) (hx : P.underlying xT = some (.int kx)) (hzr : ie.zero = some Z) (hb : ie.bytes ≤ 1048576) {n : Nat} (hn : n ≤ 1048576) (h0 : n ≠ 0) (hsz : ie.size ≠ 0) {w : World} (kk : IntKind) (ty : TypeId) :
    AppRun P sT xT ty e ie Z (.int kk (.ofNat n)) n (Builtin.zeroCells Z.cells n).toList w := by
  have hw : IntKind.i64.wrap (Int.ofNat n) = (n : Int) := IntWalk.i64_in _ (by constructor <;> (simp only [Int.ofNat_eq_natCast]; omega))
  have hw' : IntKind.i64.wrap ((n : Nat) : Int) = (n : Int) := hw
  have h48 : ¬ (281474976710656 < (n : Int) * (ie.bytes : Int)) := by
    have : n * ie.bytes ≤ 1048576 * 1048576 := Nat.mul_le_mul hn hb
    have : (n : Int) * (ie.bytes : Int) = ((n * ie.bytes : Nat) : Int) := by simp
    omega
  have hne : ¬ ((n : Int) < 0) := by omega
  have hmz : ¬ n * ie.size = 0 := Nat.mul_ne_zero h0 hsz
  have hmz' : n * ie.size = 0 ↔ False := by simp [hmz]
  refine ⟨fun base sLen sCap hfit => ?_, fun base sLen sCap O ho hgrow hsm hb' => ?_⟩
  · cases base <;> simp [Builtin.append_, run_underlying ht, run_underlying hx, sizeOf, typeInfo, hie, hfit, asInt, asIntOf, hw', h48, hne, hmz, zeroValue, hzr]
  · have hnf : ¬ (sLen + n ≤ sCap) := by omega
    have h63' : ¬ (9223372036854775807 < ((sLen : Int) + (n : Int))) := by omega
    have h48' := growslice_fits (bytes := ie.bytes) hgrow (by
      have : (sLen + n) * ie.bytes ≤ 1048576 * 1048576 := Nat.mul_le_mul hsm hb
      omega)
    have h48'' : ¬ (281474976710656 < Builtin.nextslicecap (sLen + n) sCap * ie.bytes) := by omega
    refine ⟨grownCap w (sLen + n) sCap e, grownCap_ge w _ _ e, ?_⟩
    have ho' := ho w.drew rfl
    simp [Builtin.append_, run_underlying ht, run_underlying hx, sizeOf, typeInfo, hie, asInt, asIntOf, hw', h48, hne, hmz, hnf, h63', h48'', Question.forced, ho', newRow, grownCap, zeroValue, hzr]
/-! ### The operation -/
noncomputable def killK (h : Heap) (b : Nat) (l : List At) (fz : Nat) (byte : Bool) (k : Nat → Heap → Bool) : Bool :=
  h.m.setK b .gone (fun m1 => m1.setK h.next (.cells l fz byte 0) (fun m2 => fN (Nat.succ h.next) (fun nx => k h.next ⟨m2, nx⟩)))
noncomputable def appK (esz : Nat) (be : Bool) (s : At) (n : Nat) (new : List At) (h : Heap) (k : At → Heap → Bool) : Bool :=
  sel (Nat.beq n 0) (match s with
    | .nils => k .nils h
    | .emps => k .emps h
    | .slc b o m c sz ex => k (.slc b o m c sz ex) h
    | _ => false) (match s with
  | .nils => gd (Nat.ble n 1048576) (newK new be h (fun nb h' => k (.slc nb 0 n n esz false) h'))
  | .slc b o m c sz ex => gd (Nat.beq sz esz) (fN (m + n) (fun need => fN (o + m * esz) (fun at_ => sel (Nat.ble need c)
      (storeK h b at_ new (fun h' => k (.slc b o need c esz ex) h'))
      (gd (Nat.ble need 1048576) (cellsK h b (fun cs fz byte => lsubK cs o (m * esz) (fun old => lappK old new (fun all =>
        sel ex (newK all be h (fun nb h' => k (.slc nb 0 need need esz false) h'))
          (gd (Nat.ble fz at_) (fN (fz - o) (fun fz' => fB (byte && be) (fun by' => killK h b all fz' by' (fun nb h' => k (.slc nb 0 need need esz false) h'))))))))))))) 
  | _ => false)
theorem newK_sound2 {l : List At} {byte : Bool} {h : Heap} {k : Nat → Heap → Bool} (hk : newK l byte h k = true) : ∃ h', k h.next h' = true ∧ ∀ (H : Nat) (W0 : World) (ρ : Ren) (w : World) (L : Array Value) (e : TypeId), Rel H W0 ρ h w → (∀ (i : Nat) a, l[i]? = some a → ∃ v, L[i]? = some v ∧ ARel ρ a v) → (byte = true → e = 5) →
    ∃ ρ', Ext ρ h ρ' h' ∧ Rel H W0 ρ' h' (w.alloc (.cells L e)) ∧ ρ' h.next = .loc w.heap.size 0 L.size := by
  obtain ⟨m, hm, hk⟩ := T.setK_sound _ _ _ _ hk
  rw [fN_eq] at hk
  refine ⟨_, hk, fun H W0 ρ w L e r hr hb => ?_⟩
  have hu := r.fresh h.next (Nat.le_refl _)
  have hle : Ren.le ρ (ρ.set h.next (.loc w.heap.size 0 L.size)) := Ren.set_le (by rw [hu]; trivial)
  obtain ⟨r', x⟩ := r.new (h' := ⟨m, Nat.succ h.next⟩) (.cells l 0 byte 0) rfl hm (.cells L e) L.size
    ⟨L, e, (0, 0), heap_alloc_new w _, rfl, fun i a ha => let ⟨v, hv, q⟩ := hr i a ha; ⟨v, by simpa using hv, q.mono hle⟩, fun i _ _ => by simp, fun q => ⟨hb q, by simp, by simp⟩, fun q => absurd rfl q⟩
  exact ⟨_, x, r', by unfold Ren.set; rw [if_pos rfl]⟩
/-- A block dies; another one begins where it was, or elsewhere. -/
theorem killK_sound {h : Heap} {b : Nat} {l : List At} {fz : Nat} {byte : Bool} {k : Nat → Heap → Bool} (hk : killK h b l fz byte k = true) : ∃ h', k h.next h' = true ∧ h'.next = h.next + 1 ∧ (∀ j, h'.m.get j = if h.next = j then some (.cells l fz byte 0) else if b = j then some .gone else h.m.get j) := by
  obtain ⟨m1, hm1, hk⟩ := T.setK_sound _ _ _ _ hk
  obtain ⟨m2, hm2, hk⟩ := T.setK_sound _ _ _ _ hk
  rw [fN_eq] at hk
  exact ⟨_, hk, rfl, fun j => by rw [hm2, hm1]⟩
/-- The renaming behind a killing: the new block lies at B. -/
theorem Rel.kill {H : Nat} {W0 : World} {ρ : Ren} {h h' : Heap} {w w' : World} (r : Rel H W0 ρ h w) {b B0 base0 S0 : Nat} (e : ρ b = .loc B0 base0 S0) (hbn : b < h.next) {ob : Ob} (hn : h'.next = h.next + 1) (hg : ∀ j, h'.m.get j = if h.next = j then some ob else if b = j then some .gone else h.m.get j)
    {B base S : Nat} (hB : H ≤ B) (hne : ∀ b' B' base' S', b' ≠ b → ρ b' = .loc B' base' S' → B' ≠ B) (hob : ObRel ((ρ.set b .dead).set h.next (.loc B base S)) w' B base S ob) (hbel : Below H W0 w') (ho : ∀ k, k ≠ B → k < w.heap.size → w'.heap[k]? = w.heap[k]?) (hq : ∀ o : Obj, w.heap[B]? = some o → ¬ Quiet o) :
    Rel H W0 ((ρ.set b .dead).set h.next (.loc B base S)) h' w' ∧ Ext ρ h ((ρ.set b .dead).set h.next (.loc B base S)) h' := by
  have hu := r.fresh h.next (Nat.le_refl _)
  have hle : Ren.le ρ ((ρ.set b .dead).set h.next (.loc B base S)) := by
    intro j
    unfold Ren.set
    by_cases h1 : j = h.next
    · rw [if_pos h1, h1, hu]; trivial
    · rw [if_neg h1]
      by_cases h2 : j = b
      · rw [if_pos h2, h2, e]; exact .inr rfl
      · rw [if_neg h2]; exact Loc.le_refl _
  refine ⟨⟨r.base, hbel, ?_, ?_, ?_, ?_, fun k o hk hqo => by
    have h1 := r.keep k o hk hqo
    have hne : k ≠ B := fun e => hq o (by rw [← e]; exact h1) hqo
    exact (ho k hne (Array.getElem?_eq_some_iff.1 h1).1).trans h1⟩, ⟨hle, by omega, ?_⟩⟩
  · intro b' B' base' S' e'
    unfold Ren.set at e'
    by_cases h1 : b' = h.next
    · rw [if_pos h1] at e'
      injection e' with q1 q2 q3
      subst q1; subst q2; subst q3
      exact ⟨ob, by rw [hg, if_pos h1.symm], hB, hob⟩
    · rw [if_neg h1] at e'
      by_cases h2 : b' = b
      · rw [if_pos h2] at e'; cases e'
      · rw [if_neg h2] at e'
        obtain ⟨ob', g', hB', o⟩ := r.live b' B' base' S' e'
        refine ⟨ob', by rw [hg, if_neg (fun q => h1 q.symm), if_neg (fun q => h2 q.symm)]; exact g', hB', (o.mono hle).same (ho B' (hne b' B' base' S' h2 e') o.lt)⟩
  · intro b' ob' e' g'
    unfold Ren.set at e'
    by_cases h1 : b' = h.next
    · rw [if_pos h1] at e'; cases e'
    · rw [if_neg h1] at e'
      rw [hg, if_neg (fun q => h1 q.symm)] at g'
      by_cases h2 : b' = b
      · rw [if_pos h2.symm] at g'; cases g'; rfl
      · rw [if_neg h2] at e'
        rw [if_neg (fun q => h2 q.symm)] at g'
        exact r.dead b' ob' e' g'
  · intro b' hb'
    unfold Ren.set
    rw [if_neg (by omega), if_neg (by omega)]
    exact r.fresh b' (by omega)
  · intro b1 b2 B1 base1 S1 base2 S2 e1 e2
    unfold Ren.set at e1 e2
    by_cases h1 : b1 = h.next <;> by_cases h2 : b2 = h.next
    · omega
    · rw [if_pos h1] at e1; rw [if_neg h2] at e2
      injection e1 with q1
      by_cases h3 : b2 = b
      · rw [if_pos h3] at e2; cases e2
      · rw [if_neg h3] at e2
        exact absurd q1.symm (hne b2 _ _ _ h3 e2)
    · rw [if_neg h1] at e1; rw [if_pos h2] at e2
      injection e2 with q1
      by_cases h3 : b1 = b
      · rw [if_pos h3] at e1; cases e1
      · rw [if_neg h3] at e1
        exact absurd q1.symm (hne b1 _ _ _ h3 e1)
    · rw [if_neg h1] at e1; rw [if_neg h2] at e2
      by_cases h3 : b1 = b
      · rw [if_pos h3] at e1; cases e1
      · by_cases h4 : b2 = b
        · rw [if_pos h4] at e2; cases e2
        · rw [if_neg h3] at e1; rw [if_neg h4] at e2
          exact r.inj _ _ _ _ _ _ _ e1 e2
  · intro b' hb' e'
    have h1 : b' ≠ h.next := by omega
    have h2 : b' ≠ b := by intro q; subst q; rw [e] at e'; cases e'
    refine ⟨?_, by rw [hg, if_neg (fun q => h1 q.symm), if_neg (fun q => h2 q.symm)]⟩
    unfold Ren.set
    rw [if_neg h1, if_neg h2]
    exact e'
theorem ARels.nil_inv {ρ : Ren} {L : List Value} (h : ARels ρ [] L) : L = [] := by cases h; rfl
theorem storeCells_nil (A : Addr) (w : World) : (storeCells A []).run P w = .ok () w := rfl
theorem storeK_live {h : Heap} {b i : Nat} {l : List At} {k : Heap → Bool} (hk : storeK h b i l k = true) : ∃ c fz byte bd, h.m.get b = some (.cells c fz byte bd) := by
  obtain ⟨c, fz, byte, bd, hg, _⟩ := cells4K_sound hk
  exact ⟨c, fz, byte, bd, hg⟩
/-- The cells of a slice that is known. -/
theorem old_cells {b o m B base : Nat} {cs old : List At} {CS : Array Value} {el : TypeId} {fr : Nat × Nat} {sz : Nat} {ρ : Ren} {w : World} (hw : w.heap[B]? = some (.cells CS el fr)) (hcs : ∀ (i : Nat) a, cs[i]? = some a → ∃ v, CS[base + i]? = some v ∧ ARel ρ a v)
    (hl : old.length = m * sz) (hc : ∀ i, i < m * sz → cs[o + i]? = old[i]?) : ∃ O : List Value, O.length = m * sz ∧ ARels ρ old O ∧ (∀ j, j < m * sz → CS[base + o + j]? = O[j]?) ∧ ∀ (w' : World) (n c : Nat), w'.heap = w.heap → (Builtin.firstCells sz m (.slice (some ⟨B, base + o, none⟩) n c)).run P w' = .ok O.toArray w' := by
  have hcell : ∀ j, j < m * sz → ∃ v a, CS[base + o + j]? = some v ∧ old[j]? = some a ∧ ARel ρ a v := fun j hj => by
    obtain ⟨a, ha⟩ : ∃ a, old[j]? = some a := ⟨old[j]'(by omega), List.getElem?_eq_getElem _⟩
    obtain ⟨v, hv, hr⟩ := hcs (o + j) a ((hc j hj).trans ha)
    exact ⟨v, a, by rw [← hv]; congr 1; omega, ha, hr⟩
  have hO : ∀ j, j < m * sz → ((List.range (m * sz)).map (fun j => (CS[base + o + j]?).getD Go.undef))[j]? = CS[base + o + j]? := fun j hj => by
    obtain ⟨v, a, h1, _⟩ := hcell j hj
    rw [List.getElem?_map, List.getElem?_range hj, Option.map_some, h1]
    rfl
  refine ⟨(List.range (m * sz)).map (fun j => (CS[base + o + j]?).getD Go.undef), by simp, ?_, fun j hj => (hO j hj).symm, fun w' n c hw' => ?_⟩
  · refine ARels.of_get (by simp [hl]) (fun j a v h1 h2 => ?_)
    have hj : j < m * sz := by have := (List.getElem?_eq_some_iff.1 h1).1; omega
    obtain ⟨v', a', e1, e2, e3⟩ := hcell j hj
    rw [h1] at e2
    cases e2
    rw [hO j hj, e1] at h2
    cases h2
    exact e3
  · exact run_firstCells_some w' sz m ⟨B, base + o, none⟩ n _ _ (by simp) (fun j v hv => by
      have hj : j < m * sz := by have := (List.getElem?_eq_some_iff.1 hv).1; simpa using this
      rw [hO j hj] at hv
      rw [addr_add, cell_of B _ (by rw [hw']; exact hw), hv])
theorem get_app3 {O N : List Value} {R : Array Value} {old new : List At} {ρ : Ren} (hO : ARels ρ old O) (hN : ARels ρ new N) (i : Nat) (a : At) (ha : (old ++ new)[i]? = some a) : ∃ v, (O.toArray ++ N.toArray ++ R)[i]? = some v ∧ ARel ρ a v := by
  obtain ⟨v, hv, q⟩ := (hO.append hN).get i a ha
  refine ⟨v, ?_, q⟩
  have hlt : i < (O ++ N).length := (List.getElem?_eq_some_iff.1 hv).1
  rw [Array.getElem?_append_left (by simpa using hlt)]
  simpa using hv
theorem appK_sound {sT xT e : TypeId} {ie : TypeInfo} {Z : Value} (hzs : Z.cells.size = ie.size) (hby : ie.bytes ≤ 1048576) {be : Bool} (hbe : be = true → e = 5)
    {s : At} {n : Nat} {new : List At} {h : Heap} {k : At → Heap → Bool} (hnl : new.length = n * ie.size) (hk : appK ie.size be s n new h k = true) : ∃ r h', k r h' = true ∧ ∀ (H : Nat) (W0 : World) (ρ : Ren) (w : World) (S X : Value) (ty : TypeId) (N : List Value), Rel H W0 ρ h w → ARel ρ s S →
      AppRun P sT xT ty e ie Z X n N w → ARels ρ new N → ∃ V w' ρ', (Builtin.append_ #[sT, xT] ty #[S, X]).run P w = .ok V w' ∧ Ext ρ h ρ' h' ∧ Rel H W0 ρ' h' w' ∧ ARel ρ' r V := by
  unfold appK at hk
  rw [sel_eq] at hk
  by_cases hn0 : n = 0
  · subst hn0
    rw [if_pos (show Nat.beq 0 0 = true from rfl)] at hk
    have hnew : new = [] := List.eq_nil_of_length_eq_zero (by simpa using hnl)
    subst hnew
    have same : ∀ (H : Nat) (W0 : World) (ρ : Ren) (w : World) (base : Option Addr) (m c : Nat) (X : Value) (ty : TypeId) (N : List Value), m ≤ c → Rel H W0 ρ h w → AppRun P sT xT ty e ie Z X 0 N w → ARels ρ [] N → (Builtin.append_ #[sT, xT] ty #[.slice base m c, X]).run P w = .ok (.slice base m c) w := by
      intro H W0 ρ w base m c X ty N hmc r hf hN
      obtain rfl := hN.nil_inv
      rw [hf.fit base m c (by omega)]
      cases base <;> simp [storeCells_nil]
    split at hk
    · refine ⟨_, _, hk, fun H W0 ρ w S X ty N r hS hf hN => ?_⟩
      cases hS
      exact ⟨_, w, ρ, same H W0 ρ w none 0 0 X ty N (Nat.le_refl _) r hf hN, Ext.refl _ _, r, .nils⟩
    · refine ⟨_, _, hk, fun H W0 ρ w S X ty N r hS hf hN => ?_⟩
      cases hS
      exact ⟨_, w, ρ, same H W0 ρ w _ 0 _ X ty N (Nat.zero_le _) r hf hN, Ext.refl _ _, r, .emps⟩
    · refine ⟨_, _, hk, fun H W0 ρ w S X ty N r hS hf hN => ?_⟩
      cases hS with
      | slc q a1 a2 a3 a4 => exact ⟨_, w, ρ, same H W0 ρ w _ _ _ X ty N (by omega) r hf hN, Ext.refl _ _, r, .slc q a1 a2 a3 a4⟩
      | slcd q a1 a2 a3 => exact ⟨_, w, ρ, same H W0 ρ w _ _ _ X ty N (by omega) r hf hN, Ext.refl _ _, r, .slcd q a1 a2 a3⟩
    · cases hk
  · rw [if_neg (by simpa using hn0)] at hk
    split at hk
    · -- nil
      obtain ⟨hsm, hk⟩ := gd_eq hk
      have hsm : n ≤ 1048576 := by simpa using hsm
      obtain ⟨h', hk, hs⟩ := newK_sound2 hk
      refine ⟨_, h', hk, fun H W0 ρ w S X ty N r hS hf hN => ?_⟩
      cases hS
      obtain ⟨cap, hcap, hrun⟩ := hf.new none 0 0 [] (fun w' _ => run_firstCells_none w' _ _ _ _) (by omega) (by omega) hby
      have hr0 : Rel H W0 ρ h w.drew := r.drawn rfl rfl rfl rfl
      obtain ⟨ρ', hx', hr', hat⟩ := hs H W0 ρ w.drew (([] : List Value).toArray ++ N.toArray ++ Builtin.zeroCells Z.cells (cap - (0 + n))) e hr0 (fun i a ha => by
        obtain ⟨v, hv, q⟩ := hN.get i a ha
        refine ⟨v, ?_, q⟩
        have hlt : i < N.length := (List.getElem?_eq_some_iff.1 hv).1
        simp only [Array.empty_append, List.append_nil]
        rw [Array.getElem?_append_left (by simpa using hlt)]
        simpa using hv) hbe
      refine ⟨_, _, ρ', hrun, hx', hr', ?_⟩
      have hNl := hN.length
      rw [Nat.zero_add] at hcap ⊢
      have := ARel.slc (o := 0) (n := n) (c := n) (sz := ie.size) (ex := false) hat (Nat.le_refl _) hcap (fun q => by cases q) (by
        simp [size_zeroCells, hzs]
        rw [← hNl, hnl, ← Nat.add_mul]
        exact Nat.mul_le_mul_right _ (by omega))
      simpa using this
    · -- a slice
      rename_i b o m c sz ex
      obtain ⟨h0, hk1⟩ := gd_eq hk
      clear hk
      have h0 : sz = ie.size := by simpa using h0
      subst h0
      have hk := hk1
      clear hk1
      rw [fN_eq, fN_eq, sel_eq] at hk
      by_cases hfit : m + n ≤ c
      · rw [if_pos (by simpa using hfit)] at hk
        obtain ⟨c0, fz0, byte0, bd0, hg⟩ := storeK_live hk
        obtain ⟨h', hk, _, hs⟩ := storeK_sound (P := P) hk
        refine ⟨_, h', hk, fun H W0 ρ w S X ty N r hS hf hN => ?_⟩
        cases hS with
        | slcd q a1 a2 a3 =>
          exact absurd (r.dead b _ q hg) (by intro q; cases q)
        | slc q a1 a2 a3 a4 =>
          rename_i B base S c'
          obtain ⟨A, w', hA, hst, _, hx', hr'⟩ := hs H W0 ρ w _ N r (.ptr (o := o + m * ie.size) q) hN
          cases hA
          refine ⟨_, w', ρ, ?_, hx', hr', .slc q (by omega) a2 a3 a4⟩
          rw [hf.fit _ m c' (by omega)]
          simp only [addr_add]
          rw [hst _ ⟨_, _, rfl, by rw [Nat.add_assoc]⟩]
          rfl
      · rw [if_neg (by simpa using hfit)] at hk
        obtain ⟨hsm, hk⟩ := gd_eq hk
        have hsm : m + n ≤ 1048576 := by simpa using hsm
        obtain ⟨cs, fz, byte, bd, hg, hk⟩ := cellsK_sound hk
        obtain ⟨old, hol, hoc, hk⟩ := lsubK_sound _ _ _ _ hk
        rw [lappK_eq, sel_eq] at hk
        -- what holds at every slice of this kind
        have pre : ∀ (H : Nat) (W0 : World) (ρ : Ren) (w : World) (S : Value), Rel H W0 ρ h w → ARel ρ (.slc b o m c ie.size ex) S → ∃ B base S0 c' CS el fr O, S = .slice (some ⟨B, base + o, none⟩) m c' ∧ ρ b = .loc B base S0 ∧ H ≤ B ∧ m ≤ c ∧ c ≤ c' ∧ (ex = true → c' = c) ∧ base + o + c' * ie.size ≤ S0 ∧
            w.heap[B]? = some (.cells CS el fr) ∧ CS.size = S0 ∧ (∀ i, fz ≤ i → base + i < S0 → w.frozen? ⟨B, base + i, none⟩ = false) ∧ (byte = true → el = 5 ∧ fr.1 ≤ fr.2 ∧ fr.2 ≤ base + fz) ∧ O.length = m * ie.size ∧ ARels ρ old O ∧ (∀ j, j < m * ie.size → CS[base + o + j]? = O[j]?) ∧
            ∀ (w' : World) (n c : Nat), w'.heap = w.heap → (Builtin.firstCells ie.size m (.slice (some ⟨B, base + o, none⟩) n c)).run P w' = .ok O.toArray w' := by
          intro H W0 ρ w S r hS
          cases hS with
          | slcd q a1 a2 a3 => exact absurd (r.dead b _ q hg) (by intro q; cases q)
          | slc q a1 a2 a3 a4 =>
            obtain ⟨B, base, S0, CS, el, fr, hb, hH, hw, hS0, hcs, hfz, hy, _⟩ := r.row hg (by rw [q]; trivial)
            rw [hb] at q
            injection q with q1 q2 q3
            subst q1; subst q2; subst q3
            obtain ⟨O, o1, o2, o3, o4⟩ := old_cells (P := P) (b := b) (base := base) hw hcs hol hoc
            exact ⟨B, base, S0, _, CS, el, fr, O, rfl, hb, hH, a1, a2, a3, a4, hw, hS0, hfz, hy, o1, o2, o3, o4⟩
        have fresh : ∀ {O N : List Value} {cap : Nat}, O.length = m * ie.size → N.length = n * ie.size → m + n ≤ cap → (m + n ≤ cap ∧ 0 + 0 + cap * ie.size ≤ (O.toArray ++ N.toArray ++ Builtin.zeroCells Z.cells (cap - (m + n))).size) := by
          intro O N cap h1 h2 h3
          refine ⟨h3, ?_⟩
          simp [size_zeroCells, hzs]
          rw [h1, h2, ← Nat.add_mul, ← Nat.add_mul]
          exact Nat.mul_le_mul_right _ (by omega)
        by_cases hex : ex = true
        · rw [if_pos hex] at hk
          obtain ⟨h', hk, hs⟩ := newK_sound2 hk
          refine ⟨_, h', hk, fun H W0 ρ w S X ty N r hS hf hN => ?_⟩
          obtain ⟨B, base, S0, c', CS, el, fr, O, rfl, hb, hH, a1, a2, a3, a4, hw, hS0, hfz, hy, o1, o2, o3, o4⟩ := pre H W0 ρ w S r hS
          have hc' := a3 hex
          obtain ⟨cap, hcap, hrun⟩ := hf.new _ m c' O (fun w' hw' => o4 w' _ _ hw') (by omega) hsm hby
          have hr0 : Rel H W0 ρ h w.drew := r.drawn rfl rfl rfl rfl
          obtain ⟨ρ', hx', hr', hat⟩ := hs H W0 ρ w.drew _ e hr0 (fun i a ha => get_app3 o2 hN i a ha) hbe
          have hNl : N.length = n * ie.size := by rw [← hN.length, hnl]
          obtain ⟨f1, f2⟩ := fresh o1 hNl hcap
          refine ⟨_, _, ρ', hrun, hx', hr', ?_⟩
          have := ARel.slc (o := 0) (n := m + n) (c := m + n) (sz := ie.size) (ex := false) hat (Nat.le_refl _) f1 (fun q => by cases q) f2
          simpa using this
        · rw [if_neg hex] at hk
          obtain ⟨hfo, hk⟩ := gd_eq hk
          have hfo : fz ≤ o + m * ie.size := by simpa using hfo
          rw [fN_eq, fB_eq] at hk
          obtain ⟨h', hk, hn', hg'⟩ := killK_sound hk
          refine ⟨_, h', hk, fun H W0 ρ w S X ty N r hS hf hN => ?_⟩
          obtain ⟨B, base, S0, c', CS, el, fr, O, rfl, hb, hH, a1, a2, a3, a4, hw, hS0, hfz, hy, o1, o2, o3, o4⟩ := pre H W0 ρ w S r hS
          have hNl : N.length = n * ie.size := by rw [← hN.length, hnl]
          have hbn : b < h.next := by
            rcases Nat.lt_or_ge b h.next with q | q
            · exact q
            · have := r.fresh b q; rw [hb] at this; cases this
          have hle : ∀ B' base' S', Ren.le ρ ((ρ.set b .dead).set h.next (.loc B' base' S')) := by
            intro B' base' S' j
            unfold Ren.set
            by_cases h1 : j = h.next
            · rw [if_pos h1, h1, r.fresh h.next (Nat.le_refl _)]; trivial
            · rw [if_neg h1]
              by_cases h2 : j = b
              · rw [if_pos h2, h2, hb]; exact .inr rfl
              · rw [if_neg h2]; exact Loc.le_refl _
          by_cases hroom : m + n ≤ c'
          · -- in place
            have hbound : base + o + m * ie.size + N.length ≤ CS.size := by
              rw [hNl, hS0, Nat.add_assoc (base + o), ← Nat.add_mul]
              exact Nat.le_trans (Nat.add_le_add_left (Nat.mul_le_mul_right _ hroom) _) a4
            obtain ⟨CS', b1, b2, b3, b4, b5, b6, b7, b8⟩ := heap_setCells B el fr N (base + o + m * ie.size) w CS hw
            have hrun : (Builtin.append_ #[sT, xT] ty #[.slice (some ⟨B, base + o, none⟩) m c', X]).run P w = .ok (.slice (some ⟨B, base + o, none⟩) (m + n) c') (w.setCells B (base + o + m * ie.size) N) := by
              rw [hf.fit _ m c' hroom]
              simp only [addr_add]
              have := run_storeCells_cells (P := P) B (base + o + m * ie.size) N 0 w (fun j hj => by
                rw [cell_of B _ hw]
                rw [Array.getElem?_eq_getElem (by omega)]
                rfl) (fun j hj => by
                rw [show base + o + m * ie.size + 0 + j = base + (o + m * ie.size + j) by omega]
                exact hfz _ (by omega) (by omega)) hN.one
              rw [this]
              rfl
            have hob : ObRel ((ρ.set b .dead).set h.next (.loc B (base + o) S0)) (w.setCells B (base + o + m * ie.size) N) B (base + o) S0 (.cells (old ++ new) (fz - o) (byte && be) 0) := by
              refine ⟨CS', el, fr, b1, b2.trans hS0, fun i a ha => ?_, fun i hi hs => ?_, fun q => ?_, fun q => absurd rfl q⟩
              · obtain ⟨v, hv, q⟩ := (o2.append hN).get i a ha
                refine ⟨v, ?_, q.mono (hle _ _ _)⟩
                rw [b3 _ (by omega)]
                by_cases hi : i < m * ie.size
                · rw [if_neg (by omega), o3 i hi]
                  rw [List.getElem?_append_left (by omega)] at hv
                  exact hv
                · have hlt := (List.getElem?_eq_some_iff.1 hv).1
                  simp at hlt
                  rw [if_pos (by omega), show base + o + i - (base + o + m * ie.size) = i - O.length by omega]
                  rw [List.getElem?_append_right (by omega)] at hv
                  exact hv
              · rw [World.frozen?_setCells, Nat.add_assoc]
                exact hfz _ (by omega) (by omega)
              · simp at q
                obtain ⟨y1, y2, y3⟩ := hy q.1
                exact ⟨y1, y2, by omega⟩
            obtain ⟨k1, k2⟩ := r.kill (h' := h') hb hbn hn' hg' hH (fun b' B' base' S' hne e' q => by
              subst q
              exact hne (r.inj _ _ _ _ _ _ _ e' hb)) hob ⟨b6.trans r.below.os, b7.trans r.below.tape, b8.trans r.below.output, by rw [b5]; exact r.below.size, fun k hk' => (b4 k (by omega)).trans (r.below.block k hk')⟩ (fun k hk' _ => b4 k hk') (fun o ho hq => by rw [hw] at ho; cases ho; exact hq)
            refine ⟨_, _, _, hrun, k2, k1, ?_⟩
            have hat : ((ρ.set b .dead).set h.next (.loc B (base + o) S0)) h.next = .loc B (base + o) S0 := by unfold Ren.set; rw [if_pos rfl]
            have := ARel.slc (o := 0) (n := m + n) (c := m + n) (c' := c') (sz := ie.size) (ex := false) hat (Nat.le_refl _) hroom (fun q => by cases q) (by simpa using a4)
            simpa using this
          · obtain ⟨cap, hcap, hrun⟩ := hf.new _ m c' O (fun w' hw' => o4 w' _ _ hw') (by omega) hsm hby
            obtain ⟨f1, f2⟩ := fresh o1 hNl hcap
            have hr0 : Rel H W0 ρ h w.drew := r.drawn rfl rfl rfl rfl
            have hob : ObRel ((ρ.set b .dead).set h.next (.loc w.heap.size 0 (O.toArray ++ N.toArray ++ Builtin.zeroCells Z.cells (cap - (m + n))).size)) (w.drew.alloc (.cells (O.toArray ++ N.toArray ++ Builtin.zeroCells Z.cells (cap - (m + n))) e)) w.heap.size 0 (O.toArray ++ N.toArray ++ Builtin.zeroCells Z.cells (cap - (m + n))).size (.cells (old ++ new) (fz - o) (byte && be) 0) := by
              refine ⟨_, e, (0, 0), heap_alloc_new w.drew _, rfl, fun i a ha => ?_, fun i hi hs => ?_, fun q => ?_, fun q => absurd rfl q⟩
              · obtain ⟨v, hv, q⟩ := get_app3 (R := Builtin.zeroCells Z.cells (cap - (m + n))) o2 hN i a ha
                exact ⟨v, by simpa using hv, q.mono (hle _ _ _)⟩
              · have := World.frozen?_alloc_new w.drew (O.toArray ++ N.toArray ++ Builtin.zeroCells Z.cells (cap - (m + n))) e (0 + i)
                simpa using this
              · simp at q
                exact ⟨hbe q.2, by simp, by simp⟩
            obtain ⟨k1, k2⟩ := hr0.kill (h' := h') hb hbn hn' hg' r.size (fun b' B' base' S' hne e' q => by
              obtain ⟨_, _, _, x⟩ := r.live b' B' base' S' e'
              have := x.lt
              omega) hob (r.below.drew.alloc r.size _) (fun k hk' hlt => Below.heap_alloc w.drew _ k hlt) (fun o ho _ => by rw [show w.drew.heap = w.heap from rfl, Array.getElem?_eq_none (Nat.le_refl _)] at ho; cases ho)
            refine ⟨_, _, _, hrun, k2, k1, ?_⟩
            have hat : ((ρ.set b .dead).set h.next (.loc w.heap.size 0 (O.toArray ++ N.toArray ++ Builtin.zeroCells Z.cells (cap - (m + n))).size)) h.next = .loc w.heap.size 0 (O.toArray ++ N.toArray ++ Builtin.zeroCells Z.cells (cap - (m + n))).size := by unfold Ren.set; rw [if_pos rfl]
            have := ARel.slc (o := 0) (n := m + n) (c := m + n) (sz := ie.size) (ex := false) hat (Nat.le_refl _) f1 (fun q => by cases q) f2
            simpa using this
    · cases hk
end Go.Proofs.YtddbhljljmijcaaGreat.V
