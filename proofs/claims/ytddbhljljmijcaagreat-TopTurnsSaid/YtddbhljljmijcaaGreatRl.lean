/- Texts and bytes; maps asked and written. -/
import Derived.Test.YtddbhljljmijcaaGreatRk
namespace Go.Proofs.YtddbhljljmijcaaGreat.V
open Go.RowKit
set_option linter.unusedVariables false
set_option linter.unusedSimpArgs false
variable {P : Program}

/-! ### Bytes to a text -/
noncomputable def num1 (a : At) (k : Nat → Bool) : Bool :=
  match a with
  | .int .u8 (.ofNat q) => gd (Nat.blt q 256) (k q)
  | _ => false
theorem num1_sound {a : At} {k : Nat → Bool} (h : num1 a k = true) : ∃ q, a = .int .u8 (.ofNat q) ∧ q < 256 ∧ k q = true := by
  unfold num1 at h
  split at h
  · obtain ⟨h1, h2⟩ := gd_eq h
    exact ⟨_, rfl, by simpa [Nat.blt_eq] using h1, h2⟩
  · cases h
noncomputable def numsK (l : List At) : (List Nat → Bool) → Bool :=
  List.rec (motive := fun _ => (List Nat → Bool) → Bool) (fun k => k []) (fun a _ ih k => num1 a (fun q => ih (fun l => k (q :: l)))) l
theorem numsK_sound : ∀ (l : List At) (k : List Nat → Bool), numsK l k = true → ∃ s, k s = true ∧ l = s.map (fun q => At.int .u8 (.ofNat q)) ∧ ∀ q ∈ s, q < 256
  | [], k, h => ⟨[], h, rfl, fun q hq => by cases hq⟩
  | a :: l, k, h => by
    obtain ⟨q, rfl, h1, h2⟩ := num1_sound (k := fun q => numsK l (fun l => k (q :: l))) h
    obtain ⟨s, e1, e2, e3⟩ := numsK_sound l _ h2
    refine ⟨q :: s, e1, by rw [e2]; rfl, fun x hx => ?_⟩
    cases hx with
    | head => exact h1
    | tail _ hx => exact e3 x hx
theorem ARels.nums {ρ : Ren} : ∀ {s : List Nat} {L : List Value}, ARels ρ (s.map (fun q => At.int .u8 (.ofNat q))) L → L = s.map (fun q => Value.int .u8 (.ofNat q))
  | [], L, h => by cases h; rfl
  | q :: s, L, h => by
    cases h with | cons x t => ?_
    cases x
    rw [ARels.nums t]
    rfl
theorem bytes_nums (s : List Nat) (h : ∀ q ∈ s, q < 256) : (s.map (fun q => UInt8.ofNat q)).map UInt8.toNat = s := by
  rw [List.map_map]
  induction s with
  | nil => rfl
  | cons q s ih =>
    simp only [List.map_cons, Function.comp]
    rw [ih (fun x hx => h x (by simp [hx]))]
    congr 1
    have := h q (by simp)
    simp only [UInt8.toNat_ofNat']
    omega
noncomputable def xb2s (v : At) (h : Heap) (k : At → Bool) : Bool :=
  match v with
  | .nils => k (.str [])
  | .slc b o n _ sz _ => gd (Nat.beq sz 1) (cellsK h b (fun c _ _ => lsubK c o n (fun l => numsK l (fun s => k (.str s)))))
  | _ => false
theorem foldl_push (ns : List Int) : ns.foldl (fun r n => r.push (UInt8.ofNat n.toNat)) ByteArray.empty = ⟨(ns.map fun n => UInt8.ofNat n.toNat).toArray⟩ := by
  have : ∀ (ns : List Int) (s : ByteArray), ns.foldl (fun r n => r.push (UInt8.ofNat n.toNat)) s = ⟨s.data ++ (ns.map fun n => UInt8.ofNat n.toNat).toArray⟩ := by
    intro ns
    induction ns with
    | nil => intro s; simp
    | cons n ns ih =>
      intro s
      rw [List.foldl_cons, ih]
      apply ByteArray.ext
      simp [ByteArray.push]
  rw [this]
  apply ByteArray.ext
  simp
theorem s_b2s (o : Oper) (s d e : TypeId) (x : Operand) (ho : o.op = .convert s d x) (hs : P.underlying s = some (.slice e)) (he : P.underlying e = some (.int .u8)) (hd : P.underlying d = some .string) (v : At) (h : Heap) (k : At → Bool) (hk : xb2s v h k = true) : ∃ r, k r = true ∧ OpS P o [.one v] h (.one r) h := by
  have fin : ∀ {r : At} (hf : ∀ (H : Nat) (W0 : World) (ρ : Ren) (w : World) (X : Value), Rel H W0 ρ h w → ARel ρ v X → ∃ V, (convert s d X).run P w = .ok V w ∧ ARel ρ r V), OpS P o [.one v] h (.one r) h := by
    intro r hf
    refine OpS.of_run fun H W0 ρ w ev hv hrel => ?_
    rw [ho] at hv
    obtain ⟨V, hL, h1⟩ := VRels.inv1 hv
    simp [Op.operands] at hL
    subst hL
    obtain ⟨V, hr, hR⟩ := hf H W0 ρ w _ hrel (vinv h1)
    refine ⟨V, w, ρ, .inl ?_, Ext.refl _ _, hrel, .one hR⟩
    unfold execOp
    rw [ho]
    simp only [Sem.run_bind, hr, Result.andThen_ok, Sem.run_pure]
  unfold xb2s at hk
  split at hk
  · refine ⟨_, hk, fin fun H W0 ρ w X r hX => ?_⟩
    cases hX
    refine ⟨.string .empty, ?_, .str rfl⟩
    rw [run_convert_bytes_string w s d e _ _ _ hs he hd]
    rfl
  · rename_i b o' n c sz ex
    obtain ⟨h0, hk⟩ := gd_eq hk
    obtain ⟨cs, fz, byte, bd, hg, hk1⟩ := cellsK_sound hk
    obtain ⟨l, hl, hc, hk2⟩ := lsubK_sound _ _ _ _ hk1
    obtain ⟨q, hk3, hlq, hq⟩ := numsK_sound _ _ hk2
    clear hk hk1 hk2
    subst hlq
    refine ⟨_, hk3, fin fun H W0 ρ w X r hX => ?_⟩
    cases hX with
    | slcd q a1 a2 a3 => exact absurd (r.dead b _ q hg) (by intro q; cases q)
    | slc q' a1 a2 a3 a4 =>
      obtain ⟨B, base, S0, CS, el, fr, hb, hH, hw, hS0, hcs, hfz, hy⟩ := r.row hg (by rw [q']; trivial)
      rw [hb] at q'
      injection q' with e1 e2 e3
      subst e1; subst e2; subst e3
      obtain ⟨O, o1, o2, o3, o4⟩ := old_cells (P := P) (b := b) (m := n) (sz := 1) (base := base) hw hcs (by simpa using hl) (fun i hi => hc i (by omega))
      have hO := o2.nums
      subst hO
      have hload := o4 w n c rfl
      simp only [Builtin.firstCells, Nat.mul_one] at hload
      refine ⟨.string ⟨(q.map fun n => UInt8.ofNat n).toArray⟩, ?_, .str (by simpa using bytes_nums q hq)⟩
      rw [run_convert_bytes_string w s d e _ _ _ hs he hd]
      rw [run_bytesToString w _ n _ (q.map Int.ofNat) (by rw [hload]; simp [List.map_map, Function.comp_def])]
      rw [foldl_push]
      simp [List.map_map, Function.comp_def]
  · cases hk

/-! ### A text to bytes -/
theorem bytesWorld_alloc (w : World) (e : TypeId) (s : ByteArray) : Lib.bytesWorld w e s = w.drew.alloc (.cells (Lib.bytesCells w e s) e ((Lib.bytesCells w e s).size, (Lib.bytesCells w e s).size + 1)) := by
  unfold Lib.bytesWorld World.freeze
  rw [if_neg (by omega)]
  unfold World.alloc
  congr 1
  apply Array.ext_getElem?
  intro i
  simp only [Array.getElem?_modify, Array.getElem?_push]
  by_cases h : i = w.drew.heap.size
  · subst h; simp
  · have h2 : ¬ w.heap.size = i := fun q => h q.symm
    simp only [if_neg h, if_neg h2]
noncomputable def xs2b (s : List Nat) (h : Heap) (k : At → Heap → Bool) : Bool := llenK s (fun n => bytesK s (fun l => newK l false h (fun nb h' => k (.slc nb 0 n n 1 false) h')))
theorem s_s2b (o : Oper) (s d e : TypeId) (x : Operand) (ho : o.op = .convert s d x) (u : TypeDesc) (hs : P.underlying s = some u) (hd : P.underlying d = some (.slice e)) (he : P.underlying e = some (.int .u8)) (q : List Nat) (h : Heap) (k : At → Heap → Bool) (hk : xs2b q h k = true) : ∃ r h', k r h' = true ∧ OpS P o [.one (.str q)] h (.one r) h' := by
  rw [xs2b, llenK_eq, bytesK_eq] at hk
  obtain ⟨m, hm, hk⟩ := T.setK_sound _ _ _ _ hk
  rw [fN_eq] at hk
  refine ⟨_, _, hk, OpS.of_run fun H W0 ρ w ev hv hrel => ?_⟩
  rw [ho] at hv
  obtain ⟨V, hL, h1⟩ := VRels.inv1 hv
  simp [Op.operands] at hL
  subst hL
  have h1 := vinv h1
  generalize hx : ev x = X at h1
  cases h1 with | str hq => ?_
  rename_i bs
  have hlen : q.length = bs.size := by rw [← hq, List.length_map, Array.length_toList]; rfl
  have hr0 : Rel H W0 ρ h w.drew := hrel.drawn rfl rfl rfl rfl
  have hle : Ren.le ρ (ρ.set h.next (.loc w.drew.heap.size 0 (Lib.bytesCells w e bs).size)) := Ren.set_le (by rw [hrel.fresh h.next (Nat.le_refl _)]; trivial)
  have hob : ObRel (ρ.set h.next (.loc w.drew.heap.size 0 (Lib.bytesCells w e bs).size)) (w.drew.alloc (.cells (Lib.bytesCells w e bs) e ((Lib.bytesCells w e bs).size, (Lib.bytesCells w e bs).size + 1))) w.drew.heap.size 0 (Lib.bytesCells w e bs).size (.cells (q.map (fun n => .int .u8 (.ofNat n))) 0 false 0) := by
    refine ⟨_, e, _, heap_alloc_new w.drew _, rfl, fun i a ha => by
      rw [List.getElem?_map] at ha
      obtain ⟨y, hy, rfl⟩ := Option.map_eq_some_iff.1 ha
      rw [← hq, List.getElem?_map] at hy
      obtain ⟨u8, hu, rfl⟩ := Option.map_eq_some_iff.1 hy
      have hi : i < bs.data.size := by simpa using (List.getElem?_eq_some_iff.1 hu).1
      refine ⟨.int .u8 (.ofNat u8.toNat), ?_, .int _ _⟩
      unfold Lib.bytesCells
      rw [Nat.zero_add, Array.getElem?_append_left (by simpa using hi), Array.getElem?_map]
      simp only [Array.getElem?_toList] at hu
      rw [hu]
      rfl, fun i h1 h2 => ?_, ⟨nofun, fun q => absurd rfl q⟩⟩
    simp only [World.frozen?, heap_alloc_new]
    simp
    omega
  obtain ⟨r', x'⟩ := hr0.new (h' := ⟨m, Nat.succ h.next⟩) (.cells (q.map (fun n => .int .u8 (.ofNat n))) 0 false 0) rfl hm (.cells (Lib.bytesCells w e bs) e ((Lib.bytesCells w e bs).size, (Lib.bytesCells w e bs).size + 1)) (Lib.bytesCells w e bs).size hob
  · have hcap := grownCap_ge w bs.size 0 e
    refine ⟨.slice (some ⟨w.heap.size, 0, none⟩) bs.size (grownCap w bs.size 0 e), _, _, .inl ?_, x', r', .one ?_⟩
    · unfold execOp
      rw [ho]
      simp only [hx, Sem.run_bind, Lib.run_convert_string_bytes w s d e bs hs hd he, Result.andThen_ok, Sem.run_pure, bytesWorld_alloc]
    · have hat : (ρ.set h.next (.loc w.drew.heap.size 0 (Lib.bytesCells w e bs).size)) h.next = .loc w.heap.size 0 (Lib.bytesCells w e bs).size := by unfold Ren.set; rw [if_pos rfl]; rfl
      have := ARel.slc (o := 0) (n := q.length) (c := q.length) (c' := grownCap w bs.size 0 e) (sz := 1) (ex := false) hat (Nat.le_refl _) (by rw [hlen]; exact hcap) (fun q => by cases q) (by
        have e1 : bs.data.size = bs.size := rfl
        simp [Lib.bytesCells, e1]
        omega)
      rw [hlen] at this
      rw [hlen]
      simpa using this
end Go.Proofs.YtddbhljljmijcaaGreat.V
