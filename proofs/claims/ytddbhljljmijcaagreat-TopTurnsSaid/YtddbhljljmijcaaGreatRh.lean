/- Indices, slices of slices and of texts, lengths, conversions, function values, maps made. -/
import Derived.Test.YtddbhljljmijcaaGreatRg
namespace Go.Proofs.YtddbhljljmijcaaGreat.V
open Go.RowKit
set_option linter.unusedVariables false
variable {P : Program}

/-! ### Indices -/
/-- An index, if it is below a bound. -/
noncomputable def ixK (i : Int) (n : Nat) (k : Nat → Bool) : Bool := Int.rec (motive := fun _ => Bool) (fun m => gd (Nat.blt m n) (k m)) (fun _ => false) i
theorem ixK_sound {i : Int} {n : Nat} {k : Nat → Bool} (h : ixK i n k = true) : ∃ m : Nat, i = m ∧ m < n ∧ k m = true := by
  cases i with
  | ofNat m => obtain ⟨h1, h2⟩ := gd_eq h; exact ⟨m, rfl, by simpa [Nat.blt_eq] using h1, h2⟩
  | negSucc m => cases h
theorem s_iaddr_slice (o : Oper) (t e : TypeId) (x y : Operand) (ho : o.op = .indexAddr t x y) (ht : P.underlying t = some (.slice e)) (ie : TypeInfo) (hie : P.info? e = some ie) (b off n c sz : Nat) (ex : Bool) (kk : IntKind) (i : Int) (k : Nat → Bool) (hk : ixK i n k = true) :
    ∃ m, k m = true ∧ ∀ h, OpS P o [.one (.slc b off n c sz ex), .one (.int kk i)] h (.one (.ptr b (off + m * ie.size))) h := by
  obtain ⟨m, rfl, hm, hk⟩ := ixK_sound hk
  refine ⟨m, hk, fun h => OpS.of_pure fun ρ w ev hv => ?_⟩
  rw [ho] at hv
  obtain ⟨V, U, hL, h1, h2⟩ := VRels.inv2 hv
  simp [Op.operands] at hL
  obtain ⟨rfl, rfl⟩ := hL
  have h1 := vinv h1
  have h2 := vinv h2
  generalize hx : ev x = X at h1
  generalize hy : ev y = Y at h2
  cases h2
  have hrun : ∀ (A : Addr) (c' : Nat), X = .slice (some A) n c' → (execOp ev o).run P w = .ok (.value (.pointer (some (A.add (m * ie.size))))) w := by
    rintro A c' rfl
    unfold execOp
    rw [ho]
    simp [hx, hy, Instr.indexAt, asIntOf, run_underlying ht, sizeOf, typeInfo, hie, hm]
  cases h1 with
  | slc q _ _ _ _ =>
    refine ⟨_, hrun _ _ rfl, .one ?_⟩
    rw [addr_add, Nat.add_assoc]
    exact .ptr q
  | slcd q _ _ _ => exact ⟨_, hrun _ _ rfl, .one (.ptrd q)⟩
theorem s_iaddr_array (o : Oper) (t e : TypeId) (x y : Operand) (ho : o.op = .indexAddr t x y) (n : Nat) (ht : P.underlying t = some (.array n e)) (ie : TypeInfo) (hie : P.info? e = some ie) (b off : Nat) (kk : IntKind) (i : Int) (k : Nat → Bool) (hk : ixK i n k = true) :
    ∃ m, k m = true ∧ ∀ h, OpS P o [.one (.ptr b off), .one (.int kk i)] h (.one (.ptr b (off + m * ie.size))) h := by
  obtain ⟨m, rfl, hm, hk⟩ := ixK_sound hk
  refine ⟨m, hk, fun h => OpS.of_pure fun ρ w ev hv => ?_⟩
  rw [ho] at hv
  obtain ⟨V, U, hL, h1, h2⟩ := VRels.inv2 hv
  simp [Op.operands] at hL
  obtain ⟨rfl, rfl⟩ := hL
  have h1 := vinv h1
  have h2 := vinv h2
  generalize hx : ev x = X at h1
  generalize hy : ev y = Y at h2
  cases h2
  have hrun : ∀ (A : Addr), X = .pointer (some A) → (execOp ev o).run P w = .ok (.value (.pointer (some (A.add (m * ie.size))))) w := by
    rintro A rfl
    unfold execOp
    rw [ho]
    simp [hx, hy, Instr.indexAt, asIntOf, run_underlying ht, sizeOf, typeInfo, hie, hm, Instr.sureAddr]
  cases h1 with
  | ptr q =>
    refine ⟨_, hrun _ rfl, .one ?_⟩
    rw [addr_add, Nat.add_assoc]
    exact .ptr q
  | ptrd q => exact ⟨_, hrun _ rfl, .one (.ptrd q)⟩
theorem s_index_str (o : Oper) (t : TypeId) (x y : Operand) (ho : o.op = .index t x y) (ht : P.underlying t = some .string) (s : List Nat) (kk : IntKind) (m : Nat) (k : Nat → Bool) (hk : lgetK s m k = true) :
    ∃ u, k u = true ∧ ∀ h, OpS P o [.one (.str s), .one (.int kk (.ofNat m))] h (.one (.int .u8 (.ofNat u))) h := by
  obtain ⟨u, hu, hk⟩ := lgetK_sound _ _ _ hk
  refine ⟨u, hk, fun h => OpS.of_pure fun ρ w ev hv => ?_⟩
  rw [ho] at hv
  obtain ⟨V, U, hL, h1, h2⟩ := VRels.inv2 hv
  simp [Op.operands] at hL
  obtain ⟨rfl, rfl⟩ := hL
  have h1 := vinv h1
  have h2 := vinv h2
  generalize hx : ev x = X at h1
  generalize hy : ev y = Y at h2
  cases h2
  cases h1 with | str hs => ?_
  rename_i bs
  subst hs
  rw [List.getElem?_map] at hu
  obtain ⟨q, hq, rfl⟩ := Option.map_eq_some_iff.1 hu
  have hq' : bs[m]? = some q := by
    have : bs.data[m]? = some q := by simpa using hq
    rw [← this]
    rfl
  refine ⟨.int .u8 (.ofNat q.toNat), ?_, .one (.int _ _)⟩
  unfold execOp
  rw [ho]
  simp [hx, hy, Instr.index, asIntOf, run_underlying ht, hq']
theorem s_index_array (o : Oper) (t e : TypeId) (x y : Operand) (ho : o.op = .index t x y) (n : Nat) (ht : P.underlying t = some (.array n e)) (d : TypeDesc) (hd : P.underlying e = some d) (ie : TypeInfo) (hie : P.info? e = some ie) (l : List At) (kk : IntKind) (i : Int) (k : AV → Bool) (hk : ixK i n (fun m => partK (isAggD d) l (m * ie.size) ie.size k) = true) :
    ∃ v, k v = true ∧ ∀ h, OpS P o [.agg l, .one (.int kk i)] h v h := by
  obtain ⟨m, rfl, hm, hk⟩ := ixK_sound hk
  obtain ⟨v, hk', hs⟩ := partK_sound (P := P) hk
  refine ⟨v, hk', fun h => OpS.of_pure fun ρ w ev hv => ?_⟩
  rw [ho] at hv
  obtain ⟨V, U, hL, h1, h2⟩ := VRels.inv2 hv
  simp [Op.operands] at hL
  obtain ⟨rfl, rfl⟩ := hL
  have h2 := vinv h2
  generalize hx : ev x = X at h1
  generalize hy : ev y = Y at h2
  cases h2
  cases h1 with | agg h1 => ?_
  rename_i L
  obtain ⟨V, hr, hR⟩ := hs ρ L e d ie w h1 hd rfl hie rfl
  refine ⟨V, ?_, hR⟩
  unfold execOp
  rw [ho]
  simp [hx, hy, Instr.index, asIntOf, run_underlying ht, hm, sizeOf, typeInfo, hie, hr]

/-! ### Bounds of a slice expression -/
/-- The bounds that are given, as they come. -/
def boundV (k : Option Nat → List AV → Bool) : List AV → Bool
  | .one (.int _ (.ofNat n)) :: vs => k (some n) vs
  | _ => false
theorem boundV_sound {k : Option Nat → List AV → Bool} {vs : List AV} (h : boundV k vs = true) : ∃ kk n vs', vs = .one (.int kk (.ofNat n)) :: vs' ∧ k (some n) vs' = true := by
  unfold boundV at h
  split at h
  · exact ⟨_, _, _, rfl, h⟩
  · cases h
noncomputable def boundK (f : Bool) (vs : List AV) (k : Option Nat → List AV → Bool) : Bool :=
  Bool.rec (motive := fun _ => Bool) (k none vs) (boundV k vs) f
def optInt : Option Nat → Option Value → Prop
  | none, none => True
  | some n, some v => ∃ kk, v = .int kk (.ofNat n)
  | _, _ => False
theorem boundK_sound {f : Bool} {vs : List AV} {k : Option Nat → List AV → Bool} (hk : boundK f vs k = true) : ∃ n vs', k n vs' = true ∧ n.isSome = f ∧ ∀ (ρ : Ren) (x : Option Operand) (ev : Operand → Value) (L : List Value), x.isSome = f → VRels ρ vs ((x.toList.map ev) ++ L) → optInt n (x.map ev) ∧ VRels ρ vs' L := by
  cases f with
  | false =>
    refine ⟨none, vs, hk, rfl, fun ρ x ev L hx hv => ?_⟩
    cases x with
    | none => exact ⟨trivial, hv⟩
    | some x => cases hx
  | true =>
    obtain ⟨kk, n, vs', rfl, hk⟩ := boundV_sound (vs := vs) hk
    refine ⟨some n, vs', hk, rfl, fun ρ x ev L hx hv => ?_⟩
    cases x with
    | none => cases hx
    | some x =>
      simp only [Option.toList, List.map_cons, List.map_nil, List.cons_append, List.nil_append] at hv
      cases hv with | cons q t => ?_
      have q := vinv q
      refine ⟨⟨kk, ?_⟩, t⟩
      generalize ev x = X at q
      cases q
      rfl
theorem slice_operands (t : TypeId) (x : Operand) (l h m : Option Operand) : (Op.slice t x l h m).operands.toList = x :: (l.toList ++ (h.toList ++ (m.toList ++ []))) := by
  cases l <;> cases h <;> cases m <;> rfl
theorem run_sliceBound {kk : IntKind} {n y : Nat} (h : n ≤ y) (c : BoundsCode) (w : World) : (Instr.sliceBound (.int kk (.ofNat n)) y c).run P w = .ok n w := by
  have h2 : ((n : Nat) : Int) ≤ (y : Int) := by omega
  simp [Instr.sliceBound, asIntOf, h2]
/-- Bounds that fit. -/
theorem run_sliceBounds {isS : Bool} {len cap : Nat} {l h m : Option Nat} {L Hh M : Option Value} (hl : optInt l L) (hh : optInt h Hh) (hm : optInt m M) (h0 : m.isSome = true → h.isSome = true) (h1 : m.getD cap ≤ cap) (h2 : h.getD len ≤ m.getD cap) (h2' : h = none → True) (h3 : l.getD 0 ≤ h.getD len) (w : World) :
    (Instr.sliceBounds isS len cap L Hh M).run P w = .ok (l.getD 0, h.getD len, m.getD cap) w := by
  cases m <;> cases M <;> simp only [optInt] at hm
  all_goals cases h <;> cases Hh <;> simp only [optInt] at hh
  all_goals cases l <;> cases L <;> simp only [optInt] at hl
  all_goals try (obtain ⟨_, rfl⟩ := hm)
  all_goals try (obtain ⟨_, rfl⟩ := hh)
  all_goals try (obtain ⟨_, rfl⟩ := hl)
  all_goals simp only [Option.getD_some, Option.getD_none] at h1 h2 h3
  all_goals first
    | (simp at h0; done)
    | (simp only [Instr.sliceBounds, Sem.run_bind, Result.andThen_ok, Sem.run_pure, run_sliceBound h1, run_sliceBound h2, run_sliceBound h3, Option.getD_some, Option.getD_none])
noncomputable def sliceV (esz : Nat) (v : AV) (l hi m : Option Nat) (k : AV → Bool) : Bool :=
  match v with
  | .one (.slc b o n c sz ex) =>
    gd (Nat.beq sz esz) (gd (Nat.ble (m.getD c) c) (gd (Nat.ble (hi.getD n) (m.getD c)) (gd (Nat.ble (l.getD 0) (hi.getD n)) (gd (m.isNone || hi.isSome)
      (sel (Nat.beq (m.getD c) (l.getD 0)) (sel (ex || m.isSome) (k (.one (.slc b o 0 0 sz true))) (k (.one .emps)))
        (fN (o + l.getD 0 * esz) (fun o' => fN (hi.getD n - l.getD 0) (fun n' => fN (m.getD c - l.getD 0) (fun c' => fB (ex || m.isSome) (fun ex' => k (.one (.slc b o' n' c' sz ex'))))))))))))
  | .one .nils => gd (Nat.beq (m.getD 0) 0) (gd (Nat.beq (hi.getD 0) 0) (gd (Nat.beq (l.getD 0) 0) (gd (m.isNone || hi.isSome) (k (.one .nils)))))
  | .one .emps => gd m.isNone (gd (Nat.beq (hi.getD 0) 0) (gd (Nat.beq (l.getD 0) 0) (k (.one .emps))))
  | _ => false
theorem run_slice_slice {t e : TypeId} (ht : P.underlying t = some (.slice e)) {ie : TypeInfo} (hie : P.info? e = some ie) (a : Option Addr) (n c : Nat) {L Hh M : Option Value} {l h m : Nat} (w : World) (hb : (Instr.sliceBounds true n c L Hh M).run P w = .ok (l, h, m) w) :
    (Instr.sliceAt t (.slice a n c) L Hh M).run P w = .ok (.slice (if m = l then a else a.map (·.add (l * ie.size))) (h - l) (m - l)) w := by
  simp [Instr.sliceAt, Instr.slice, run_underlying ht, hb, sizeOf, typeInfo, hie]
theorem sliceV_sound {v : AV} {t e : TypeId} (ht : P.underlying t = some (.slice e)) {ie : TypeInfo} (hie : P.info? e = some ie) {l hi m : Option Nat} {k : AV → Bool} (hk : sliceV ie.size v l hi m k = true) : ∃ r, k r = true ∧ ∀ (ρ : Ren) (w : World) (X : Value) (L Hh M : Option Value), VRel ρ v X → optInt l L → optInt hi Hh → optInt m M →
    ∃ V, (Instr.sliceAt t X L Hh M).run P w = .ok V w ∧ VRel ρ r V := by
  unfold sliceV at hk
  split at hk
  · rename_i b o n c sz ex
    obtain ⟨h0, hk⟩ := gd_eq hk
    obtain ⟨h1, hk⟩ := gd_eq hk
    obtain ⟨h2, hk⟩ := gd_eq hk
    obtain ⟨h3, hk⟩ := gd_eq hk
    obtain ⟨h4, hk⟩ := gd_eq hk
    have h0 : sz = ie.size := by simpa using h0
    subst h0
    have h1 : m.getD c ≤ c := by simpa using h1
    have h2 : hi.getD n ≤ m.getD c := by simpa using h2
    have h3 : l.getD 0 ≤ hi.getD n := by simpa using h3
    have h4 : m.isSome = true → hi.isSome = true := by cases m <;> simp_all
    rw [sel_eq, fN_eq, fN_eq, fN_eq, fB_eq, sel_eq] at hk
    have fin : ∀ (w : World) (L Hh M : Option Value) (A : Addr) (c' : Nat), optInt l L → optInt hi Hh → optInt m M → c ≤ c' → (Instr.sliceAt t (.slice (some A) n c') L Hh M).run P w = .ok (.slice (if m.getD c' = l.getD 0 then some A else some (A.add (l.getD 0 * ie.size))) (hi.getD n - l.getD 0) (m.getD c' - l.getD 0)) w := by
      intro w L Hh M A c' hL hH hM hc
      have q1 : m.getD c ≤ m.getD c' := by cases m <;> simp <;> omega
      have q2 : m.getD c' ≤ c' := by cases m <;> simp at h1 ⊢ <;> omega
      exact run_slice_slice ht hie (some A) n c' w (run_sliceBounds (isS := true) (len := n) (cap := c') hL hH hM h4 q2 (by omega) (fun _ => trivial) h3 w)
    by_cases e1 : m.getD c = l.getD 0
    · rw [if_pos (by simp [e1])] at hk
      have hh : hi.getD n - l.getD 0 = 0 := by omega
      by_cases e2 : (ex || m.isSome) = true
      · rw [if_pos e2] at hk
        refine ⟨_, hk, fun ρ w X L Hh M hX hL hH hM => ?_⟩
        have key : ∀ c', (ex = true → c' = c) → m.getD c' = m.getD c := by
          intro c' hx
          cases m with
          | none => simp at e2; simp [hx e2]
          | some m => rfl
        have hX := vinv hX
        cases hX with
        | slc q hn hc hx hs =>
          refine ⟨_, fin w L Hh M _ _ hL hH hM hc, .one ?_⟩
          rw [key _ hx, if_pos e1, hh, e1, Nat.sub_self]
          exact .slc q (Nat.le_refl _) (Nat.le_refl _) (fun _ => rfl) (by simp; exact Nat.le_trans (Nat.le_add_right _ _) hs)
        | slcd q hn hc hx =>
          refine ⟨_, fin w L Hh M _ _ hL hH hM hc, .one ?_⟩
          rw [key _ hx, if_pos e1, hh, e1, Nat.sub_self]
          exact .slcd q (Nat.le_refl _) (Nat.le_refl _) (fun _ => rfl)
      · rw [if_neg e2] at hk
        refine ⟨_, hk, fun ρ w X L Hh M hX hL hH hM => ?_⟩
        have emp : ∀ (A : Addr) c', VRel ρ (.one .emps) (.slice (if m.getD c' = l.getD 0 then some A else some (A.add (l.getD 0 * ie.size))) (hi.getD n - l.getD 0) (m.getD c' - l.getD 0)) := by
          intro A c'
          rw [hh]
          split <;> exact .one .emps
        have hX := vinv hX
        cases hX with
        | slc q hn hc hx hs => exact ⟨_, fin w L Hh M _ _ hL hH hM hc, emp _ _⟩
        | slcd q hn hc hx => exact ⟨_, fin w L Hh M _ _ hL hH hM hc, emp _ _⟩
    · rw [if_neg (by simpa using e1)] at hk
      refine ⟨_, hk, fun ρ w X L Hh M hX hL hH hM => ?_⟩
      have key : ∀ c', c ≤ c' → (ex = true → c' = c) → ¬ m.getD c' = l.getD 0 ∧ m.getD c ≤ m.getD c' ∧ m.getD c' ≤ c' ∧ ((ex || m.isSome) = true → m.getD c' = m.getD c) := by
        intro c' hc hx
        cases m with
        | none => simp at e1 h2 ⊢; refine ⟨by omega, by omega, fun h => hx h⟩
        | some m => simp at e1 h1 ⊢; exact ⟨by omega, by omega⟩
      have hX := vinv hX
      cases hX with
      | slc q hn hc hx hs =>
        obtain ⟨k1, k2, k3, k4⟩ := key _ hc hx
        refine ⟨_, fin w L Hh M _ _ hL hH hM hc, .one ?_⟩
        rw [if_neg k1, addr_add, Nat.add_assoc]
        refine .slc q (by omega) (by omega) (fun h => by rw [k4 h]) ?_
        rename_i B base S c'
        have : (m.getD c' - l.getD 0) * ie.size + l.getD 0 * ie.size = m.getD c' * ie.size := by rw [← Nat.add_mul]; congr 1; omega
        have h5 : m.getD c' * ie.size ≤ c' * ie.size := Nat.mul_le_mul_right _ k3
        omega
      | slcd q hn hc hx =>
        obtain ⟨k1, k2, k3, k4⟩ := key _ hc hx
        refine ⟨_, fin w L Hh M _ _ hL hH hM hc, .one ?_⟩
        rw [if_neg k1]
        exact .slcd q (by omega) (by omega) (fun h => by rw [k4 h])
  · obtain ⟨h1, hk⟩ := gd_eq hk
    obtain ⟨h2, hk⟩ := gd_eq hk
    obtain ⟨h3, hk⟩ := gd_eq hk
    obtain ⟨h4, hk⟩ := gd_eq hk
    have h1 : m.getD 0 = 0 := by simpa using h1
    have h2 : hi.getD 0 = 0 := by simpa using h2
    have h3 : l.getD 0 = 0 := by simpa using h3
    have h4 : m.isSome = true → hi.isSome = true := by cases m <;> simp_all
    refine ⟨_, hk, fun ρ w X L Hh M hX hL hH hM => ?_⟩
    have hX := vinv hX
    cases hX
    refine ⟨_, run_slice_slice ht hie none 0 0 w (run_sliceBounds (isS := true) (len := 0) (cap := 0) hL hH hM h4 (by omega) (by omega) (fun _ => trivial) (by omega) w), .one ?_⟩
    rw [h1, h2, h3]
    simp
    exact .nils
  · obtain ⟨h1, hk1⟩ := gd_eq hk
    obtain ⟨h2, hk2⟩ := gd_eq hk1
    obtain ⟨h3, hk9⟩ := gd_eq hk2
    clear hk hk1 hk2
    have hk := hk9
    clear hk9
    have h1 : m = none := by cases m with | none => rfl | some _ => cases h1
    subst h1
    have h2 : hi.getD 0 = 0 := by simpa using h2
    have h3 : l.getD 0 = 0 := by simpa using h3
    refine ⟨_, hk, fun ρ w X L Hh M hX hL hH hM => ?_⟩
    have hX := vinv hX
    cases hX
    rename_i A c
    refine ⟨_, run_slice_slice ht hie (some A) 0 c w (run_sliceBounds (isS := true) (len := 0) (cap := c) hL hH hM (by simp) (by simp) (by simp; omega) (fun _ => trivial) (by omega) w), .one ?_⟩
    rw [h2, h3]
    simp
    split <;> exact .emps
  · cases hk
noncomputable def xslice (esz : Nat) (fl fh fm : Bool) (vals : List AV) (k : AV → Bool) : Bool :=
  List.rec (motive := fun _ => Bool) false (fun v vs _ => boundK fl vs (fun l vs => boundK fh vs (fun hi vs => boundK fm vs (fun m vs => List.rec (motive := fun _ => Bool) (sliceV esz v l hi m k) (fun _ _ _ => false) vs)))) vals
theorem s_slice (o : Oper) (t e : TypeId) (x : Operand) (l hi m : Option Operand) (ho : o.op = .slice t x l hi m) (ht : P.underlying t = some (.slice e)) (ie : TypeInfo) (hie : P.info? e = some ie) (vals : List AV) (k : AV → Bool) (hk : xslice ie.size l.isSome hi.isSome m.isSome vals k = true) :
    ∃ v, k v = true ∧ ∀ h, OpS P o vals h v h := by
  cases vals with
  | nil => cases hk
  | cons v vs =>
    have hk : boundK l.isSome vs (fun l vs => boundK hi.isSome vs (fun hi vs => boundK m.isSome vs (fun m vs => List.rec (motive := fun _ => Bool) (sliceV ie.size v l hi m k) (fun _ _ _ => false) vs))) = true := hk
    obtain ⟨ln, vs1, hk, e1, b1⟩ := boundK_sound hk
    obtain ⟨hn, vs2, hk, e2, b2⟩ := boundK_sound hk
    obtain ⟨mn, vs3, hk, e3, b3⟩ := boundK_sound hk
    cases vs3 with
    | cons _ _ => cases hk
    | nil =>
      obtain ⟨r, hk, hs⟩ := sliceV_sound ht hie hk
      refine ⟨r, hk, fun h => OpS.of_pure fun ρ w ev hv => ?_⟩
      rw [ho, slice_operands] at hv
      simp only [List.map_cons, List.map_append] at hv
      cases hv with | cons q tl => ?_
      obtain ⟨c1, tl⟩ := b1 ρ l ev _ rfl tl
      obtain ⟨c2, tl⟩ := b2 ρ hi ev _ rfl tl
      obtain ⟨c3, tl⟩ := b3 ρ m ev _ rfl tl
      obtain ⟨V, hr, hR⟩ := hs ρ w (ev x) _ _ _ q c1 c2 c3
      refine ⟨V, ?_, hR⟩
      unfold execOp
      rw [ho]
      simp [hr]

/-! ### A part of a text -/
theorem ltakeK_len {α : Type} : ∀ (n : Nat) (l : List α) (k : List α → Bool), ltakeK n l k = true → n ≤ l.length
  | 0, _, _, _ => Nat.zero_le _
  | n + 1, [], _, h => by cases h
  | n + 1, x :: l, k, h => by have := ltakeK_len n l _ h; simp; omega
theorem lsubK_len {α : Type} (l : List α) (o n : Nat) (k : List α → Bool) (h : lsubK l o n k = true) : o + n ≤ l.length := by
  obtain ⟨h0, r, _, h1, h2⟩ := ldropK_sound o l _ h
  have := ltakeK_len n r k h2
  omega
noncomputable def strV (s : List Nat) (l hi : Option Nat) (k : AV → Bool) : Bool :=
  match hi with
  | some hi => gd (Nat.ble (l.getD 0) hi) (lsubK s (l.getD 0) (hi - l.getD 0) (fun r => k (.one (.str r))))
  | none => ldropK (l.getD 0) s (fun r => k (.one (.str r)))
theorem strV_sound {t : TypeId} (ht : P.underlying t = some .string) {s : List Nat} {l hi : Option Nat} {k : AV → Bool} (hk : strV s l hi k = true) : ∃ r, k r = true ∧ ∀ (ρ : Ren) (w : World) (X : Value) (L Hh : Option Value), VRel ρ (.one (.str s)) X → optInt l L → optInt hi Hh →
    ∃ V, (Instr.sliceAt t X L Hh none).run P w = .ok V w ∧ VRel ρ r V := by
  have hrun : ∀ (bs : ByteArray) (L Hh : Option Value) (w : World), optInt l L → optInt hi Hh → hi.getD bs.size ≤ bs.size → l.getD 0 ≤ hi.getD bs.size → (Instr.sliceAt t (.string bs) L Hh none).run P w = .ok (.string (bs.extract (l.getD 0) (hi.getD bs.size))) w := by
    intro bs L Hh w hL hH q1 q2
    have hb := run_sliceBounds (P := P) (isS := false) (len := bs.size) (cap := bs.size) hL hH (m := none) (M := none) trivial (by simp) (by simp) (by simpa using q1) (fun _ => trivial) q2 w
    simp [Instr.sliceAt, Instr.slice, run_underlying ht, hb]
  have hext : ∀ (bs : ByteArray) (a b : Nat) (r : List Nat), b ≤ bs.size → a ≤ b → r.length = b - a → (∀ i, i < b - a → (bs.data.toList.map UInt8.toNat)[a + i]? = r[i]?) → (bs.extract a b).data.toList.map UInt8.toNat = r := by
    intro bs a b r hb hab hl hr
    apply List.ext_getElem?
    intro i
    rw [ByteArray.data_extract]
    by_cases hi : i < b - a
    · rw [← hr i hi]
      simp only [List.getElem?_map, Array.getElem?_toList]
      rw [Array.getElem?_extract, if_pos (by have : bs.data.size = bs.size := rfl; omega)]
    · rw [List.getElem?_eq_none (by simp; have : bs.data.size = bs.size := rfl; omega), List.getElem?_eq_none (by omega)]
  have hsize : ∀ bs : ByteArray, (bs.data.toList.map UInt8.toNat).length = bs.size := fun bs => by rw [List.length_map, Array.length_toList]; rfl
  cases hi with
  | some hi =>
    obtain ⟨h1, hk⟩ := gd_eq hk
    have h1 : l.getD 0 ≤ hi := by simpa using h1
    have hlen := lsubK_len _ _ _ _ hk
    obtain ⟨r, e1, e2, hk⟩ := lsubK_sound _ _ _ _ hk
    refine ⟨_, hk, fun ρ w X L Hh hX hL hH => ?_⟩
    have hX := vinv hX
    cases hX with | str hs => ?_
    rename_i bs
    subst hs
    rw [hsize] at hlen
    exact ⟨_, hrun bs L Hh w hL hH (by simp; omega) (by simpa using h1), .one (.str (hext bs _ _ r (by simp; omega) (by simpa using h1) (by simpa using e1) (fun i hi => e2 i (by simpa using hi))))⟩
  | none =>
    obtain ⟨h1, r, e1, e2, hk⟩ := ldropK_sound _ _ _ hk
    refine ⟨_, hk, fun ρ w X L Hh hX hL hH => ?_⟩
    have hX := vinv hX
    cases hX with | str hs => ?_
    rename_i bs
    subst hs
    rw [hsize] at h1 e2
    refine ⟨_, hrun bs L Hh w hL hH (by simp) (by simpa using h1), .one (.str (hext bs _ _ r (by simp) (by simpa using h1) (by simpa using e2) (fun i hi => e1 i)))⟩
end Go.Proofs.YtddbhljljmijcaaGreat.V
