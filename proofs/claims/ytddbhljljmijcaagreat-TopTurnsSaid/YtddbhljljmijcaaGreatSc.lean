/- The operations' kinds, fifth part. -/
import Derived.Test.YtddbhljljmijcaaGreatSb
namespace Go.Proofs.YtddbhljljmijcaaGreat.V
open Go.RowKit
set_option linter.unusedVariables false
set_option linter.unusedSimpArgs false
variable {P : Program}

/-! ### Lengths -/
noncomputable def xLenStr : DX := .pure fun vals k => v1 vals (fun v => strK v (fun s => llenK s (fun n => k (.one (.int .i64 (.ofNat n))))))
theorem ok_lenStr {o : Oper} {x : Operand} {t : TypeId} (ho : o.op = .call { callee := .builtin .len, args := #[x], argTypes := #[t] }) (ht : P.underlying t = some .string) : DXOk P o xLenStr := fun vals k hk => by
  obtain ⟨v, rfl, h1⟩ := v1_sound hk
  obtain ⟨s, rfl, h2⟩ := strK_sound h1
  rw [llenK_eq] at h2
  exact ⟨_, h2, fun h => s_len_str o x t ho ht s h⟩
noncomputable def lenA (a : At) (k : Nat → Bool) : Bool := At.rec (motive_1 := fun _ => Bool) (motive_2 := fun _ => Bool) (fun _ => false) (fun _ _ => false) (fun _ => false) false (fun _ _ => false) (k 0) (k 0) (fun _ _ n _ _ _ => k n) false (fun _ => false) false (fun _ _ _ _ _ => false) false (fun _ _ _ _ => false) a
noncomputable def xLenSlc : DX := .pure fun vals k => v1 vals (fun v => atK v (fun a => lenA a (fun n => k (.one (.int .i64 (.ofNat n))))))
theorem ok_lenSlc {o : Oper} {x : Operand} {t e : TypeId} (ho : o.op = .call { callee := .builtin .len, args := #[x], argTypes := #[t] }) (ht : P.underlying t = some (.slice e)) : DXOk P o xLenSlc := fun vals k hk => by
  obtain ⟨v, rfl, h1⟩ := v1_sound hk
  obtain ⟨a, rfl, h2⟩ := atK_sound h1
  cases a with
  | nils => exact ⟨_, h2, fun h => s_len_nils o x t e ho ht _ (.inl rfl) h⟩
  | emps => exact ⟨_, h2, fun h => s_len_nils o x t e ho ht _ (.inr rfl) h⟩
  | slc b off n c sz ex => exact ⟨_, h2, fun h => s_len_slc o x t e ho ht b off n c sz ex h⟩
  | _ => cases h2
noncomputable def xLenArr (n : Nat) : DX := .pure fun vals k => v1 vals (fun _ => k (.one (.int .i64 (.ofNat n))))
theorem ok_lenArr {o : Oper} {x : Operand} {t e : TypeId} {n : Nat} (ho : o.op = .call { callee := .builtin .len, args := #[x], argTypes := #[t] }) (ht : P.underlying t = some (.array n e)) : DXOk P o (xLenArr n) := fun vals k hk => by
  obtain ⟨v, rfl, h1⟩ := v1_sound hk
  exact ⟨_, h1, fun h => s_len_array o x t e n ho ht v h⟩
theorem ok_lenPArr {o : Oper} {x : Operand} {t a e : TypeId} {n : Nat} (ho : o.op = .call { callee := .builtin .len, args := #[x], argTypes := #[t] }) (ht : P.underlying t = some (.pointer a)) (hta : P.underlying a = some (.array n e)) : DXOk P o (xLenArr n) := fun vals k hk => by
  obtain ⟨v, rfl, h1⟩ := v1_sound hk
  exact ⟨_, h1, fun h => s_len_parray o x t a e n ho ht hta v h⟩
noncomputable def mpK (v : AV) (k : Nat → Bool) : Bool := atK v (fun a => At.rec (motive_1 := fun _ => Bool) (motive_2 := fun _ => Bool) (fun _ => false) (fun _ _ => false) (fun _ => false) false (fun _ _ => false) false false (fun _ _ _ _ _ _ => false) false k false (fun _ _ _ _ _ => false) false (fun _ _ _ _ => false) a)
theorem mpK_sound {v : AV} {k : Nat → Bool} (h : mpK v k = true) : ∃ b, v = .one (.mp b) ∧ k b = true := by
  obtain ⟨a, rfl, h⟩ := atK_sound h
  cases a <;> first | exact ⟨_, rfl, h⟩ | cases h
noncomputable def xLenMap : DX := .read fun vals h k => v1 vals (fun v => mpK v (fun b => mapK h b (fun es => llenK es (fun n => k (.one (.int .i64 (.ofNat n)))))))
theorem ok_lenMap {o : Oper} {x : Operand} {t kt e : TypeId} (ho : o.op = .call { callee := .builtin .len, args := #[x], argTypes := #[t] }) (ht : P.underlying t = some (.map kt e)) : DXOk P o xLenMap := fun vals h k hk => by
  obtain ⟨v, rfl, h1⟩ := v1_sound hk
  obtain ⟨b, rfl, h2⟩ := mpK_sound h1
  obtain ⟨es, hg, h3⟩ := mapK_sound h2
  rw [llenK_eq] at h3
  exact ⟨_, h3, s_len_map o x t kt e ho ht b h es hg⟩
noncomputable def capA (a : At) (k : Nat → Bool) : Bool := At.rec (motive_1 := fun _ => Bool) (motive_2 := fun _ => Bool) (fun _ => false) (fun _ _ => false) (fun _ => false) false (fun _ _ => false) (k 0) false (fun _ _ _ c _ ex => gd ex (k c)) false (fun _ => false) false (fun _ _ _ _ _ => false) false (fun _ _ _ _ => false) a
noncomputable def xCap : DX := .pure fun vals k => v1 vals (fun v => atK v (fun a => capA a (fun n => k (.one (.int .i64 (.ofNat n))))))
theorem ok_cap {o : Oper} {x : Operand} {t e : TypeId} (ho : o.op = .call { callee := .builtin .cap, args := #[x], argTypes := #[t] }) (ht : P.underlying t = some (.slice e)) : DXOk P o xCap := fun vals k hk => by
  obtain ⟨v, rfl, h1⟩ := v1_sound hk
  obtain ⟨a, rfl, h2⟩ := atK_sound h1
  cases a with
  | nils => exact ⟨_, h2, fun h => s_cap_nils o x t e ho ht h⟩
  | slc b off n c sz ex =>
    obtain ⟨rfl, h3⟩ := gd_eq h2
    exact ⟨_, h3, fun h => s_cap_exact o x t e ho ht b off n c sz h⟩
  | _ => cases h2
noncomputable def xMin : DX := .pure fun vals k => v2 vals (fun v u => intK v (fun kk i => intK u (fun _ j => sel (ltI j i) (k (.one (.int kk j))) (k (.one (.int kk i))))))
theorem ok_min {o : Oper} {x y : Operand} {ats : Array TypeId} (ho : o.op = .call { callee := .builtin .min, args := #[x, y], argTypes := ats }) : DXOk P o xMin := fun vals k hk => by
  obtain ⟨v, u, rfl, h1⟩ := v2_sound hk
  obtain ⟨kk, i, rfl, h2⟩ := intK_sound h1
  obtain ⟨kk', j, rfl, h3⟩ := intK_sound h2
  rw [sel_eq, ltI_eq] at h3
  refine ⟨.one (.int kk (if j < i then j else i)), ?_, fun h => ?_⟩
  · by_cases hh : j < i
    · simpa [hh] using h3
    · simpa [hh] using h3
  · simpa using s_minmax (P := P) o .min x y ats (.inl rfl) ho kk kk' i j h
noncomputable def xMax : DX := .pure fun vals k => v2 vals (fun v u => intK v (fun kk i => intK u (fun _ j => sel (ltI i j) (k (.one (.int kk j))) (k (.one (.int kk i))))))
theorem ok_max {o : Oper} {x y : Operand} {ats : Array TypeId} (ho : o.op = .call { callee := .builtin .max, args := #[x, y], argTypes := ats }) : DXOk P o xMax := fun vals k hk => by
  obtain ⟨v, u, rfl, h1⟩ := v2_sound hk
  obtain ⟨kk, i, rfl, h2⟩ := intK_sound h1
  obtain ⟨kk', j, rfl, h3⟩ := intK_sound h2
  rw [sel_eq, ltI_eq] at h3
  refine ⟨.one (.int kk (if j > i then j else i)), ?_, fun h => ?_⟩
  · by_cases hh : i < j
    · simpa [hh] using h3
    · simpa [hh] using h3
  · have := s_minmax (P := P) o .max x y ats (.inr rfl) ho kk kk' i j h
    simpa using this

/-! ### Conversions -/
noncomputable def xCvt (kd : IntKind) : DX := .pure fun vals k => v1 vals (fun v => intK v (fun _ i => inK kd i (fun s => k (.one (.int kd s)))))
theorem ok_cvt {o : Oper} {s d : TypeId} {x : Operand} (ho : o.op = .convert s d x) {ds : TypeDesc} (hs : P.underlying s = some ds) {kd : IntKind} (hd : P.underlying d = some (.int kd)) : DXOk P o (xCvt kd) := fun vals k hk => by
  obtain ⟨v, rfl, h1⟩ := v1_sound hk
  obtain ⟨kk, i, rfl, h2⟩ := intK_sound h1
  exact ⟨_, inK_sound kd i (fun s => k (.one (.int kd s))) h2, fun h => s_cvt_int o s d x ho ds hs kd hd kk i h⟩
/-- A pointer to what is a variable in any case, through unsafe.Pointer. -/
theorem run_unsafe_to {s d t : TypeId} {inf : TypeInfo} (hs : P.underlying s = some (.pointer t)) (hd : P.underlying d = some .unsafePointer) (hi : P.info? t = some inf) (hz : (inf.size == 0) = false) {w : World} {B off : Nat} {CS : Array Value} {e : TypeId} {fr : Nat × Nat} (hw : w.heap[B]? = some (.cells CS e fr)) (hlt : off < CS.size) :
    (convert s d (.pointer (some ⟨B, off, none⟩))).run P w = .ok (.pointer (some ⟨B, off, none⟩)) w := by
  have hsh : w.shape? B = some (e, CS.size) := by simp [World.shape?, hw]
  have hz' : ¬ inf.size = 0 := by simpa using hz
  have hnl : ¬ CS.size ≤ off := by omega
  simp [convert, run_underlying hs, run_underlying hd, Conv.unsafePointer, Conv.seenAt, viewAt, hsh, cellsIn, sizeOf, typeInfo, hi, hz', hnl]
theorem run_unsafe_from {s d u : TypeId} {inf : TypeInfo} (hs : P.underlying s = some .unsafePointer) (hd : P.underlying d = some (.pointer u)) (hi : P.info? u = some inf) (hz : (inf.size == 0) = false) {w : World} {B e off : Nat} {CS : Array Value} {fr : Nat × Nat} (hw : w.heap[B]? = some (.cells CS e fr)) (hl : liesAt P P.depth e (CS.size / P.cellsOf e) off u 1 = true) :
    (convert s d (.pointer (some ⟨B, off, none⟩))).run P w = .ok (.pointer (some ⟨B, off, none⟩)) w := by
  have hsh : w.shape? B = some (e, CS.size) := by simp [World.shape?, hw]
  have hz' : ¬ inf.size = 0 := by simpa using hz
  simp [convert, run_underlying hs, run_underlying hd, Conv.unsafePointer, Conv.seenAt, viewAt, hsh, sizeOf, typeInfo, hi, hz', variablesAt, hl]
noncomputable def pairIn (tb : List (Nat × Nat)) (a b : Nat) : Bool := List.rec (motive := fun _ => Bool) false (fun p _ ih => Prod.rec (motive := fun _ => Bool) (fun x y => sel (Nat.beq x a) (sel (Nat.beq y b) true ih) ih) p) tb
theorem pairIn_sound {a b : Nat} : ∀ {tb : List (Nat × Nat)}, pairIn tb a b = true → (a, b) ∈ tb
  | (x, y) :: tb, h => by
    have h : sel (Nat.beq x a) (sel (Nat.beq y b) true (pairIn tb a b)) (pairIn tb a b) = true := h
    rw [sel_eq, sel_eq] at h
    by_cases h1 : x = a
    · by_cases h2 : y = b
      · rw [h1, h2]; exact List.mem_cons_self
      · rw [if_pos (by simpa using h1), if_neg (by simpa using h2)] at h
        exact List.mem_cons_of_mem _ (pairIn_sound h)
    · rw [if_neg (by simpa using h1)] at h
      exact List.mem_cons_of_mem _ (pairIn_sound h)
noncomputable def xUTo : DX := .read fun vals h k => v1 vals (fun v => ptrK v (fun b i => cellsK h b (fun c _ _ => lgetK c i (fun _ => k (.one (.ptr b i))))))
theorem ok_uto {o : Oper} {s d t : TypeId} {x : Operand} (ho : o.op = .convert s d x) {inf : TypeInfo} (hs : P.underlying s = some (.pointer t)) (hd : P.underlying d = some .unsafePointer) (hi : P.info? t = some inf) (hz : (inf.size == 0) = false) : DXOk P o xUTo := fun vals h k hk => by
  obtain ⟨v, rfl, h1⟩ := v1_sound hk
  obtain ⟨b, i, rfl, h2⟩ := ptrK_sound h1
  obtain ⟨c, fz, byte, bd, hg, h3⟩ := cellsK_sound h2
  obtain ⟨a, hc, h4⟩ := lgetK_sound _ _ _ h3
  refine ⟨_, h4, OpS.of_run fun H W0 ρ w ev hv hrel => ?_⟩
  rw [ho] at hv
  obtain ⟨V, hL, h1⟩ := VRels.inv1 hv
  simp [Op.operands] at hL
  subst hL
  have h1 := vinv h1
  generalize hx : ev x = X at h1
  obtain ⟨B, base, S, CS, el, fr, hb, _, hw, _, hcs, _⟩ := hrel.row hg h1.not_un
  cases h1 with
  | ptrd q => rw [hb] at q; cases q
  | ptr q =>
    have hb0 := hb
    rw [hb] at q
    injection q with q1 q2
    subst q1; subst q2
    obtain ⟨v, hv, hr⟩ := hcs i a hc
    have hlt := (Array.getElem?_eq_some_iff.1 hv).1
    refine ⟨_, w, ρ, .inl ?_, Ext.refl _ _, hrel, .one (.ptr hb0)⟩
    unfold execOp
    rw [ho]
    simp [hx, run_unsafe_to hs hd hi hz hw hlt]
noncomputable def xUFrom (tb : List (Nat × Nat)) : DX := .read fun vals h k => v1 vals (fun v => ptrK v (fun b i => cells4K h b (fun _ _ _ bd => gd (pairIn tb bd i) (k (.one (.ptr b i))))))
theorem ok_ufrom {o : Oper} {s d u : TypeId} {x : Operand} (ho : o.op = .convert s d x) {inf : TypeInfo} (hs : P.underlying s = some .unsafePointer) (hd : P.underlying d = some (.pointer u)) (hi : P.info? u = some inf) (hz : (inf.size == 0) = false) {tb : List (Nat × Nat)} (htb : tb.all (fun p => p.1 != 0 && liesAt P P.depth p.1 (Go.Proofs.Tryz.prog.cellsOf p.1 / P.cellsOf p.1) p.2 u 1) = true) : DXOk P o (xUFrom tb) := fun vals h k hk => by
  obtain ⟨v, rfl, h1⟩ := v1_sound hk
  obtain ⟨b, i, rfl, h2⟩ := ptrK_sound h1
  obtain ⟨c, fz, byte, bd, hg, h3⟩ := cells4K_sound h2
  obtain ⟨hin, h5⟩ := gd_eq h3
  have hin := List.all_eq_true.1 htb _ (pairIn_sound hin)
  simp only [Bool.and_eq_true] at hin
  have hbd : bd ≠ 0 := by simpa using hin.1
  refine ⟨_, h5, OpS.of_run fun H W0 ρ w ev hv hrel => ?_⟩
  rw [ho] at hv
  obtain ⟨V, hL, h1⟩ := VRels.inv1 hv
  simp [Op.operands] at hL
  subst hL
  have h1 := vinv h1
  generalize hx : ev x = X at h1
  obtain ⟨B, base, S, CS, el, fr, hb, _, hw, hS, hcs, _, _, hbl⟩ := hrel.row hg h1.not_un
  cases h1 with
  | ptrd q => rw [hb] at q; cases q
  | ptr q =>
    have hb0 := hb
    rw [hb] at q
    injection q with q1 q2
    subst q1; subst q2
    obtain ⟨he, hz0, hs2⟩ := hbl hbd
    subst he; subst hz0
    rw [Nat.zero_add] at hx
    have hb1 := ARel.ptr (o := i) hb0
    rw [Nat.zero_add] at hb1
    refine ⟨_, w, ρ, .inl ?_, Ext.refl _ _, hrel, .one hb1⟩
    unfold execOp
    rw [ho]
    simp [hx, run_unsafe_from hs hd hi hz hw (by rw [hS, hs2]; exact hin.2)]
noncomputable def xB2s : DX := .read fun vals h k => v1 vals (fun v => atK v (fun a => xb2s a h (fun r => k (.one r))))
theorem ok_b2s {o : Oper} {s d e : TypeId} {x : Operand} (ho : o.op = .convert s d x) (hs : P.underlying s = some (.slice e)) (he : P.underlying e = some (.int .u8)) (hd : P.underlying d = some .string) : DXOk P o xB2s := fun vals h k hk => by
  obtain ⟨v, rfl, h1⟩ := v1_sound hk
  obtain ⟨a, rfl, h2⟩ := atK_sound h1
  obtain ⟨r, h3, h4⟩ := s_b2s o s d e x ho hs he hd a h _ h2
  exact ⟨_, h3, h4⟩
noncomputable def xS2b : DX := .chain fun vals h k => v1 vals (fun v => strK v (fun s => xs2b s h (fun r h' => k (.one r) h')))
theorem ok_s2b {o : Oper} {s d e : TypeId} {x : Operand} (ho : o.op = .convert s d x) {u : TypeDesc} (hs : P.underlying s = some u) (hd : P.underlying d = some (.slice e)) (he : P.underlying e = some (.int .u8)) : DXOk P o xS2b := fun vals h k hk => by
  obtain ⟨v, rfl, h1⟩ := v1_sound hk
  obtain ⟨q, rfl, h2⟩ := strK_sound h1
  obtain ⟨r, h', h3, h4⟩ := s_s2b o s d e x ho u hs hd he q h _ h2
  exact ⟨_, h', h3, h4⟩

/-! ### Slices made, added to, laid bare -/
noncomputable def xAppend (esz : Nat) (be : Bool) : DX := .chain fun vals h k => v2 vals (fun v u => atK v (fun s => atK u (fun a => xapp esz be s a h (fun r h' => k (.one r) h'))))
theorem ok_append {o : Oper} {sT xT e : TypeId} {x y : Operand} (ho : o.op = .call { callee := .builtin .append, args := #[x, y], argTypes := #[sT, xT] }) {ie : TypeInfo} {dx : TypeDesc} {Z : Value} (ht : P.underlying sT = some (.slice e)) (hie : P.info? e = some ie) (hx : P.underlying xT = some dx) (hxi : ∀ k, dx ≠ .int k) (hzr : ie.zero = some Z) {esz : Nat} (hes : ie.size = esz) (hzs : Nat.beq Z.cells.size esz = true) (hby : Nat.ble ie.bytes 1048576 = true) {be : Bool} (hbe : be = true → e = 5) : DXOk P o (xAppend esz be) := fun vals h k hk => by
  subst hes
  obtain ⟨v, u, rfl, h1⟩ := v2_sound hk
  obtain ⟨s, rfl, h2⟩ := atK_sound h1
  obtain ⟨a, rfl, h3⟩ := atK_sound h2
  obtain ⟨r, h', h4, h5⟩ := s_append o sT xT e x y ho ie dx Z ht hie hx hxi hzr (Nat.eq_of_beq_eq_true hzs) (by simpa using hby) be hbe s a h _ h3
  exact ⟨_, h', h4, h5⟩
noncomputable def xAppendZ (esz : Nat) (be : Bool) (z : List At) : DX := .chain fun vals h k => v2 vals (fun v u => atK v (fun s => intK u (fun _ i => natK i (fun n => xappz esz be z s n h (fun r h' => k (.one r) h')))))
theorem ok_appendZ {o : Oper} {sT xT e : TypeId} {x y : Operand} (ho : o.op = .call { callee := .builtin .append, args := #[x, y], argTypes := #[sT, xT] }) {ie : TypeInfo} {kx : IntKind} {Z : Value} (ht : P.underlying sT = some (.slice e)) (hie : P.info? e = some ie) (hx : P.underlying xT = some (.int kx)) (hzr : ie.zero = some Z) {esz : Nat} (hes : ie.size = esz) (hzs : Nat.beq Z.cells.size esz = true) (hsz : esz ≠ 0) (hby : Nat.ble ie.bytes 1048576 = true) {be : Bool} (hbe : be = true → e = 5)
    {z : List At} (hz : ∀ ρ, ARels ρ z Z.cells.toList) : DXOk P o (xAppendZ esz be z) := fun vals h k hk => by
  subst hes
  obtain ⟨v, u, rfl, h1⟩ := v2_sound hk
  obtain ⟨s, rfl, h2⟩ := atK_sound h1
  obtain ⟨kk, i, rfl, h3⟩ := intK_sound h2
  obtain ⟨n, rfl, h4⟩ := natK_sound h3
  obtain ⟨r, h', h5, h6⟩ := s_append_zeros o sT xT e x y ho ie kx Z ht hie hx hzr (Nat.eq_of_beq_eq_true hzs) hsz (by simpa using hby) be hbe z hz s kk n h _ h4
  exact ⟨_, h', h5, h6⟩
noncomputable def xMake (esz : Nat) (be : Bool) (z : List At) : DX := .chain fun vals h k => v2 vals (fun v u => intK v (fun _ i => natK i (fun l => intK u (fun _ j => natK j (fun c => xmake esz be z l c h (fun r h' => k (.one r) h'))))))
theorem ok_make {o : Oper} {t e : TypeId} {x y : Operand} (ho : o.op = .makeSlice t x y) (ht : P.underlying t = some (.slice e)) {ie : TypeInfo} (hie : P.info? e = some ie) {Z : Value} (hzr : ie.zero = some Z) {esz : Nat} (hes : ie.size = esz) (hzs : Nat.beq Z.cells.size esz = true) (hby : Nat.ble ie.bytes 1048576 = true) {be : Bool} (hbe : be = true → e = 5) {z : List At} (hz : ∀ ρ, ARels ρ z Z.cells.toList) : DXOk P o (xMake esz be z) := fun vals h k hk => by
  subst hes
  obtain ⟨v, u, rfl, h1⟩ := v2_sound hk
  obtain ⟨kk, i, rfl, h2⟩ := intK_sound h1
  obtain ⟨l, rfl, h3⟩ := natK_sound h2
  obtain ⟨kk', j, rfl, h4⟩ := intK_sound h3
  obtain ⟨c, rfl, h5⟩ := natK_sound h4
  obtain ⟨r, h', h6, h7⟩ := s_makeSlice o t e x y ho ht ie hie Z hzr (Nat.eq_of_beq_eq_true hzs) (by simpa using hby) be hbe z hz kk kk' l c h _ h5
  exact ⟨_, h', h6, h7⟩
noncomputable def xClear (z : List At) : DX := .chain fun vals h k => v1 vals (fun v => atK v (fun a => xclear z a h (fun h' => k (.tup []) h')))
theorem ok_clearS {o : Oper} {t e : TypeId} {x : Operand} (ho : o.op = .call { callee := .builtin .clear, args := #[x], argTypes := #[t] }) (ht : P.underlying t = some (.slice e)) {ie : TypeInfo} (hie : P.info? e = some ie) {Z : Value} (hzr : ie.zero = some Z) {z : List At} (hz : ∀ ρ, ARels ρ z Z.cells.toList) : DXOk P o (xClear z) := fun vals h k hk => by
  obtain ⟨v, rfl, h1⟩ := v1_sound hk
  obtain ⟨a, rfl, h2⟩ := atK_sound h1
  obtain ⟨h', h3, h4⟩ := s_clear o t x _ ho ht z (.inr ⟨e, ie, Z, rfl, hie, hzr, hz⟩) a h _ h2 (fun q => by obtain ⟨_, _, q⟩ := q; cases q)
  exact ⟨_, h', h3, h4⟩
noncomputable def isMp (a : At) (k : Bool) : Bool := At.rec (motive_1 := fun _ => Bool) (motive_2 := fun _ => Bool) (fun _ => false) (fun _ _ => false) (fun _ => false) false (fun _ _ => false) false false (fun _ _ _ _ _ _ => false) k (fun _ => k) false (fun _ _ _ _ _ => false) false (fun _ _ _ _ => false) a
noncomputable def xClearM : DX := .chain fun vals h k => v1 vals (fun v => atK v (fun a => isMp a (xclear [] a h (fun h' => k (.tup []) h'))))
theorem ok_clearM {o : Oper} {t kt e : TypeId} {x : Operand} (ho : o.op = .call { callee := .builtin .clear, args := #[x], argTypes := #[t] }) (ht : P.underlying t = some (.map kt e)) : DXOk P o xClearM := fun vals h k hk => by
  obtain ⟨v, rfl, h1⟩ := v1_sound hk
  obtain ⟨a, rfl, h2⟩ := atK_sound h1
  have h3 : xclear [] a h (fun h' => k (.tup []) h') = true ∧ ∀ b o n c sz ex, a ≠ .slc b o n c sz ex := by
    cases a <;> first | (cases h2; done) | exact ⟨h2, fun _ _ _ _ _ _ => nofun⟩
  obtain ⟨h', h4, h5⟩ := s_clear o t x _ ho ht [] (.inl ⟨kt, e, rfl⟩) a h _ h3.1 (fun _ => h3.2)
  exact ⟨_, h', h4, h5⟩
noncomputable def xUsd : DX := .read fun vals h k => v1 vals (fun v => atK v (fun a => xusd a (fun r => k (.one r))))
theorem ok_usd {o : Oper} {x : Operand} {ats : Array TypeId} (ho : o.op = .call { callee := .builtin .unsafeSliceData, args := #[x], argTypes := ats }) : DXOk P o xUsd := fun vals h k hk => by
  obtain ⟨v, rfl, h1⟩ := v1_sound hk
  obtain ⟨a, rfl, h2⟩ := atK_sound h1
  obtain ⟨r, h3, h4⟩ := s_usd o x ats ho a h _ h2
  exact ⟨_, h3, h4⟩
noncomputable def xUstr : DX := .chain fun vals h k => v2 vals (fun v u => atK v (fun p => atK u (fun n => xustr p n h (fun r h' => k (.one r) h'))))
theorem ok_ustr {o : Oper} {x y : Operand} {pt it : TypeId} (ho : o.op = .call { callee := .builtin .unsafeString, args := #[x, y], argTypes := #[pt, it] }) (hp : P.underlying pt = some (.pointer 5)) (hc : P.cellsOf 5 = 1) : DXOk P o xUstr := fun vals h k hk => by
  obtain ⟨v, u, rfl, h1⟩ := v2_sound hk
  obtain ⟨p, rfl, h2⟩ := atK_sound h1
  obtain ⟨n, rfl, h3⟩ := atK_sound h2
  obtain ⟨r, h', h4, h5⟩ := s_ustr o x y pt it ho hp hc p n h _ h3
  exact ⟨_, h', h4, h5⟩

/-! ### Structs compared, maps, function values, calls -/
noncomputable def xEqAgg (ks : List KK) (neg : Bool) : DX := .read fun vals h k => v2 vals (fun a b => xeqagg ks neg a b (fun r => k (.one r)))
theorem ok_eqagg {o : Oper} {neg : Bool} {t t' : TypeId} {x y : Operand} (ho : o.op = .binOp (if neg then .neq else .eql) t x y t') {ks : List KK} (hf : FlatT P t ks) (hm : P.eqGuardType P.depth t = false) : DXOk P o (xEqAgg ks neg) := fun vals h k hk => by
  obtain ⟨a, b, rfl, h1⟩ := v2_sound hk
  obtain ⟨r, h2, h3⟩ := s_eqagg o neg t t' x y ho ks hf hm a b h _ h1
  exact ⟨_, h2, h3⟩
noncomputable def xLookup (s : KeyS) (z : AV) (ok : Bool) : DX := .read fun vals h k => v2 vals (fun m key => atK m (fun m => xlookup s z ok m key h k))
theorem ok_lookup {o : Oper} {t kt e : TypeId} {x ix : Operand} {ok : Bool} (ho : o.op = .lookup t x ix ok) (ht : P.underlying t = some (.map kt e)) {s : KeyS} (hs : KeyT P kt s) {ie : TypeInfo} (hie : P.info? e = some ie) {Z : Value} (hzr : ie.zero = some Z) {z : AV} (hz : ∀ ρ, VRel ρ z Z) : DXOk P o (xLookup s z ok) := fun vals h k hk => by
  obtain ⟨m, key, rfl, h1⟩ := v2_sound hk
  obtain ⟨m, rfl, h2⟩ := atK_sound h1
  obtain ⟨v, h3, h4⟩ := s_lookup o t kt e x ix ok ho ht s hs ie hie Z hzr z hz m key h k h2
  exact ⟨v, h3, h4⟩
noncomputable def xUpd (s : KeyS) : DX := .chain fun vals h k => v3 vals (fun m key v => atK m (fun m => xupd s m key v h (fun h' => k (.tup []) h')))
theorem ok_upd {o : Oper} {t kt e : TypeId} {xm xk xv : Operand} (ho : o.op = .mapUpdate t xm xk xv ∨ o.op = .insert t xm xk xv) (ht : P.underlying t = some (.map kt e)) {s : KeyS} (hs : KeyT P kt s) : DXOk P o (xUpd s) := fun vals h k hk => by
  obtain ⟨m, key, v, rfl, h1⟩ := v3_sound hk
  obtain ⟨m, rfl, h2⟩ := atK_sound h1
  obtain ⟨h', h3, h4⟩ := s_upd o t kt e xm xk xv ho ht s hs m key v h _ h2
  exact ⟨_, h', h3, h4⟩
noncomputable def xMkfn (f : Nat) (first : Bool) : DX := .pure fun vals k => atomsK vals (fun l => sel first (k (.one (.fn f l []))) (k (.one (.fn f [] l))))
theorem ok_mkfn0 {o : Oper} {f : FuncId} (hf : f < 1000000000) {caps : Array Operand} (ho : o.op = .makeFunc (.func f) #[] caps) : DXOk P o (xMkfn f false) := fun vals k hk => by
  obtain ⟨l, h1, h2⟩ := s_mkfn o f hf #[] caps ho (.inl rfl) vals _ hk
  rw [sel_eq, if_neg (by simp)] at h1
  exact ⟨_, h1, by simpa using h2⟩
theorem ok_mkfn1 {o : Oper} {f : FuncId} (hf : f < 1000000000) {x : Operand} {xs : List Operand} (ho : o.op = .makeFunc (.func f) (x :: xs).toArray #[]) : DXOk P o (xMkfn f true) := fun vals k hk => by
  obtain ⟨l, h1, h2⟩ := s_mkfn o f hf _ #[] ho (.inr rfl) vals _ hk
  rw [sel_eq, if_pos rfl] at h1
  exact ⟨_, h1, by simpa using h2⟩
noncomputable def xCallD (t : List (Nat × Xop)) : DX := .chain (xCall t)
theorem ok_call {o : Oper} {fop : Operand} {xs : Array Operand} {ats : Array TypeId} (ho : o.op = .call { callee := .value fop, args := xs, argTypes := ats }) {t : List (Nat × Xop)} (ht : TblOk P t) : DXOk P o (xCallD t) := s_call o fop xs ats ho ht
end Go.Proofs.YtddbhljljmijcaaGreat.V
