/- The operations' kinds, second part. -/
import Derived.Test.YtddbhljljmijcaaGreatRy
namespace Go.Proofs.YtddbhljljmijcaaGreat.V
open Go.RowKit
set_option linter.unusedVariables false
set_option linter.unusedSimpArgs false
variable {P : Program}

noncomputable def xNil : DX := .pure fun vals k => v1 vals (fun v => atK v (fun a => At.rec (motive_1 := fun _ => Bool) (motive_2 := fun _ => Bool) (fun _ => false) (fun _ _ => false) (fun _ => false) false (fun b o => k (.one (.ptr b o))) false false (fun _ _ _ _ _ _ => false) false (fun _ => false) false (fun f F C _ _ => k (.one (.fn f F C))) false (fun _ _ _ _ => false) a))
theorem ok_nil {o : Oper} {x : Operand} (ho : o.op = .nilCheck x) : DXOk P o xNil := fun vals k hk => by
  obtain ⟨v, rfl, h1⟩ := v1_sound hk
  obtain ⟨a, rfl, h2⟩ := atK_sound h1
  cases a with
  | ptr b i => exact ⟨_, h2, fun hp => s_nil_ptr o x ho b i hp⟩
  | fn f F C => exact ⟨_, h2, fun hp => s_nil_fn o x ho f F C hp⟩
  | _ => cases h2
noncomputable def xFaddr (off : Nat) : DX := .pure fun vals k => v1 vals (fun v => ptrK v (fun b i => fN (Nat.add i off) (fun j => k (.one (.ptr b j)))))
theorem ok_faddr {o : Oper} {t : TypeId} {x : Operand} {i : Nat} (ho : o.op = .fieldAddr t x i) {fs : Array Field} {f : Field} (ht : P.underlying t = some (.struct fs)) (hf : fs[i]? = some f) {inf : TypeInfo} (hi : P.info? f.type = some inf) (hz : inf.size ≠ 0) : DXOk P o (xFaddr f.offset) := fun vals k hk => by
  obtain ⟨v, rfl, h1⟩ := v1_sound hk
  obtain ⟨b, j, rfl, h2⟩ := ptrK_sound h1
  rw [fN_eq] at h2
  exact ⟨_, h2, fun hp => s_faddr o t x i ho fs f ht hf inf hi hz b j hp⟩

/-! ### Arithmetic, comparisons -/
noncomputable def xInt (op : BinOp) : DX := .pure fun vals k => v2 vals (fun v u => intK v (fun kk x => intK u (fun kk' y => gd (Nat.beq (kidx kk) (kidx kk')) (iop op kk x y (fun a => k (.one a))))))
theorem ok_int {o : Oper} {op : BinOp} {t t' : TypeId} {x y : Operand} (ho : o.op = .binOp op t x y t') : DXOk P o (xInt op) := fun vals k hk => by
  obtain ⟨v, u, rfl, h1⟩ := v2_sound hk
  obtain ⟨kk, i, rfl, h2⟩ := intK_sound h1
  obtain ⟨kk', j, rfl, h3⟩ := intK_sound h2
  obtain ⟨h4, h5⟩ := gd_eq h3
  obtain ⟨r, h6, h7⟩ := iop_sound (P := P) op t kk kk' i j _ (.inl (kidx_inj h4)) h5
  refine ⟨_, h6, fun hp => s_bin o op t t' x y ho _ _ r hp fun H W0 ρ w A B hrel hA hB => ?_⟩
  cases hA; cases hB
  exact h7 ρ w x y
noncomputable def xShift (op : BinOp) : DX := .pure fun vals k => v2 vals (fun v u => intK v (fun kk x => intK u (fun _ y => iop op kk x y (fun a => k (.one a)))))
theorem ok_shift {o : Oper} {op : BinOp} (hop : op = .shl ∨ op = .shr) {t t' : TypeId} {x y : Operand} (ho : o.op = .binOp op t x y t') : DXOk P o (xShift op) := fun vals k hk => by
  obtain ⟨v, u, rfl, h1⟩ := v2_sound hk
  obtain ⟨kk, i, rfl, h2⟩ := intK_sound h1
  obtain ⟨kk', j, rfl, h3⟩ := intK_sound h2
  obtain ⟨r, h6, h7⟩ := iop_sound (P := P) op t kk kk' i j _ (.inr hop) h3
  refine ⟨_, h6, fun hp => s_bin o op t t' x y ho _ _ r hp fun H W0 ρ w A B hrel hA hB => ?_⟩
  cases hA; cases hB
  exact h7 ρ w x y
noncomputable def xStr (op : BinOp) : DX := .pure fun vals k => v2 vals (fun v u => strK v (fun x => strK u (fun y => sop op x y (fun a => k (.one a)))))
theorem sop_any {op : BinOp} {t : TypeId} {x y : List Nat} {c : At → Bool} (h : sop op x y c = true) : ∃ v, c v = true ∧ ∀ X Y : ByteArray, X.data.toList.map UInt8.toNat = x → Y.data.toList.map UInt8.toNat = y → BinS P op t (.string X) (.string Y) v := by
  have one : ∀ v, (∀ c' : At → Bool, c' v = true → sop op x y c' = true) → c v = true → ∃ v, c v = true ∧ ∀ X Y : ByteArray, X.data.toList.map UInt8.toNat = x → Y.data.toList.map UInt8.toNat = y → BinS P op t (.string X) (.string Y) v := by
    classical
    intro v hv hc
    refine ⟨v, hc, fun X Y hX hY => ?_⟩
    obtain ⟨u, h1, h2⟩ := sop_sound (P := P) op t x y (fun u => decide (u = v)) X Y hX hY (hv _ (by simp))
    have : u = v := by simpa using h1
    rw [← this]; exact h2
  cases op <;> try (cases h; done)
  · rw [sop, llenK_eq, llenK_eq] at h
    obtain ⟨h1, h2⟩ := gd_eq h
    rw [lappK_eq] at h2
    exact one _ (fun c' hc => by rw [sop, llenK_eq, llenK_eq, h1, lappK_eq]; exact hc) h2
  · rw [sop, fB_eq] at h
    exact one _ (fun c' hc => by rw [sop, fB_eq]; exact hc) h
  · rw [sop, fB_eq, sel_eq] at h
    refine one (.bool (!(leqB x y))) (fun c' hc => ?_) ?_
    · rw [sop, fB_eq, sel_eq]
      cases hb : leqB x y <;> simpa [hb] using hc
    · cases hb : leqB x y <;> simpa [hb] using h
theorem ok_str {o : Oper} {op : BinOp} {t t' : TypeId} {x y : Operand} (ho : o.op = .binOp op t x y t') : DXOk P o (xStr op) := fun vals k hk => by
  obtain ⟨v, u, rfl, h1⟩ := v2_sound hk
  obtain ⟨s, rfl, h2⟩ := strK_sound h1
  obtain ⟨s', rfl, h3⟩ := strK_sound h2
  obtain ⟨r, h6, h7⟩ := sop_any (P := P) (t := t) h3
  refine ⟨_, h6, fun hp => s_bin o op t t' x y ho _ _ r hp fun H W0 ρ w A B hrel hA hB => ?_⟩
  cases hA with | str hA => ?_
  cases hB with | str hB => ?_
  exact h7 _ _ hA hB ρ w x y
end Go.Proofs.YtddbhljljmijcaaGreat.V
