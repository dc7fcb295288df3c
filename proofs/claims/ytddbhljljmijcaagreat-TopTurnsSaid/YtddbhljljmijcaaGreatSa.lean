/- The operations' kinds, third part. -/
import Derived.Test.YtddbhljljmijcaaGreatRz
namespace Go.Proofs.YtddbhljljmijcaaGreat.V
open Go.RowKit
set_option linter.unusedVariables false
set_option linter.unusedSimpArgs false
variable {P : Program}

/-! ### Nil, pointers -/
noncomputable def optB (q : Option Bool) (k : Bool → Bool) : Bool := Option.rec (motive := fun _ => Bool) false (fun b => fB b k) q
theorem optB_sound {q : Option Bool} {k : Bool → Bool} (h : optB q k = true) : ∃ b, q = some b ∧ k b = true := by
  cases q with
  | none => cases h
  | some b =>
    have h : fB b k = true := h
    rw [fB_eq] at h
    exact ⟨b, rfl, h⟩
noncomputable def xEqNil (bk : BK) (neg : Bool) : DX := .pure fun vals k => v2 vals (fun v u => atK v (fun a => atK u (fun b => optB (eqNil bk a b) (fun q => fB (q != neg) (fun r => k (.one (.bool r)))))))
theorem ok_eqnil {o : Oper} {neg : Bool} {t t' : TypeId} {x y : Operand} (ho : o.op = .binOp (if neg then .neq else .eql) t x y t') {bk : BK} (hb : bk.ok P t) : DXOk P o (xEqNil bk neg) := fun vals k hk => by
  obtain ⟨v, u, rfl, h1⟩ := v2_sound hk
  obtain ⟨a, rfl, h2⟩ := atK_sound h1
  obtain ⟨b, rfl, h3⟩ := atK_sound h2
  obtain ⟨q, hq, h4⟩ := optB_sound h3
  rw [fB_eq] at h4
  refine ⟨_, h4, fun hp => s_bin o _ t t' x y ho _ _ (.bool (q != neg)) hp fun H W0 ρ w A B hrel hA hB => ?_⟩
  exact ⟨_, (eqNil_bin hq hA hB).run (eqNil_run hb hq hA hB w) neg x y, .bool _⟩
noncomputable def atPtrK (a : At) (y : Nat → Nat → Bool) (n : Bool) : Bool := At.rec (motive_1 := fun _ => Bool) (motive_2 := fun _ => Bool) (fun _ => n) (fun _ _ => n) (fun _ => n) n y n n (fun _ _ _ _ _ _ => n) n (fun _ => n) n (fun _ _ _ _ _ => n) false (fun _ _ _ _ => false) a
theorem atPtrK_sound {a : At} {y : Nat → Nat → Bool} {n : Bool} (h : atPtrK a y n = true) : (∃ b i, a = .ptr b i ∧ y b i = true) ∨ n = true := by
  cases a <;> first | exact .inl ⟨_, _, rfl, h⟩ | exact .inr h
noncomputable def xEqPtr (neg : Bool) : DX := .read fun vals h k => v2 vals (fun v u => atK v (fun a => atK u (fun b =>
  atPtrK a (fun p i => atPtrK b (fun q j => gd (Nat.beq p q) (cellsK h p (fun _ _ _ => fB (Nat.beq i j != neg) (fun r => k (.one (.bool r))))))
    (optB (eqNil .ptr a b) (fun q => fB (q != neg) (fun r => k (.one (.bool r))))))
    (optB (eqNil .ptr a b) (fun q => fB (q != neg) (fun r => k (.one (.bool r))))))))
theorem ptr_eqs {t : TypeId} {a b : Option Addr} : Eqs t (.pointer a) (.pointer b) := ⟨fun _ _ => rfl, fun _ _ => rfl, rfl, rfl⟩
theorem ok_eqptr {o : Oper} {neg : Bool} {t t' : TypeId} {x y : Operand} (ho : o.op = .binOp (if neg then .neq else .eql) t x y t') (hb : BK.ptr.ok P t) : DXOk P o (xEqPtr neg) := fun vals h k hk => by
  obtain ⟨v, u, rfl, h1⟩ := v2_sound hk
  obtain ⟨a, rfl, h2⟩ := atK_sound h1
  obtain ⟨b, rfl, h3⟩ := atK_sound h2
  have nil : optB (eqNil .ptr a b) (fun q => fB (q != neg) (fun r => k (.one (.bool r)))) = true → ∃ v, k v = true ∧ OpS P o [.one a, .one b] h v h := by
    intro h3
    obtain ⟨q, hq, h4⟩ := optB_sound h3
    rw [fB_eq] at h4
    refine ⟨_, h4, s_bin o _ t t' x y ho _ _ (.bool (q != neg)) h fun H W0 ρ w A B hrel hA hB => ?_⟩
    exact ⟨_, (eqNil_bin hq hA hB).run (eqNil_run hb hq hA hB w) neg x y, .bool _⟩
  rcases atPtrK_sound h3 with ⟨p, i, rfl, h4⟩ | h4
  · rcases atPtrK_sound h4 with ⟨q, j, rfl, h5⟩ | h5
    · obtain ⟨e, h6⟩ := gd_eq h5
      have e := Nat.eq_of_beq_eq_true e
      subst e
      obtain ⟨c, fz, byte, bd, hg, h7⟩ := cellsK_sound h6
      rw [fB_eq] at h7
      refine ⟨_, h7, s_bin o _ t t' x y ho _ _ (.bool (Nat.beq i j != neg)) h fun H W0 ρ w A B hrel hA hB => ?_⟩
      have hr := eqPtr_run hb hrel hg hA hB
      have he : Eqs t A B := by cases hA <;> cases hB <;> exact ptr_eqs
      exact ⟨_, he.run hr neg x y, .bool _⟩
    · exact nil h5
  · exact nil h4

/-! ### Loads, stores -/
noncomputable def xLoad1 : DX := .read fun vals h k => v1 vals (fun v => ptrK v (fun b i => cellsK h b (fun c _ _ => lgetK c i (fun a => k (.one a)))))
theorem ok_load1 {o : Oper} {t : TypeId} {x : Operand} (ho : o.op = .load t x) {d : TypeDesc} (hd : P.underlying t = some d) (ha : isAggD d = false) : DXOk P o xLoad1 := fun vals h k hk => by
  obtain ⟨v, rfl, h1⟩ := v1_sound hk
  obtain ⟨b, i, rfl, h2⟩ := ptrK_sound h1
  obtain ⟨a, h3, h4⟩ := s_load1 o t x ho d hd ha b i h (fun a => k (.one a)) h2
  exact ⟨_, h3, h4⟩
noncomputable def xLoadN (n : Nat) : DX := .read fun vals h k => v1 vals (fun v => ptrK v (fun b i => cellsK h b (fun c _ _ => lsubK c i n (fun l => k (.agg l)))))
theorem ok_loadN {o : Oper} {t : TypeId} {x : Operand} (ho : o.op = .load t x) {d : TypeDesc} (hd : P.underlying t = some d) (ha : isAggD d = true) {inf : TypeInfo} (hi : P.info? t = some inf) {n : Nat} (hn : inf.size = n) : DXOk P o (xLoadN n) := fun vals h k hk => by
  obtain ⟨v, rfl, h1⟩ := v1_sound hk
  obtain ⟨b, i, rfl, h2⟩ := ptrK_sound h1
  obtain ⟨l, h3, h4⟩ := s_loadN o t x ho d hd ha inf hi n hn b i h (fun l => k (.agg l)) h2
  exact ⟨_, h3, h4⟩
noncomputable def cellsOfK (v : AV) (k : List At → Bool) : Bool := AV.rec (motive_1 := fun _ => Bool) (motive_2 := fun _ => Bool) (fun a => k [a]) k (fun _ _ => false) false (fun _ => false) false (fun _ _ _ _ => false) v
theorem cellsOfK_sound {v : AV} {k : List At → Bool} (h : cellsOfK v k = true) : ∃ l, v.cells = some l ∧ k l = true := by
  cases v with
  | any => cases h
  | sym _ => cases h
  | one a => exact ⟨_, rfl, h⟩
  | agg l => exact ⟨_, rfl, h⟩
  | tup _ => cases h
noncomputable def xStore (n : Nat) : DX := .chain fun vals h k => v2 vals (fun p v => ptrK p (fun b i => cellsOfK v (fun l => llenK l (fun m => gd (Nat.beq n m) (storeK h b i l (fun h' => k (.tup []) h'))))))
theorem ok_store {o : Oper} {t : TypeId} {x y : Operand} (ho : o.op = .store t x y) {inf : TypeInfo} (hi : P.info? t = some inf) {n : Nat} (hn : inf.size = n) : DXOk P o (xStore n) := fun vals h k hk => by
  obtain ⟨p, v, rfl, h1⟩ := v2_sound hk
  obtain ⟨b, i, rfl, h2⟩ := ptrK_sound h1
  obtain ⟨l, hl, h3⟩ := cellsOfK_sound h2
  rw [llenK_eq] at h3
  obtain ⟨h4, h5⟩ := gd_eq h3
  obtain ⟨h', h6, h7⟩ := s_store o t x y ho inf hi b i v l hl (by rw [hn]; exact Nat.eq_of_beq_eq_true h4) h (fun h' => k (.tup []) h') h5
  exact ⟨_, h', h6, h7⟩
end Go.Proofs.YtddbhljljmijcaaGreat.V
