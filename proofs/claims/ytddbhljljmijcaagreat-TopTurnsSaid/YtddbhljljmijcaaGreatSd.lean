/- Short names, for texts that a program prints. -/
import Derived.Test.YtddbhljljmijcaaGreatSc
namespace Go.Proofs.YtddbhljljmijcaaGreat.V
open Go.RowKit
set_option linter.unusedVariables false
set_option linter.unusedSimpArgs false
variable {P : Program}

/-! ### Values that are written out -/
def atOf : Value → Option At
  | .bool b => some (.bool b)
  | .int k n => some (.int k n)
  | .string bs => some (.str (bs.data.toList.map UInt8.toNat))
  | .pointer none => some .nilp
  | .slice none 0 0 => some .nils
  | .map none => some .nilm
  | .nilFunc => some .nilf
  | _ => none
theorem atOf_sound {V : Value} {v : At} (h : atOf V = some v) (ρ : Ren) : ARel ρ v V := by
  unfold atOf at h
  split at h
  · cases h; exact .bool _
  · cases h; exact .int _ _
  · cases h; exact .str rfl
  · cases h; exact .nilp
  · cases h; exact .nils
  · cases h; exact .nilm
  · cases h; exact .nilf
  · cases h
def atsOf : List Value → Option (List At)
  | [] => some []
  | V :: L => match atOf V, atsOf L with
    | some v, some l => some (v :: l)
    | _, _ => none
theorem atsOf_sound : ∀ {L : List Value} {l : List At}, atsOf L = some l → ∀ ρ, ARels ρ l L
  | [], l, h, ρ => by cases h; exact .nil
  | V :: L, l, h, ρ => by
    unfold atsOf at h
    split at h
    · rename_i v m h1 h2
      cases h
      exact .cons (atOf_sound h1 ρ) (atsOf_sound h2 ρ)
    · cases h
def avOf : Value → Option AV
  | .agg L => (atsOf L.toList).map .agg
  | .nilIface => some .any
  | V => (atOf V).map .one
theorem avOf_sound {V : Value} {v : AV} (h : avOf V = some v) (ρ : Ren) : VRel ρ v V := by
  unfold avOf at h
  split at h
  · rename_i L
    cases e : atsOf L.toList with
    | none => rw [e] at h; cases h
    | some l => rw [e] at h; cases h; exact .agg (atsOf_sound e ρ)
  · cases h; exact .any
  · cases e : atOf V with
    | none => rw [e] at h; cases h
    | some l => rw [e] at h; cases h; exact .one (atOf_sound e ρ)

/-! ### Operands -/
theorem a0 : ArgsOk [] [] := .nil
theorem aT {t : Nat} {g : Get} (hg : GetOk g t) {l : List Operand} {m : List CArg} (h : ArgsOk l m) : ArgsOk (.tmp t :: l) (.tmp t g :: m) := .cons (.tmp hg) h
theorem aU {f : Nat} {l : List Operand} {m : List CArg} (hf : Nat.blt f 1000000000 = true) (h : ArgsOk l m) : ArgsOk (.func f :: l) (.val (.one (.fn f [] [])) :: m) := .cons (.func f (by simpa [Nat.blt_eq] using hf)) h
theorem aI (n : Int) {k : IntKind} {l : List Operand} {m : List CArg} (h : ArgsOk l m) : ArgsOk (.const (.int k n) :: l) (.val (.one (.int k n)) :: m) := .cons (.val _ _ fun _ => .one (.int k n)) h
theorem aV (v : AV) {V : Value} {l : List Operand} {m : List CArg} (hv : avOf V = some v) (h : ArgsOk l m) : ArgsOk (.const V :: l) (.val v :: m) := .cons (.val _ _ (avOf_sound hv)) h
theorem b0 : ArgGs [] [] := .nil
theorem bb {x : Operand} {g : Get} {l : List Operand} {m : List Get} (h : ArgG x g) (t : ArgGs l m) : ArgGs (x :: l) (g :: m) := .cons h t
theorem qT {t : Nat} {g : Get} (h : GetOk g t) : ArgG (.tmp t) g := h.arg
theorem qI (n : Int) {k : IntKind} : ArgG (.const (.int k n)) (cG (.one (.int k n))) := .val fun _ => .one (.int k n)
theorem qB {b : Bool} : ArgG (.const (.bool b)) (cG (.one (.bool b))) := .val fun _ => .one (.bool b)
theorem qV (v : AV) {V : Value} (hv : avOf V = some v) : ArgG (.const V) (cG v) := .val (avOf_sound hv)
theorem qU {f : Nat} (hf : Nat.blt f 1000000000 = true) : ArgG (.func f) (cG (.one (.fn f [] []))) := .func hf

/-! ### Operations, of operands that are fetched -/
theorem u0 {o : Oper} {X : DX} (hX : DXOk P o X) {gs : List Get} (ha : ArgGs o.op.operands.toList gs) : FOk P o (fun e h k => getsK gs e (fun vs => X.x vs h k)) := hX.x.gen ha
abbrev L1 := AV → Heap → (AV → Heap → Bool) → Bool
abbrev L2 := AV → AV → Heap → (AV → Heap → Bool) → Bool
noncomputable def F1 (g : Get) (f : L1) : OX := fun e h k => g e (fun v => f v h k)
noncomputable def F2 (g g' : Get) (f : L2) : OX := fun e h k => g e (fun v => g' e (fun u => f v u h k))
theorem u1 {o : Oper} {X : DX} (hX : DXOk P o X) {f : L1} (hf : ∀ v h k, f v h k = true → X.x [v] h k = true) {x : Operand} (hx : o.op.operands.toList = [x]) {g : Get} (ha : ArgG x g) : FOk P o (F1 g f) := fun e h k hk => by
  obtain ⟨v, h1, h2⟩ := ha e
  have hk : g e (fun v => f v h k) = true := hk
  rw [h1] at hk
  obtain ⟨r, h', h3, h4⟩ := hX.x [v] h k (hf v h k hk)
  exact ⟨[v], r, h', h3, h4, fun n D ρ a hr => by rw [hx]; exact .cons (h2 n D ρ a hr) .nil⟩
theorem u2 {o : Oper} {X : DX} (hX : DXOk P o X) {f : L2} (hf : ∀ v u h k, f v u h k = true → X.x [v, u] h k = true) {x y : Operand} (hx : o.op.operands.toList = [x, y]) {g g' : Get} (ha : ArgG x g) (hb : ArgG y g') : FOk P o (F2 g g' f) := fun e h k hk => by
  obtain ⟨v, h1, h2⟩ := ha e
  obtain ⟨u, i1, i2⟩ := hb e
  have hk : g e (fun v => g' e (fun u => f v u h k)) = true := hk
  rw [h1, i1] at hk
  obtain ⟨r, h', h3, h4⟩ := hX.x [v, u] h k (hf v u h k hk)
  exact ⟨[v, u], r, h', h3, h4, fun n D ρ a hr => by rw [hx]; exact .cons (h2 n D ρ a hr) (.cons (i2 n D ρ a hr) .nil)⟩
/-! Moves, choices. -/
noncomputable def lMove : L1 := fun v h k => k v h
theorem eMove : ∀ v h k, lMove v h k = true → xMove.x [v] h k = true := fun _ _ _ hk => hk
noncomputable def fPick (c x y : Get) : OX := fun e h k => c e (fun q => boolK q (fun q => sel q (x e (fun v => k v h)) (y e (fun v => k v h))))
theorem uP {d : Option Nat} {ty : TypeId} {pos : String} {af : Array Edge} {g : Option (Nat × Bool)} {c x y : Operand} {gc gx gy : Get} (hc : ArgG c gc) (hx : ArgG x gx) (hy : ArgG y gy) : FOk P ⟨d, .pick c x y, ty, pos, af, g⟩ (fPick gc gx gy) := fun e h k hk => by
  obtain ⟨cv, c1, c2⟩ := hc e
  obtain ⟨xv, x1, x2⟩ := hx e
  obtain ⟨yv, y1, y2⟩ := hy e
  have hk : gc e (fun q => boolK q (fun q => sel q (gx e (fun v => k v h)) (gy e (fun v => k v h)))) = true := hk
  rw [c1, x1, y1] at hk
  obtain ⟨r, h', h3, h4⟩ := (ok_pick (P := P) (o := ⟨d, .pick c x y, ty, pos, af, g⟩) rfl).x [cv, xv, yv] h k hk
  exact ⟨_, r, h', h3, h4, fun n D ρ a hr => .cons (c2 n D ρ a hr) (.cons (x2 n D ρ a hr) (.cons (y2 n D ρ a hr) .nil))⟩
noncomputable def lExt (i : Nat) : L1 := fun v h k => tupK v (fun l => lgetK l i (fun r => k r h))
theorem eExt {i : Nat} : ∀ v h k, lExt i v h k = true → (xExtract i).x [v] h k = true := fun _ _ _ hk => hk
noncomputable def lNot : L1 := fun v h k => boolK v (fun q => sel q (k (.one (.bool false)) h) (k (.one (.bool true)) h))
theorem eNot : ∀ v h k, lNot v h k = true → xNot.x [v] h k = true := fun _ _ _ hk => hk
noncomputable def lNil : L1 := fun v h k => atK v (fun a => At.rec (motive_1 := fun _ => Bool) (motive_2 := fun _ => Bool) (fun _ => false) (fun _ _ => false) (fun _ => false) false (fun b o => k v h) false false (fun _ _ _ _ _ _ => false) false (fun _ => false) false (fun f F C _ _ => k v h) false (fun _ _ _ _ => false) a)
theorem eNil : ∀ v h k, lNil v h k = true → xNil.x [v] h k = true := fun v h k hk => by
  obtain ⟨a, rfl, h2⟩ := atK_sound hk
  cases a <;> first | exact h2 | cases h2
noncomputable def lFaddr (off : Nat) : L1 := fun v h k => ptrK v (fun b i => fN (Nat.add i off) (fun j => k (.one (.ptr b j)) h))
theorem eFaddr {off : Nat} : ∀ v h k, lFaddr off v h k = true → (xFaddr off).x [v] h k = true := fun _ _ _ hk => hk
noncomputable def lLoad : L1 := fun v h k => ptrK v (fun b i => cellsK h b (fun c _ _ => lgetK c i (fun a => k (.one a) h)))
theorem eLoad : ∀ v h k, lLoad v h k = true → xLoad1.x [v] h k = true := fun _ _ _ hk => hk
noncomputable def lLoadN (n : Nat) : L1 := fun v h k => ptrK v (fun b i => cellsK h b (fun c _ _ => lsubK c i n (fun l => k (.agg l) h)))
theorem eLoadN {n : Nat} : ∀ v h k, lLoadN n v h k = true → (xLoadN n).x [v] h k = true := fun _ _ _ hk => hk
noncomputable def lLenSlc : L1 := fun v h k => atK v (fun a => lenA a (fun n => k (.one (.int .i64 (.ofNat n))) h))
theorem eLenSlc : ∀ v h k, lLenSlc v h k = true → xLenSlc.x [v] h k = true := fun _ _ _ hk => hk
noncomputable def lLenStr : L1 := fun v h k => strK v (fun s => llenK s (fun n => k (.one (.int .i64 (.ofNat n))) h))
theorem eLenStr : ∀ v h k, lLenStr v h k = true → xLenStr.x [v] h k = true := fun _ _ _ hk => hk
noncomputable def lCvt (kd : IntKind) : L1 := fun v h k => intK v (fun _ i => inK kd i (fun s => k (.one (.int kd s)) h))
theorem eCvt {kd : IntKind} : ∀ v h k, lCvt kd v h k = true → (xCvt kd).x [v] h k = true := fun _ _ _ hk => hk
noncomputable def lStore (n : Nat) : L2 := fun p v h k => ptrK p (fun b i => cellsOfK v (fun l => llenK l (fun m => gd (Nat.beq n m) (storeK h b i l (fun h' => k (.tup []) h')))))
theorem eStore {n : Nat} : ∀ v u h k, lStore n v u h k = true → (xStore n).x [v, u] h k = true := fun _ _ _ _ hk => hk
noncomputable def lIaddr (sz : Nat) : L2 := fun v u h k => slcK v (fun b o n _ _ _ => intK u (fun _ i => ixK i n (fun m => fN (Nat.add o (Nat.mul m sz)) (fun j => k (.one (.ptr b j)) h))))
theorem eIaddr {sz : Nat} : ∀ v u h k, lIaddr sz v u h k = true → (xIaddrS sz).x [v, u] h k = true := fun _ _ _ _ hk => hk
noncomputable def lIndexS : L2 := fun v u h k => strK v (fun s => intK u (fun _ i => natK i (fun m => lgetK s m (fun u => k (.one (.int .u8 (.ofNat u))) h))))
theorem eIndexS : ∀ v u h k, lIndexS v u h k = true → xIndexS.x [v, u] h k = true := fun _ _ _ _ hk => hk

/-! Numbers of 64 bits. -/
noncomputable def i64K (v : AV) (k : Int → Bool) : Bool := AV.rec (motive_1 := fun _ => Bool) (motive_2 := fun _ => Bool) (fun a => At.rec (motive_1 := fun _ => Bool) (motive_2 := fun _ => Bool) (fun _ => false) (fun kk n => IntKind.rec (motive := fun _ => Bool) false false false (k n) false false false false kk) (fun _ => false) false (fun _ _ => false) false false (fun _ _ _ _ _ _ => false) false (fun _ => false) false (fun _ _ _ _ _ => false) false (fun _ _ _ _ => false) a) (fun _ => false) (fun _ _ => false) false (fun _ => false) false (fun _ _ _ _ => false) v
theorem i64K_sound {v : AV} {k : Int → Bool} (h : i64K v k = true) : ∃ n, v = .one (.int .i64 n) ∧ k n = true := by
  cases v with
  | any => cases h
  | sym _ => cases h
  | agg _ => cases h
  | tup _ => cases h
  | one a =>
    cases a <;> try (cases h; done)
    rename_i kk n
    cases kk <;> first | exact ⟨n, rfl, h⟩ | cases h
noncomputable def addK (x y : Int) (c : Int → Bool) : Bool := Int.rec (motive := fun _ => Bool) (fun m => Int.rec (motive := fun _ => Bool) (fun n => fN (Nat.add m n) (fun s => gd (Nat.blt s 9223372036854775808) (c (.ofNat s)))) (fun n => inK .i64 (.ofNat m + .negSucc n) c) y) (fun m => inK .i64 (.negSucc m + y) c) x
theorem addK_eq (x y : Int) (c : Int → Bool) : addK x y c = inK .i64 (x + y) c := by
  cases x <;> cases y <;> try rfl
noncomputable def subK (x y : Int) (c : Int → Bool) : Bool := Int.rec (motive := fun _ => Bool) (fun m => Int.rec (motive := fun _ => Bool) (fun n => Bool.rec (motive := fun _ => Bool) (inK .i64 (.ofNat m - .ofNat n) c) (fN (Nat.sub m n) (fun s => gd (Nat.blt s 9223372036854775808) (c (.ofNat s)))) (Nat.ble n m)) (fun n => inK .i64 (.ofNat m - .negSucc n) c) y) (fun m => inK .i64 (.negSucc m - y) c) x
theorem subK_eq (x y : Int) (c : Int → Bool) : subK x y c = inK .i64 (x - y) c := by
  cases x <;> cases y <;> try rfl
  rename_i m n
  show Bool.rec (motive := fun _ => Bool) (inK .i64 (.ofNat m - .ofNat n) c) (fN (Nat.sub m n) (fun s => gd (Nat.blt s 9223372036854775808) (c (.ofNat s)))) (Nat.ble n m) = inK .i64 (Int.ofNat m - Int.ofNat n) c
  cases hb : Nat.ble n m with
  | false => rfl
  | true =>
    have hb : n ≤ m := Nat.le_of_ble_eq_true hb
    show fN (Nat.sub m n) (fun s => gd (Nat.blt s 9223372036854775808) (c (.ofNat s))) = _
    rw [fN_eq]
    have : Int.ofNat m - Int.ofNat n = Int.ofNat (m - n) := by simp only [Int.ofNat_eq_natCast]; omega
    rw [this]
    simp only [inK, fI_eq]
    rfl
noncomputable def mulK (x y : Int) (c : Int → Bool) : Bool := Int.rec (motive := fun _ => Bool) (fun m => Int.rec (motive := fun _ => Bool) (fun n => fN (Nat.mul m n) (fun s => gd (Nat.blt s 9223372036854775808) (c (.ofNat s)))) (fun n => inK .i64 (.ofNat m * .negSucc n) c) y) (fun m => inK .i64 (.negSucc m * y) c) x
theorem mulK_eq (x y : Int) (c : Int → Bool) : mulK x y c = inK .i64 (x * y) c := by
  cases x <;> cases y <;> try rfl
theorem bcases (b : Bool) (f t : Bool) : Bool.rec (motive := fun _ => Bool) f t b = if b = true then t else f := by cases b <;> rfl
noncomputable def ltK (x y : Int) (t f : Bool) : Bool := Int.rec (motive := fun _ => Bool) (fun m => Int.rec (motive := fun _ => Bool) (fun n => Bool.rec (motive := fun _ => Bool) f t (Nat.blt m n)) (fun _ => f) y) (fun m => Int.rec (motive := fun _ => Bool) (fun _ => t) (fun n => Bool.rec (motive := fun _ => Bool) f t (Nat.blt n m)) y) x
theorem ltK_eq (x y : Int) (t f : Bool) : ltK x y t f = if ltI x y = true then t else f := by
  cases x <;> cases y <;> simp only [ltI]
  · rename_i m n; exact bcases _ _ _
  · rfl
  · rfl
  · rename_i m n; exact bcases _ _ _
noncomputable def eqK (x y : Int) (t f : Bool) : Bool := Int.rec (motive := fun _ => Bool) (fun m => Int.rec (motive := fun _ => Bool) (fun n => Bool.rec (motive := fun _ => Bool) f t (Nat.beq m n)) (fun _ => f) y) (fun m => Int.rec (motive := fun _ => Bool) (fun _ => f) (fun n => Bool.rec (motive := fun _ => Bool) f t (Nat.beq m n)) y) x
theorem eqK_eq (x y : Int) (t f : Bool) : eqK x y t f = if eqI x y = true then t else f := by
  cases x <;> cases y <;> simp only [eqI]
  · rename_i m n; exact bcases _ _ _
  · rfl
  · rfl
  · rename_i m n; exact bcases _ _ _
theorem int2 {op : BinOp} {f : Int → Int → Heap → (AV → Heap → Bool) → Bool} (hf : ∀ x y h k, f x y h k = true → iop op .i64 x y (fun a => k (.one a) h) = true) : ∀ v u h k, i64K v (fun x => i64K u (fun y => f x y h k)) = true → (xInt op).x [v, u] h k = true := fun v u h k hk => by
  obtain ⟨x, rfl, h1⟩ := i64K_sound hk
  obtain ⟨y, rfl, h2⟩ := i64K_sound h1
  exact hf x y h k h2
noncomputable def lAdd : L2 := fun v u h k => i64K v (fun x => i64K u (fun y => addK x y (fun s => k (.one (.int .i64 s)) h)))
theorem eAdd : ∀ v u h k, lAdd v u h k = true → (xInt .add).x [v, u] h k = true := int2 fun x y h k hk => by rw [addK_eq] at hk; exact hk
noncomputable def lSub : L2 := fun v u h k => i64K v (fun x => i64K u (fun y => subK x y (fun s => k (.one (.int .i64 s)) h)))
theorem eSub : ∀ v u h k, lSub v u h k = true → (xInt .sub).x [v, u] h k = true := int2 fun x y h k hk => by rw [subK_eq] at hk; exact hk
noncomputable def lMul : L2 := fun v u h k => i64K v (fun x => i64K u (fun y => mulK x y (fun s => k (.one (.int .i64 s)) h)))
theorem eMul : ∀ v u h k, lMul v u h k = true → (xInt .mul).x [v, u] h k = true := int2 fun x y h k hk => by rw [mulK_eq] at hk; exact hk
noncomputable def lLss : L2 := fun v u h k => i64K v (fun x => i64K u (fun y => ltK x y (k (.one (.bool true)) h) (k (.one (.bool false)) h)))
theorem eLss : ∀ v u h k, lLss v u h k = true → (xInt .lss).x [v, u] h k = true := int2 fun x y h k hk => by
  rw [ltK_eq] at hk
  rw [iop, fB_eq]
  cases hb : ltI x y <;> rw [hb] at hk <;> exact hk
noncomputable def lGtr : L2 := fun v u h k => i64K v (fun x => i64K u (fun y => ltK y x (k (.one (.bool true)) h) (k (.one (.bool false)) h)))
theorem eGtr : ∀ v u h k, lGtr v u h k = true → (xInt .gtr).x [v, u] h k = true := int2 fun x y h k hk => by
  rw [ltK_eq] at hk
  rw [iop, fB_eq]
  cases hb : ltI y x <;> rw [hb] at hk <;> exact hk
noncomputable def lLeq : L2 := fun v u h k => i64K v (fun x => i64K u (fun y => ltK y x (k (.one (.bool false)) h) (k (.one (.bool true)) h)))
theorem eLeq : ∀ v u h k, lLeq v u h k = true → (xInt .leq).x [v, u] h k = true := int2 fun x y h k hk => by
  rw [ltK_eq] at hk
  rw [iop, fB_eq, sel_eq]
  exact hk
noncomputable def lGeq : L2 := fun v u h k => i64K v (fun x => i64K u (fun y => ltK x y (k (.one (.bool false)) h) (k (.one (.bool true)) h)))
theorem eGeq : ∀ v u h k, lGeq v u h k = true → (xInt .geq).x [v, u] h k = true := int2 fun x y h k hk => by
  rw [ltK_eq] at hk
  rw [iop, fB_eq, sel_eq]
  exact hk
noncomputable def lEql : L2 := fun v u h k => i64K v (fun x => i64K u (fun y => eqK x y (k (.one (.bool true)) h) (k (.one (.bool false)) h)))
theorem eEql : ∀ v u h k, lEql v u h k = true → (xInt .eql).x [v, u] h k = true := int2 fun x y h k hk => by
  rw [eqK_eq] at hk
  rw [iop, fB_eq]
  cases hb : eqI x y <;> rw [hb] at hk <;> exact hk
noncomputable def lNeq : L2 := fun v u h k => i64K v (fun x => i64K u (fun y => eqK x y (k (.one (.bool false)) h) (k (.one (.bool true)) h)))
theorem eNeq : ∀ v u h k, lNeq v u h k = true → (xInt .neq).x [v, u] h k = true := int2 fun x y h k hk => by
  rw [eqK_eq] at hk
  rw [iop, fB_eq, sel_eq]
  exact hk
/-! Calls of a function that is named. -/
noncomputable def fCall (X : Xop) (gs : List Get) : OX := fun e h k => getsK gs e (fun vs => X vs h k)
theorem uC {d : Option Nat} {ty : TypeId} {pos : String} {af : Array Edge} {g : Option (Nat × Bool)} {f : Nat} {xs : Array Operand} {ats : Array TypeId} {X : Xop} (hlt : Nat.blt f 1000000000 = true) (hX : FnGood P f X) {gs : List Get} (ha : ArgGs xs.toList gs) : FOk P ⟨d, .call { callee := .value (.func f), args := xs, argTypes := ats }, ty, pos, af, g⟩ (fCall X gs) := fun e h k hk => by
  obtain ⟨vs, h1, h2⟩ := getsK_sound ha hk
  have h3 : xCall [(f, X)] (.one (.fn f [] []) :: vs) h k = true := by
    show tblK [(f, X)] f (fun X => onesK [] (fun F => onesK [] (fun C => lappK vs C (fun r => lappK F r (fun all => X all h k))))) = true
    show sel (Nat.beq f f) (onesK [] (fun F => onesK [] (fun C => lappK vs C (fun r => lappK F r (fun all => X all h k))))) _ = true
    rw [sel_eq, if_pos (by simp), onesK_eq, onesK_eq, lappK_eq, lappK_eq]
    simpa using h1
  obtain ⟨v, h', h4, h5⟩ := s_call (P := P) ⟨d, .call { callee := .value (.func f), args := xs, argTypes := ats }, ty, pos, af, g⟩ (.func f) xs ats rfl (TblOk.cons hX TblOk.nil) _ h k h3
  refine ⟨_, v, h', h4, h5, fun n D ρ a hr => ?_⟩
  have hops : (Op.call { callee := .value (.func f), args := xs, argTypes := ats } : Op).operands.toList = .func f :: xs.toList := by simp [Op.operands, Call.operands]
  show VRels ρ (.one (.fn f [] []) :: vs) (List.map a.eval (Op.call { callee := .value (.func f), args := xs, argTypes := ats } : Op).operands.toList)
  rw [hops]
  exact .cons (.one (.fn (by simpa [Nat.blt_eq] using hlt) .nil .nil)) (h2 n D ρ a hr)

/-! ### Regions that run in their own order -/
section
variable {ops : Array Oper} {n d t : Nat} {op : Op} {ty : TypeId} {pos : String} {af : Array Edge} {X : DX} {l : List Oper} {rx : RX} {f : OX} {p : Put} {g : Get} {gi : Nat} {w : Bool}
theorem se : ROk P ops n [] rNil := rok_nil
theorem s1 (hp : PutOk p d) (hf : FOk P ⟨some d, op, ty, pos, af, none⟩ f) (h : ROk P ops n l rx) : ROk P ops n (⟨some d, op, ty, pos, af, none⟩ :: l) (rS f p rx) := rok_s rfl hf (.some hp) h
theorem s0 (hf : FOk P ⟨none, op, ty, pos, af, none⟩ f) (h : ROk P ops n l rx) : ROk P ops n (⟨none, op, ty, pos, af, none⟩ :: l) (rS f noPut rx) := rok_s rfl hf .none h
theorem g1 (hg : GetOk g t) (hp : PutOk p d) (hf : FOk P ⟨some d, op, ty, pos, af, some (gi, w)⟩ f) (hgi : (ops[gi]?).bind (·.dst) = some t) (h : ROk P ops n l rx) : ROk P ops n (⟨some d, op, ty, pos, af, some (gi, w)⟩ :: l) (rG g w f p rx) := rok_g rfl hg hgi hf (.some hp) h
theorem g0 (hg : GetOk g t) (hf : FOk P ⟨none, op, ty, pos, af, some (gi, w)⟩ f) (hgi : (ops[gi]?).bind (·.dst) = some t) (h : ROk P ops n l rx) : ROk P ops n (⟨none, op, ty, pos, af, some (gi, w)⟩ :: l) (rG g w f noPut rx) := rok_g rfl hg hgi hf .none h
end
def ltOs (n : Nat) : List Oper → Bool
  | [] => true
  | o :: l => (match o.dst with | none => true | some d => Nat.blt d n) && ltOs n l
theorem ltOs_sound {n : Nat} {l : List Oper} (h : ltOs n l = true) : ∀ o ∈ l, ltO n o := by
  induction l with
  | nil => intro o ho; cases ho
  | cons x l ih =>
    unfold ltOs at h
    simp only [Bool.and_eq_true] at h
    intro o ho
    rcases List.mem_cons.1 ho with q | q
    · intro d hd
      rw [q] at hd
      have := h.1
      rw [hd] at this
      simpa [Nat.blt_eq] using this
    · exact ih h.2 o q
theorem cR {n id : Nat} {ops : Array Oper} {rx : RX} (hs : ROk P ops n ops.toList rx) (hl : ltOs n ops.toList = true) : Good P n (.region id ops false) (xReg rx) := good_reg hs (ltOs_sound hl)

/-! ### Regions in any order -/
structure DStepOk' (P : Program) (ops : Array Oper) (o : Oper) (s : DStep) : Prop where
  dst : o.dst = s.dst
  args : ArgsOk o.op.operands.toList s.args
  guard : GuardG ops o.guard s.guard
  put : DstOk s.dst s.put
  X : DXOk P o s.X
def DOk (P : Program) (ops : Array Oper) (l : List DStep) : Prop := ∀ s ∈ l, ∃ o, ops[s.i]? = some o ∧ DStepOk' P ops o s
def ltD (n : Nat) : List DStep → Bool
  | [] => true
  | s :: l => (match s.dst with | none => true | some d => Nat.blt d n) && ltD n l
theorem ltD_sound {n : Nat} : ∀ {l : List DStep}, ltD n l = true → ∀ s ∈ l, ∀ d, s.dst = some d → d < n
  | s :: l, e, s', hs, d, hd => by
    unfold ltD at e
    simp only [Bool.and_eq_true] at e
    cases hs with
    | head =>
      have := e.1
      rw [hd] at this
      simpa [Nat.blt_eq] using this
    | tail _ hs => exact ltD_sound e.2 s' hs d hd
section
variable {ops : Array Oper} {d t : Nat} {op : Op} {ty : TypeId} {pos : String} {af : Array Edge} {X : DX} {l : List DStep} {args : List CArg} {gi : Nat} {w : Bool} {p : Put} {g : Get}
theorem de : DOk P ops [] := fun s hs => by cases hs
theorem dcons {s : DStep} {o : Oper} (ho : ops[s.i]? = some o) (h : DStepOk' P ops o s) (t : DOk P ops l) : DOk P ops (s :: l) := fun s' hs => by
  cases hs with
  | head => exact ⟨o, ho, h⟩
  | tail _ hs => exact t s' hs
theorem d1 (i an : Nat) (ho : ops[i]? = some ⟨some d, op, ty, pos, af, none⟩) (hp : PutOk p d) (hX : DXOk P ⟨some d, op, ty, pos, af, none⟩ X) (ha : ArgsOk op.operands.toList args) (h : DOk P ops l) : DOk P ops (⟨i, an, some d, p, args, none, X⟩ :: l) := dcons ho ⟨rfl, ha, trivial, .some hp, hX⟩ h
theorem d0 (i an : Nat) (ho : ops[i]? = some ⟨none, op, ty, pos, af, none⟩) (hX : DXOk P ⟨none, op, ty, pos, af, none⟩ X) (ha : ArgsOk op.operands.toList args) (h : DOk P ops l) : DOk P ops (⟨i, an, none, noPut, args, none, X⟩ :: l) := dcons ho ⟨rfl, ha, trivial, .none, hX⟩ h
theorem e1 (i an : Nat) (hg : GetOk g t) (ho : ops[i]? = some ⟨some d, op, ty, pos, af, some (gi, w)⟩) (hp : PutOk p d) (hX : DXOk P ⟨some d, op, ty, pos, af, some (gi, w)⟩ X) (ha : ArgsOk op.operands.toList args) (hgi : (ops[gi]?).bind (·.dst) = some t) (h : DOk P ops l) : DOk P ops (⟨i, an, some d, p, args, some (t, g, w), X⟩ :: l) := dcons ho ⟨rfl, ha, ⟨rfl, hgi, hg⟩, .some hp, hX⟩ h
theorem e0 (i an : Nat) (hg : GetOk g t) (ho : ops[i]? = some ⟨none, op, ty, pos, af, some (gi, w)⟩) (hX : DXOk P ⟨none, op, ty, pos, af, some (gi, w)⟩ X) (ha : ArgsOk op.operands.toList args) (hgi : (ops[gi]?).bind (·.dst) = some t) (h : DOk P ops l) : DOk P ops (⟨i, an, none, noPut, args, some (t, g, w), X⟩ :: l) := dcons ho ⟨rfl, ha, ⟨rfl, hgi, hg⟩, .none, hX⟩ h
end
theorem cD {n id : Nat} {ops : Array Oper} {l : List DStep} (hm : P.follows .mixedOrders = true) (hs : DOk P ops l) (hl : ltD n l = true) (hb : behindB l = true) (hp : planB ops n (l.map DStep.p) = true) : Good P n (.region id ops true) (xDraw l) :=
  good_draw hm (fun s h => let ⟨o, ho, q⟩ := hs s h; ⟨o, ho, q.dst, ltD_sound hl s h, q.args, q.guard, q.put, q.X⟩) (behindB_sound hb) (planB_sound hp)
def behindL : List (Nat × Nat × Bool) → Bool
  | [] => true
  | (i, _, c) :: l => (!c || l.all fun q => q.2.1.testBit i) && behindL l
theorem behindL_eq : ∀ l : List DStep, behindL (l.map fun s => (s.i, s.anc, isChain s.X)) = behindB l
  | [] => rfl
  | s :: l => by
    simp only [List.map_cons, behindL, behindB, behindL_eq l, List.all_map]
    rfl
/-- .. where the steps are not all known. -/
theorem cDv {n id : Nat} {ops : Array Oper} {l : List DStep} (pl : List PEnt) (bl : List (Nat × Nat × Bool)) (hm : P.follows .mixedOrders = true) (hs : DOk P ops l) (hl : ltD n l = true) (h1 : l.map DStep.p = pl) (h2 : planB ops n pl = true) (h3 : (l.map fun s => (s.i, s.anc, isChain s.X)) = bl) (h4 : behindL bl = true) : Good P n (.region id ops true) (xDraw l) :=
  cD hm hs hl (by rw [← behindL_eq, h3, h4]) (by rw [h1, h2])

/-! ### Code -/
section
variable {n id : Nat} {x y : Code} {X Y : XCode}
theorem cK : Good P n .skip xSkip := good_skip n
theorem cL {l : Nat} : Good P n (.label l) xSkip := good_label n l
theorem cE : Good P n (.exit id) (xExit id) := good_exit n id
theorem cT : Good P n .ret xRet := good_ret n
theorem cX : Good P n x xBad := good_bad n x
theorem cS (hx : Good P n x X) (hy : Good P n y Y) : Good P n (.seq x y) (xSeq X Y) := good_seq hx hy
theorem cC {t : Nat} {g : Get} (hg : GetOk g t) (hx : Good P n x X) (hy : Good P n y Y) : Good P n (.cond (.tmp t) x y) (xCond g X Y) := good_cond hg.arg hx hy
theorem cB (hx : Good P n x X) : Good P n (.block id x) (xBlock id X) := good_block hx
theorem cO (hx : Good P n x X) : Good P n (.loop x) (xLoop 100000 X) := good_loop hx 100000
theorem cP (hx : Good P n x X) : Good P n (.scope x) X := good_scope hx
end

/-! ### Functions -/
theorem r0 : RessOk P [] [] := .nil
theorem rT {t : Nat} {g : Get} (hg : GetOk g t) {l : List ResultVar} {m : List CRes} (h : RessOk P l m) : RessOk P (.tmp t :: l) (.tmp g :: m) := .cons (.tmp hg) h
theorem rC {t : Nat} {g : Get} (hg : GetOk g t) {ty : TypeId} {l : List ResultVar} {m : List CRes} {d : TypeDesc} (hd : P.underlying ty = some d) (ha : isAggD d = false) (h : RessOk P l m) : RessOk P (.cell t ty :: l) (.cell g none :: m) := .cons (.cell hg ty d hd ha) h
theorem rR {t : Nat} {g : Get} (hg : GetOk g t) {ty : TypeId} {l : List ResultVar} {m : List CRes} {d : TypeDesc} {inf : TypeInfo} {z : Nat} (hd : P.underlying ty = some d) (ha : isAggD d = true) (hi : P.info? ty = some inf) (hz : inf.size = z) (h : RessOk P l m) : RessOk P (.cell t ty :: l) (.cell g (some z) :: m) := by subst hz; exact .cons (.row hg ty d hd ha inf hi) h
theorem fN' {f : FuncId} {fn : Func} {np : Nat} {c : Code} {X : XCode} {L : List ResultVar} {rs : List CRes} (hlt : Nat.blt f 1000000000 = true) (hf : P.funcs[f]? = some fn) (hname : (fn.name == "runtime.NumGoroutine") = false) (hnp : fn.ntmps = np) (hr : fn.results = L.toArray) (hb : fn.body = some c) (hX : Good P np c X) (hrs : RessOk P L rs) : FnGood P f (xFn np X rs) := by
  subst hnp
  exact good_fn (by simpa [Nat.blt_eq] using hlt) hf hname hb hX hr hrs

/-! ### Operations -/
section
variable {d : Option Nat} {ty t t' : TypeId} {pos : String} {af : Array Edge} {g : Option (Nat × Bool)} {x y u v : Operand}
theorem oM : DXOk P ⟨d, .move x, ty, pos, af, g⟩ xMove := ok_move (.inl rfl)
theorem oA : DXOk P ⟨d, .assign x, ty, pos, af, g⟩ xMove := ok_move (.inr rfl)
theorem oP : DXOk P ⟨d, .pick x y u, ty, pos, af, g⟩ xPick := ok_pick rfl
theorem oE {i : Nat} : DXOk P ⟨d, .extract x i, ty, pos, af, g⟩ (xExtract i) := ok_extract rfl
theorem oN : DXOk P ⟨d, .unOp .not t x, ty, pos, af, g⟩ xNot := ok_not rfl
theorem oC : DXOk P ⟨d, .nilCheck x, ty, pos, af, g⟩ xNil := ok_nil rfl
theorem oI {op : BinOp} : DXOk P ⟨d, .binOp op t x y t', ty, pos, af, g⟩ (xInt op) := ok_int rfl
theorem oH {op : BinOp} (h : op = .shl ∨ op = .shr) : DXOk P ⟨d, .binOp op t x y t', ty, pos, af, g⟩ (xShift op) := ok_shift h rfl
theorem oS {op : BinOp} : DXOk P ⟨d, .binOp op t x y t', ty, pos, af, g⟩ (xStr op) := ok_str rfl
theorem oQ {bk : BK} (hb : bk.ok P t) : DXOk P ⟨d, .binOp .eql t x y t', ty, pos, af, g⟩ (xEqNil bk false) := ok_eqnil (neg := false) rfl hb
theorem oR {bk : BK} (hb : bk.ok P t) : DXOk P ⟨d, .binOp .neq t x y t', ty, pos, af, g⟩ (xEqNil bk true) := ok_eqnil (neg := true) rfl hb
theorem pQ (hb : BK.ptr.ok P t) : DXOk P ⟨d, .binOp .eql t x y t', ty, pos, af, g⟩ (xEqPtr false) := ok_eqptr (neg := false) rfl hb
theorem pR (hb : BK.ptr.ok P t) : DXOk P ⟨d, .binOp .neq t x y t', ty, pos, af, g⟩ (xEqPtr true) := ok_eqptr (neg := true) rfl hb
theorem qQ {ks : List KK} (hf : FlatT P t ks) (hm : P.eqGuardType P.depth t = false) : DXOk P ⟨d, .binOp .eql t x y t', ty, pos, af, g⟩ (xEqAgg ks false) := ok_eqagg (neg := false) rfl hf hm
theorem qR {ks : List KK} (hf : FlatT P t ks) (hm : P.eqGuardType P.depth t = false) : DXOk P ⟨d, .binOp .neq t x y t', ty, pos, af, g⟩ (xEqAgg ks true) := ok_eqagg (neg := true) rfl hf hm
theorem oX : DXOk P ⟨d, .box t x, ty, pos, af, g⟩ (xBox 0) := ok_box rfl
theorem oXT (n : Nat) (hn : Go.Proofs.Tryz.prog.cellsOf t = n) : DXOk P ⟨d, .box t x, ty, pos, af, g⟩ (xBoxT t n) := ok_boxT rfl hn
theorem oZ : DXOk P ⟨d, .makeMap t none, ty, pos, af, g⟩ xMakeMap := ok_makeMap rfl
theorem oL {D : TypeDesc} (hd : P.underlying t = some D) (ha : isAggD D = false) : DXOk P ⟨d, .load t x, ty, pos, af, g⟩ xLoad1 := ok_load1 rfl hd ha
theorem oLN (n : Nat) {D : TypeDesc} {inf : TypeInfo} (hd : P.underlying t = some D) (ha : isAggD D = true) (hi : P.info? t = some inf) (hn : inf.size = n) : DXOk P ⟨d, .load t x, ty, pos, af, g⟩ (xLoadN n) := ok_loadN rfl hd ha hi hn
theorem oW (n : Nat) {inf : TypeInfo} (hi : P.info? t = some inf) (hn : inf.size = n) : DXOk P ⟨d, .store t x y, ty, pos, af, g⟩ (xStore n) := ok_store rfl hi hn
theorem oB (l : List At) (bd : Nat) {inf : TypeInfo} {Z : Value} (hi : P.info? t = some inf) (hz : inf.zero = some Z) (hl : atsOf Z.cells.toList = some l) (hb : (Nat.beq bd 0 || (Nat.beq t bd && Nat.beq Z.cells.size (Go.Proofs.Tryz.prog.cellsOf bd))) = true) : DXOk P ⟨d, .alloc t, ty, pos, af, g⟩ (xAlloc l bd) := ok_alloc rfl hi hz (atsOf_sound hl) (fun q => by simpa [q] using hb)
theorem oFA (off : Nat) {i : Nat} {fs : Array Field} {f : Field} {inf : TypeInfo} (ht : P.underlying t = some (.struct fs)) (hf : fs[i]? = some f) (ho : f.offset = off) (hi : P.info? f.type = some inf) (hz : (inf.size == 0) = false) : DXOk P ⟨d, .fieldAddr t x i, ty, pos, af, g⟩ (xFaddr off) := by
  subst ho
  exact ok_faddr rfl ht hf hi (by simpa using hz)
theorem oFD (agg : Bool) (off n : Nat) {i : Nat} {fs : Array Field} {f : Field} {D : TypeDesc} {inf : TypeInfo} (ht : P.underlying t = some (.struct fs)) (hf : fs[i]? = some f) (h2 : f.offset = off) (hd : P.underlying f.type = some D) (hi : P.info? f.type = some inf) (h1 : isAggD D = agg) (h3 : inf.size = n) : DXOk P ⟨d, .field t x i, ty, pos, af, g⟩ (xField agg off n) := ok_field rfl ht hf hd hi h1 h2 h3
theorem oIS (sz : Nat) {e : TypeId} {ie : TypeInfo} (ht : P.underlying t = some (.slice e)) (hi : P.info? e = some ie) (hs : ie.size = sz) : DXOk P ⟨d, .indexAddr t x y, ty, pos, af, g⟩ (xIaddrS sz) := ok_iaddrS rfl ht hi hs
theorem oIA (n sz : Nat) {e : TypeId} {ie : TypeInfo} (ht : P.underlying t = some (.array n e)) (hi : P.info? e = some ie) (hs : ie.size = sz) : DXOk P ⟨d, .indexAddr t x y, ty, pos, af, g⟩ (xIaddrA n sz) := ok_iaddrA rfl ht hi hs
theorem oJS (ht : P.underlying t = some .string) : DXOk P ⟨d, .index t x y, ty, pos, af, g⟩ xIndexS := ok_indexS rfl ht
theorem oJA (agg : Bool) (n sz : Nat) {e : TypeId} {D : TypeDesc} {ie : TypeInfo} (ht : P.underlying t = some (.array n e)) (hd : P.underlying e = some D) (hi : P.info? e = some ie) (h1 : isAggD D = agg) (h2 : ie.size = sz) : DXOk P ⟨d, .index t x y, ty, pos, af, g⟩ (xIndexA agg n sz) := ok_indexA rfl ht hd hi h1 h2
theorem oSL (sz : Nat) {e : TypeId} {ie : TypeInfo} {l hi m : Option Operand} (ht : P.underlying t = some (.slice e)) (hie : P.info? e = some ie) (hs : ie.size = sz) (fl fh fm : Bool) (h1 : l.isSome = fl) (h2 : hi.isSome = fh) (h3 : m.isSome = fm) : DXOk P ⟨d, .slice t x l hi m, ty, pos, af, g⟩ (xSlice sz fl fh fm) := by
  subst h1; subst h2; subst h3
  exact ok_slice rfl ht hie hs
theorem oSS {l hi : Option Operand} (ht : P.underlying t = some .string) (fl fh : Bool) (h1 : l.isSome = fl) (h2 : hi.isSome = fh) : DXOk P ⟨d, .slice t x l hi none, ty, pos, af, g⟩ (xSstr fl fh) := by
  subst h1; subst h2
  exact ok_sstr rfl ht
theorem oBS (offs : List (Nat × Nat)) (z : List At) {parts : Array (Nat × Operand)} {fs : List Field} {inf : TypeInfo} {Z : Value} (ht : P.underlying t = some (.struct fs.toArray)) (hf : fs.all (fun f => (P.info? f.type).isSome) = true) (hi : P.info? t = some inf) (hz : inf.zero = some Z)
    (hzr : atsOf Z.cells.toList = some z) (hoffs : (parts.toList.map (·.1)).map (fun i => (fs[i]?).map (fun f => (f.offset, P.cellsOf f.type))) = offs.map some) : DXOk P ⟨d, .build t parts, ty, pos, af, g⟩ (xBuild offs z) := ok_build_struct rfl ht (by simpa using hf) hi hz (atsOf_sound hzr) (by rw [← hoffs]; simp)
theorem oBA (offs : List (Nat × Nat)) (z : List At) {parts : Array (Nat × Operand)} {n : Nat} {e : TypeId} {ie inf : TypeInfo} {Z : Value} (ht : P.underlying t = some (.array n e)) (hie : P.info? e = some ie) (hi : P.info? t = some inf) (hz : inf.zero = some Z)
    (hzr : atsOf Z.cells.toList = some z) (hoffs : (parts.toList.map (·.1)).map (fun i => (i * ie.size, ie.size)) = offs) : DXOk P ⟨d, .build t parts, ty, pos, af, g⟩ (xBuild offs z) := ok_build_array rfl ht hie hi hz (atsOf_sound hzr) hoffs
theorem ats_rep {n : Nat} {Z : Value} {z zz : List At} {sz : Nat} (hs : Nat.beq Z.cells.size sz = true) (hz : atsOf Z.cells.toList = some z) (hzz : (List.replicate n z).flatten = zz) (ρ : Ren) : ARels ρ zz ((Array.range (n * sz)).map (fun x => (if n * sz = 0 then #[] else Z.cells)[x % (if n * sz = 0 then #[] else Z.cells).size]!)).toList := by
  have hs : Z.cells.size = sz := Nat.eq_of_beq_eq_true hs
  have hr := atsOf_sound hz ρ
  have hl : z.length = sz := by have := hr.length; simp at this; omega
  subst hzz
  refine ARels.of_get (by simp [hl]) (fun i a v h1 h2 => ?_)
  rw [rep_get] at h1
  split at h1
  · rename_i hi
    rw [hl] at hi h1
    have h0 : ¬ n * sz = 0 := by omega
    obtain ⟨v', e1, e2⟩ := hr.get _ _ h1
    simp only [Array.toList_map, Array.toList_range, List.getElem?_map, List.getElem?_range hi, Option.map_some, if_neg h0, hs] at h2
    cases h2
    have hv : Z.cells[i % sz]! = v' := by
      have e3 : Z.cells[i % sz]? = some v' := by simpa using e1
      rw [getElem!_def, e3]
    rw [hv]
    exact e2
  · cases h1
theorem oBL (offs : List (Nat × Nat)) (z zz : List At) (byte : Bool) (sz : Nat) {len : Nat} {parts : Array (Nat × Operand)} {e : TypeId} {ie : TypeInfo} {Z : Value} (ht : P.underlying t = some (.slice e)) (hie : P.info? e = some ie) (hz : ie.zero = some Z) (hs : ie.size = sz) (hsm : Nat.ble (len * sz) (2 ^ 24) = true)
    (hzs : Nat.beq Z.cells.size sz = true) (hzr : atsOf Z.cells.toList = some z) (hzz : (List.replicate len z).flatten = zz) (hoffs : (parts.toList.map (·.1)).map (fun i => (i * sz, sz)) = offs) (hb : (!byte || Nat.beq e 5) = true) : DXOk P ⟨d, .buildSlice t len parts, ty, pos, af, g⟩ (xBuildSlice offs zz byte len sz) :=
  ok_buildSlice rfl ht hie hz hs hsm (ats_rep hzs hzr hzz) hoffs (fun q => by subst q; exact Nat.eq_of_beq_eq_true (by simpa using hb))
theorem oCI {s dd : TypeId} {ds : TypeDesc} {kd : IntKind} (hs : P.underlying s = some ds) (hd : P.underlying dd = some (.int kd)) : DXOk P ⟨d, .convert s dd x, ty, pos, af, g⟩ (xCvt kd) := ok_cvt rfl hs hd
theorem oCB {s dd e : TypeId} (hs : P.underlying s = some (.slice e)) (he : P.underlying e = some (.int .u8)) (hd : P.underlying dd = some .string) : DXOk P ⟨d, .convert s dd x, ty, pos, af, g⟩ xB2s := ok_b2s rfl hs he hd
theorem oCS {s dd e : TypeId} {uu : TypeDesc} (hs : P.underlying s = some uu) (hd : P.underlying dd = some (.slice e)) (he : P.underlying e = some (.int .u8)) : DXOk P ⟨d, .convert s dd x, ty, pos, af, g⟩ xS2b := ok_s2b rfl hs hd he
theorem oCU {s dd tt : TypeId} {inf : TypeInfo} (hs : P.underlying s = some (.pointer tt)) (hd : P.underlying dd = some .unsafePointer) (hi : P.info? tt = some inf) (hz : (inf.size == 0) = false) : DXOk P ⟨d, .convert s dd x, ty, pos, af, g⟩ xUTo := ok_uto rfl hs hd hi hz
theorem oCV {s dd uu : TypeId} {inf : TypeInfo} (hs : P.underlying s = some .unsafePointer) (hd : P.underlying dd = some (.pointer uu)) (hi : P.info? uu = some inf) (hz : (inf.size == 0) = false) (tb : List (Nat × Nat)) (htb : tb.all (fun p => p.1 != 0 && liesAt P P.depth p.1 (Go.Proofs.Tryz.prog.cellsOf p.1 / P.cellsOf p.1) p.2 uu 1) = true) : DXOk P ⟨d, .convert s dd x, ty, pos, af, g⟩ (xUFrom tb) := ok_ufrom rfl hs hd hi hz htb
theorem oMS (esz : Nat) (be : Bool) (z : List At) {e : TypeId} {ie : TypeInfo} {Z : Value} (ht : P.underlying t = some (.slice e)) (hie : P.info? e = some ie) (hzr : ie.zero = some Z) (hes : ie.size = esz) (hzs : Nat.beq Z.cells.size esz = true) (hby : Nat.ble ie.bytes 1048576 = true) (hbe : (!be || Nat.beq e 5) = true) (hz : atsOf Z.cells.toList = some z) : DXOk P ⟨d, .makeSlice t x y, ty, pos, af, g⟩ (xMake esz be z) :=
  ok_make rfl ht hie hzr hes hzs hby (fun q => by subst q; exact Nat.eq_of_beq_eq_true (by simpa using hbe)) (atsOf_sound hz)
theorem oK (z : AV) {s : KeyS} {kt e : TypeId} {ok : Bool} {ie : TypeInfo} {Z : Value} (ht : P.underlying t = some (.map kt e)) (hs : KeyT P kt s) (hie : P.info? e = some ie) (hzr : ie.zero = some Z) (hz : avOf Z = some z) : DXOk P ⟨d, .lookup t x y ok, ty, pos, af, g⟩ (xLookup s z ok) := ok_lookup rfl ht hs hie hzr (avOf_sound hz)
theorem oY {s : KeyS} {kt e : TypeId} (ht : P.underlying t = some (.map kt e)) (hs : KeyT P kt s) : DXOk P ⟨d, .mapUpdate t x y u, ty, pos, af, g⟩ (xUpd s) := ok_upd (.inl rfl) ht hs
theorem oYI {s : KeyS} {kt e : TypeId} (ht : P.underlying t = some (.map kt e)) (hs : KeyT P kt s) : DXOk P ⟨d, .insert t x y u, ty, pos, af, g⟩ (xUpd s) := ok_upd (.inr rfl) ht hs
theorem oF0 {f : FuncId} (hf : Nat.blt f 1000000000 = true) {caps : Array Operand} : DXOk P ⟨d, .makeFunc (.func f) #[] caps, ty, pos, af, g⟩ (xMkfn f false) := ok_mkfn0 (by simpa [Nat.blt_eq] using hf) rfl
theorem oF1 {f : FuncId} (hf : Nat.blt f 1000000000 = true) {xs : List Operand} : DXOk P ⟨d, .makeFunc (.func f) (x :: xs).toArray #[], ty, pos, af, g⟩ (xMkfn f true) := ok_mkfn1 (by simpa [Nat.blt_eq] using hf) rfl
theorem oG {xs : Array Operand} {ats : Array TypeId} {tb : List (Nat × Xop)} (ht : TblOk P tb) : DXOk P ⟨d, .call { callee := .value x, args := xs, argTypes := ats }, ty, pos, af, g⟩ (xCallD tb) := ok_call rfl ht
theorem tb0 : TblOk P [] := TblOk.nil
theorem tb1 {f : Nat} {X : Xop} {tb : List (Nat × Xop)} (h : FnGood P f X) (ht : TblOk P tb) : TblOk P ((f, X) :: tb) := .cons h ht
theorem bLS (ht : P.underlying t = some .string) : DXOk P ⟨d, .call { callee := .builtin .len, args := #[x], argTypes := #[t] }, ty, pos, af, g⟩ xLenStr := ok_lenStr rfl ht
theorem bLL {e : TypeId} (ht : P.underlying t = some (.slice e)) : DXOk P ⟨d, .call { callee := .builtin .len, args := #[x], argTypes := #[t] }, ty, pos, af, g⟩ xLenSlc := ok_lenSlc rfl ht
theorem bLA {n : Nat} {e : TypeId} (ht : P.underlying t = some (.array n e)) : DXOk P ⟨d, .call { callee := .builtin .len, args := #[x], argTypes := #[t] }, ty, pos, af, g⟩ (xLenArr n) := ok_lenArr rfl ht
theorem bLP {n : Nat} {a e : TypeId} (ht : P.underlying t = some (.pointer a)) (hta : P.underlying a = some (.array n e)) : DXOk P ⟨d, .call { callee := .builtin .len, args := #[x], argTypes := #[t] }, ty, pos, af, g⟩ (xLenArr n) := ok_lenPArr rfl ht hta
theorem bLM {kt e : TypeId} (ht : P.underlying t = some (.map kt e)) : DXOk P ⟨d, .call { callee := .builtin .len, args := #[x], argTypes := #[t] }, ty, pos, af, g⟩ xLenMap := ok_lenMap rfl ht
theorem bC {e : TypeId} (ht : P.underlying t = some (.slice e)) : DXOk P ⟨d, .call { callee := .builtin .cap, args := #[x], argTypes := #[t] }, ty, pos, af, g⟩ xCap := ok_cap rfl ht
theorem bMin {ats : Array TypeId} : DXOk P ⟨d, .call { callee := .builtin .min, args := #[x, y], argTypes := ats }, ty, pos, af, g⟩ xMin := ok_min rfl
theorem bMax {ats : Array TypeId} : DXOk P ⟨d, .call { callee := .builtin .max, args := #[x, y], argTypes := ats }, ty, pos, af, g⟩ xMax := ok_max rfl
theorem bA (esz : Nat) (be : Bool) {sT xT e : TypeId} {ie : TypeInfo} {dx : TypeDesc} {Z : Value} (ht : P.underlying sT = some (.slice e)) (hie : P.info? e = some ie) (hx : P.underlying xT = some dx) (hxi : ∀ k, dx ≠ .int k) (hzr : ie.zero = some Z) (hes : ie.size = esz) (hzs : Nat.beq Z.cells.size esz = true) (hby : Nat.ble ie.bytes 1048576 = true) (hbe : (!be || Nat.beq e 5) = true) : DXOk P ⟨d, .call { callee := .builtin .append, args := #[x, y], argTypes := #[sT, xT] }, ty, pos, af, g⟩ (xAppend esz be) :=
  ok_append rfl ht hie hx hxi hzr hes hzs hby (fun q => by subst q; exact Nat.eq_of_beq_eq_true (by simpa using hbe))
theorem bAZ (esz : Nat) (be : Bool) (z : List At) {sT xT e : TypeId} {ie : TypeInfo} {kx : IntKind} {Z : Value} (ht : P.underlying sT = some (.slice e)) (hie : P.info? e = some ie) (hx : P.underlying xT = some (.int kx)) (hzr : ie.zero = some Z) (hes : ie.size = esz) (hzs : Nat.beq Z.cells.size esz = true) (hnz : (esz == 0) = false) (hby : Nat.ble ie.bytes 1048576 = true) (hbe : (!be || Nat.beq e 5) = true) (hz : atsOf Z.cells.toList = some z) : DXOk P ⟨d, .call { callee := .builtin .append, args := #[x, y], argTypes := #[sT, xT] }, ty, pos, af, g⟩ (xAppendZ esz be z) :=
  ok_appendZ rfl ht hie hx hzr hes hzs (by simpa using hnz) hby (fun q => by subst q; exact Nat.eq_of_beq_eq_true (by simpa using hbe)) (atsOf_sound hz)
theorem bCl (z : List At) {e : TypeId} {ie : TypeInfo} {Z : Value} (ht : P.underlying t = some (.slice e)) (hie : P.info? e = some ie) (hzr : ie.zero = some Z) (hz : atsOf Z.cells.toList = some z) : DXOk P ⟨d, .call { callee := .builtin .clear, args := #[x], argTypes := #[t] }, ty, pos, af, g⟩ (xClear z) := ok_clearS rfl ht hie hzr (atsOf_sound hz)
theorem bClM {kt e : TypeId} (ht : P.underlying t = some (.map kt e)) : DXOk P ⟨d, .call { callee := .builtin .clear, args := #[x], argTypes := #[t] }, ty, pos, af, g⟩ xClearM := ok_clearM rfl ht
theorem bUD {ats : Array TypeId} : DXOk P ⟨d, .call { callee := .builtin .unsafeSliceData, args := #[x], argTypes := ats }, ty, pos, af, g⟩ xUsd := ok_usd rfl
theorem bUS {pt it : TypeId} (hp : P.underlying pt = some (.pointer 5)) (hc : P.cellsOf 5 = 1) : DXOk P ⟨d, .call { callee := .builtin .unsafeString, args := #[x, y], argTypes := #[pt, it] }, ty, pos, af, g⟩ xUstr := ok_ustr rfl hp hc
end
end Go.Proofs.YtddbhljljmijcaaGreat.V
