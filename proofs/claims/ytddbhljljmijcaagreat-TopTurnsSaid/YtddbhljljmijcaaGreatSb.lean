/- The operations' kinds, fourth part. -/
import Derived.Test.YtddbhljljmijcaaGreatSa
namespace Go.Proofs.YtddbhljljmijcaaGreat.V
open Go.RowKit
set_option linter.unusedVariables false
set_option linter.unusedSimpArgs false
variable {P : Program}

/-! ### New blocks -/
theorem newOk_of {o : Oper} {vals : List AV} {ob : Ob} {mk : Nat → AV}
    (hr : ∀ (ρ : Ren) (w : World) (ev : Operand → Value), VRels ρ vals (o.op.operands.toList.map ev) → ∃ O S V, (execOp ev o).run P w = .ok (.value V) (w.alloc O) ∧ (∀ ρ', Ren.le ρ ρ' → ObRel ρ' (w.alloc O) w.heap.size 0 S ob) ∧ (∀ b ρ', ρ' b = .loc w.heap.size 0 S → VRel ρ' (mk b) V)) : ∀ b, OpN P o vals b ob (mk b) := by
  intro b F h H W0 ρ w a K Q hF hv hrel hu hlt hg hk
  obtain ⟨O, S, V, h1, h2, h3⟩ := hr ρ w a.eval hv
  have hle : Ren.le ρ (ρ.set b (.loc w.heap.size 0 S)) := Ren.set_le (by rw [hu]; trivial)
  have := hk V (w.alloc O) (ρ.set b (.loc w.heap.size 0 S)) hle (fun c hc hcb => by unfold Ren.set; rw [if_neg hcb]; exact hc) (hrel.map b hu hlt ob hg O S (h2 _ hle)) (h3 b _ (by unfold Ren.set; rw [if_pos rfl]))
  have hd : ∀ c, o.op ≠ .defer c := fun c hc => by
    have : (execOp a.eval o).run P w = (do pure (.defer (← resolve a.eval c o.type)) : Sem Next).run P w := by unfold execOp; rw [hc]
    rw [this, Sem.run_bind] at h1
    cases hres : (resolve a.eval c o.type).run P w <;> rw [hres] at h1 <;> cases h1
  unfold Oper.wpIn
  refine ⟨fun f _ => hF.fn f, ?_⟩
  rw [Oper.semAt_eq _ _ _ hd, h1]
  exact this
theorem obNewB {ρ ρ' : Ren} {w : World} {l : List At} {L : Array Value} {e : TypeId} {bd : Nat} (hr : ARels ρ l L.toList) (hle : Ren.le ρ ρ') (hb : bd ≠ 0 → e = bd ∧ L.size = Go.Proofs.Tryz.prog.cellsOf bd) : ObRel ρ' (w.alloc (.cells L e)) w.heap.size 0 L.size (.cells l 0 false bd) := by
  obtain ⟨CS, e', fr, h1, h2, h3, h4, h5, _⟩ := obNew (byte := false) (w := w) (e := e) hr hle (fun q => by cases q)
  have : CS = L ∧ e' = e := by rw [heap_alloc_new] at h1; cases h1; exact ⟨rfl, rfl⟩
  obtain ⟨rfl, rfl⟩ := this
  exact ⟨CS, e', fr, h1, h2, h3, h4, h5, fun q => ⟨(hb q).1, rfl, (hb q).2⟩⟩
noncomputable def xAlloc (l : List At) (bd : Nat) : DX := .new fun vals k => v0 vals (k (.cells l 0 false bd) (fun b => .one (.ptr b 0)))
theorem ok_alloc {o : Oper} {e : TypeId} (ho : o.op = .alloc e) {inf : TypeInfo} (hi : P.info? e = some inf) {Z : Value} (hz : inf.zero = some Z) {l : List At} (hl : ∀ ρ, ARels ρ l Z.cells.toList) {bd : Nat} (hbd : bd ≠ 0 → e = bd ∧ Z.cells.size = Go.Proofs.Tryz.prog.cellsOf bd) : DXOk P o (xAlloc l bd) := fun vals k hk => by
  obtain ⟨rfl, h1⟩ := v0_sound hk
  refine ⟨_, _, h1, newOk_of fun ρ w ev hv => ⟨.cells Z.cells e, Z.cells.size, .pointer (some ⟨w.heap.size, 0, none⟩), ?_, fun ρ' hle => obNewB (hl ρ) hle hbd, fun b ρ' hb => .one ?_⟩⟩
  · unfold execOp
    rw [ho]
    simp [Instr.alloc, newVar, newRow, zeroValue, typeInfo, hi, hz]
  · have := ARel.ptr (o := 0) hb
    simpa using this
noncomputable def xBox (bd : Nat) : DX := .new fun vals k => v1 vals (fun v => cellsOfK v (fun l => k (.cells l 0 false bd) (fun b => .one (.ptr b 0))))
theorem ok_box {o : Oper} {e : TypeId} {x : Operand} (ho : o.op = .box e x) : DXOk P o (xBox 0) := fun vals k hk => by
  obtain ⟨v, rfl, h1⟩ := v1_sound hk
  obtain ⟨l, hl, h2⟩ := cellsOfK_sound h1
  refine ⟨_, _, h2, newOk_of fun ρ w ev hv => ?_⟩
  rw [ho] at hv
  obtain ⟨V, hL, h1⟩ := VRels.inv1 hv
  simp [Op.operands] at hL
  subst hL
  refine ⟨.cells (ev x).cells e, (ev x).cells.size, .pointer (some ⟨w.heap.size, 0, none⟩), ?_, fun ρ' hle => obNewB (h1.cells hl) hle (fun q => absurd rfl q), fun b ρ' hb => .one ?_⟩
  · unfold execOp
    rw [ho]
    simp [Instr.box, newVar, newRow]
  · have := ARel.ptr (o := 0) hb
    simpa using this
/-- A box whose type is known to the heap. -/
noncomputable def xBoxT (bd n : Nat) : DX := .new fun vals k => v1 vals (fun v => cellsOfK v (fun l => llenK l (fun m => gd (Nat.beq m n) (k (.cells l 0 false bd) (fun b => .one (.ptr b 0))))))
theorem ok_boxT {o : Oper} {e : TypeId} {x : Operand} (ho : o.op = .box e x) {n : Nat} (hn : Go.Proofs.Tryz.prog.cellsOf e = n) : DXOk P o (xBoxT e n) := fun vals k hk => by
  obtain ⟨v, rfl, h1⟩ := v1_sound hk
  obtain ⟨l, hl, h2⟩ := cellsOfK_sound h1
  rw [llenK_eq] at h2
  obtain ⟨e1, h3⟩ := gd_eq h2
  have e1 := Nat.eq_of_beq_eq_true e1
  refine ⟨_, _, h3, newOk_of fun ρ w ev hv => ?_⟩
  rw [ho] at hv
  obtain ⟨V, hL, h1⟩ := VRels.inv1 hv
  simp [Op.operands] at hL
  subst hL
  have hlen := (h1.cells hl).length
  refine ⟨.cells (ev x).cells e, (ev x).cells.size, .pointer (some ⟨w.heap.size, 0, none⟩), ?_, fun ρ' hle => obNewB (h1.cells hl) hle (fun _ => ⟨rfl, by rw [hn, ← e1]; simpa using hlen.symm⟩), fun b ρ' hb => .one ?_⟩
  · unfold execOp
    rw [ho]
    simp [Instr.box, newVar, newRow]
  · have := ARel.ptr (o := 0) hb
    simpa using this
noncomputable def xMakeMap : DX := .new fun vals k => v0 vals (k (.map []) (fun b => .one (.mp b)))
theorem ok_makeMap {o : Oper} {t : TypeId} (ho : o.op = .makeMap t none) : DXOk P o xMakeMap := fun vals k hk => by
  obtain ⟨rfl, h1⟩ := v0_sound hk
  refine ⟨_, _, h1, newOk_of fun ρ w ev hv => ⟨.map #[] 0, 0, .map (some w.heap.size), ?_, fun ρ' hle => ⟨#[], 0, heap_alloc_new w _, rfl, rfl, fun i k x hx => by simp at hx⟩, fun b ρ' hb => .one (.mp hb)⟩⟩
  unfold execOp
  rw [ho]
  simp [Instr.makeMap]
noncomputable def xBuildSlice (offs : List (Nat × Nat)) (z : List At) (byte : Bool) (len sz : Nat) : DX := .new fun vals k => fillK offs vals z (fun l => k (.cells l 0 byte 0) (fun b => .one (.slc b 0 len len sz true)))
theorem fill_size (esz : Nat) : ∀ (ps : List (Nat × Value)) (A B : Array Value), Instr.fill (fun i => some (i * esz, esz)) A ps = some B → B.size = A.size := by
  intro ps
  induction ps with
  | nil => intro A B hh; simp [Instr.fill] at hh; rw [hh]
  | cons p ps ih =>
    intro A B hh
    obtain ⟨i, v⟩ := p
    simp only [Instr.fill] at hh
    split at hh
    · cases hh
    · rename_i hcond
      have := ih _ _ hh
      rw [this]
      have : ∀ (l : List (Value × Nat)) (A : Array Value) (off : Nat), (l.foldl (fun cs x => cs.setIfInBounds (off + x.2) x.1) A).size = A.size := by
        intro l
        induction l with
        | nil => intro A off; rfl
        | cons y l ih => intro A off; rw [List.foldl_cons, ih]; simp
      rw [← Array.foldl_toList]
      exact this _ _ _
theorem ok_buildSlice {o : Oper} {t e : TypeId} {len : Nat} {parts : Array (Nat × Operand)} (ho : o.op = .buildSlice t len parts) (ht : P.underlying t = some (.slice e)) {ie : TypeInfo} (hie : P.info? e = some ie) {Z : Value} (hz : ie.zero = some Z) {sz : Nat} (hsz0 : ie.size = sz) (hsm : Nat.ble (len * sz) (2 ^ 24) = true)
    {z : List At} (hzr : ∀ ρ, ARels ρ z ((Array.range (len * sz)).map (fun x => (if len * sz = 0 then #[] else Z.cells)[x % (if len * sz = 0 then #[] else Z.cells).size]!)).toList) {offs : List (Nat × Nat)} (hoffs : (parts.toList.map (·.1)).map (fun i => (i * sz, sz)) = offs) {byte : Bool} (hbyte : byte = true → e = 5) : DXOk P o (xBuildSlice offs z byte len sz) := fun vals k hk => by
  subst hsz0
  subst hoffs
  have hsm : len * ie.size ≤ 2 ^ 24 := by simpa using hsm
  obtain ⟨l, hk', hs⟩ := fillK_sound (fun i => some (i * ie.size, ie.size)) _ (parts.toList.map (·.1)) vals z _ (by simp) hk
  refine ⟨_, _, hk', newOk_of fun ρ w ev hv => ?_⟩
  rw [ho] at hv
  simp only [Op.operands] at hv
  obtain ⟨Z', h1, h2⟩ := hs ρ _ _ (hzr ρ) hv
  have hsz : Z'.size = len * ie.size := by
    have := fill_size _ _ _ _ h1
    simpa using this
  refine ⟨.cells Z' e, Z'.size, .slice (some ⟨w.heap.size, 0, none⟩) len len, ?_, fun ρ' hle => obNew h2 hle hbyte, fun b ρ' hb => .one ?_⟩
  · unfold execOp
    rw [ho]
    by_cases h0 : len * ie.size = 0
    · rw [if_pos h0] at h1
      simp only [Instr.buildSlice, Sem.run_bind, run_underlying ht, Result.andThen_ok, sizeOf, typeInfo, run_program, hie, Sem.run_pure, if_neg (Nat.not_lt.2 hsm), if_pos h0, zip_parts, h1, newRow, run_newObj_alloc]
    · rw [if_neg h0] at h1
      simp only [Instr.buildSlice, Sem.run_bind, run_underlying ht, Result.andThen_ok, sizeOf, typeInfo, run_program, hie, Sem.run_pure, if_neg (Nat.not_lt.2 hsm), if_neg h0, zeroValue, hz, zip_parts, h1, newRow, run_newObj_alloc]
  · have := ARel.slc (o := 0) (n := len) (c := len) (c' := len) (sz := ie.size) (ex := true) hb (Nat.le_refl _) (Nat.le_refl _) (fun _ => rfl) (by simp [hsz])
    simpa using this

/-! ### Parts, literals -/
noncomputable def xField (agg : Bool) (off n : Nat) : DX := .pure fun vals k => v1 vals (fun v => aggK v (fun l => partK agg l off n k))
theorem ok_field {o : Oper} {t : TypeId} {x : Operand} {i : Nat} (ho : o.op = .field t x i) {fs : Array Field} {f : Field} (ht : P.underlying t = some (.struct fs)) (hf : fs[i]? = some f) {d : TypeDesc} (hd : P.underlying f.type = some d) {inf : TypeInfo} (hi : P.info? f.type = some inf) {agg : Bool} {off n : Nat} (h1 : isAggD d = agg) (h2 : f.offset = off) (h3 : inf.size = n) : DXOk P o (xField agg off n) := fun vals k hk => by
  obtain ⟨v, rfl, h4⟩ := v1_sound hk
  obtain ⟨l, rfl, h5⟩ := aggK_sound h4
  subst h1; subst h2; subst h3
  exact s_field o t x i ho fs f ht hf d hd inf hi l k h5
noncomputable def xBuild (offs : List (Nat × Nat)) (z : List At) : DX := .pure fun vals k => fillK offs vals z (fun l => k (.agg l))
theorem ok_build_struct {o : Oper} {t : TypeId} {parts : Array (Nat × Operand)} (ho : o.op = .build t parts) {fs : Array Field} (ht : P.underlying t = some (.struct fs)) (hf : fs.all (fun f => (P.info? f.type).isSome) = true) {inf : TypeInfo} (hi : P.info? t = some inf) {Z : Value} (hz : inf.zero = some Z)
    {z : List At} (hzr : ∀ ρ, ARels ρ z Z.cells.toList) {offs : List (Nat × Nat)} (hoffs : (parts.toList.map (·.1)).map (fun i => (fs.map (fun f => (f.offset, P.cellsOf f.type)))[i]?) = offs.map some) : DXOk P o (xBuild offs z) := fun vals k hk => by
  obtain ⟨l, h1, h2⟩ := s_build_struct o t parts ho fs ht hf inf hi Z hz z hzr offs hoffs vals (fun l => k (.agg l)) hk
  exact ⟨_, h1, h2⟩
theorem ok_build_array {o : Oper} {t : TypeId} {parts : Array (Nat × Operand)} (ho : o.op = .build t parts) {n : Nat} {e : TypeId} (ht : P.underlying t = some (.array n e)) {ie : TypeInfo} (hie : P.info? e = some ie) {inf : TypeInfo} (hi : P.info? t = some inf) {Z : Value} (hz : inf.zero = some Z)
    {z : List At} (hzr : ∀ ρ, ARels ρ z Z.cells.toList) {offs : List (Nat × Nat)} (hoffs : (parts.toList.map (·.1)).map (fun i => (i * ie.size, ie.size)) = offs) : DXOk P o (xBuild offs z) := fun vals k hk => by
  subst hoffs
  obtain ⟨l, h1, h2⟩ := s_build_array o t parts ho n e ht ie hie inf hi Z hz z hzr vals (fun l => k (.agg l)) hk
  exact ⟨_, h1, h2⟩

/-! ### Indices -/
noncomputable def slcK (v : AV) (k : Nat → Nat → Nat → Nat → Nat → Bool → Bool) : Bool := atK v (fun a => At.rec (motive_1 := fun _ => Bool) (motive_2 := fun _ => Bool) (fun _ => false) (fun _ _ => false) (fun _ => false) false (fun _ _ => false) false false k false (fun _ => false) false (fun _ _ _ _ _ => false) false (fun _ _ _ _ => false) a)
theorem slcK_sound {v : AV} {k : Nat → Nat → Nat → Nat → Nat → Bool → Bool} (h : slcK v k = true) : ∃ b o n c sz ex, v = .one (.slc b o n c sz ex) ∧ k b o n c sz ex = true := by
  obtain ⟨a, rfl, h⟩ := atK_sound h
  cases a <;> first | exact ⟨_, _, _, _, _, _, rfl, h⟩ | cases h
noncomputable def xIaddrS (sz : Nat) : DX := .pure fun vals k => v2 vals (fun v u => slcK v (fun b o n _ _ _ => intK u (fun _ i => ixK i n (fun m => fN (Nat.add o (Nat.mul m sz)) (fun j => k (.one (.ptr b j)))))))
theorem ok_iaddrS {o : Oper} {t e : TypeId} {x y : Operand} (ho : o.op = .indexAddr t x y) (ht : P.underlying t = some (.slice e)) {ie : TypeInfo} (hie : P.info? e = some ie) {sz : Nat} (hs : ie.size = sz) : DXOk P o (xIaddrS sz) := fun vals k hk => by
  subst hs
  obtain ⟨v, u, rfl, h1⟩ := v2_sound hk
  obtain ⟨b, off, n, c, sz, ex, rfl, h2⟩ := slcK_sound h1
  obtain ⟨kk, i, rfl, h3⟩ := intK_sound h2
  obtain ⟨m, h4, h5⟩ := s_iaddr_slice o t e x y ho ht ie hie b off n c sz ex kk i _ h3
  rw [fN_eq] at h4
  exact ⟨_, h4, h5⟩
noncomputable def xIaddrA (n sz : Nat) : DX := .pure fun vals k => v2 vals (fun v u => ptrK v (fun b o => intK u (fun _ i => ixK i n (fun m => fN (Nat.add o (Nat.mul m sz)) (fun j => k (.one (.ptr b j)))))))
theorem ok_iaddrA {o : Oper} {t e : TypeId} {x y : Operand} {n : Nat} (ho : o.op = .indexAddr t x y) (ht : P.underlying t = some (.array n e)) {ie : TypeInfo} (hie : P.info? e = some ie) {sz : Nat} (hs : ie.size = sz) : DXOk P o (xIaddrA n sz) := fun vals k hk => by
  subst hs
  obtain ⟨v, u, rfl, h1⟩ := v2_sound hk
  obtain ⟨b, off, rfl, h2⟩ := ptrK_sound h1
  obtain ⟨kk, i, rfl, h3⟩ := intK_sound h2
  obtain ⟨m, h4, h5⟩ := s_iaddr_array o t e x y ho n ht ie hie b off kk i _ h3
  rw [fN_eq] at h4
  exact ⟨_, h4, h5⟩
noncomputable def natK (i : Int) (k : Nat → Bool) : Bool := Int.rec (motive := fun _ => Bool) k (fun _ => false) i
theorem natK_sound {i : Int} {k : Nat → Bool} (h : natK i k = true) : ∃ m : Nat, i = .ofNat m ∧ k m = true := by
  cases i with
  | ofNat m => exact ⟨m, rfl, h⟩
  | negSucc m => cases h
noncomputable def xIndexS : DX := .pure fun vals k => v2 vals (fun v u => strK v (fun s => intK u (fun _ i => natK i (fun m => lgetK s m (fun u => k (.one (.int .u8 (.ofNat u))))))))
theorem ok_indexS {o : Oper} {t : TypeId} {x y : Operand} (ho : o.op = .index t x y) (ht : P.underlying t = some .string) : DXOk P o xIndexS := fun vals k hk => by
  obtain ⟨v, u, rfl, h1⟩ := v2_sound hk
  obtain ⟨s, rfl, h2⟩ := strK_sound h1
  obtain ⟨kk, i, rfl, h3⟩ := intK_sound h2
  obtain ⟨m, rfl, h4⟩ := natK_sound h3
  obtain ⟨u, h5, h6⟩ := s_index_str o t x y ho ht s kk m _ h4
  exact ⟨_, h5, h6⟩
noncomputable def xIndexA (agg : Bool) (n sz : Nat) : DX := .pure fun vals k => v2 vals (fun v u => aggK v (fun l => intK u (fun _ i => ixK i n (fun m => fN (Nat.mul m sz) (fun j => partK agg l j sz k)))))
theorem ok_indexA {o : Oper} {t e : TypeId} {x y : Operand} {n : Nat} (ho : o.op = .index t x y) (ht : P.underlying t = some (.array n e)) {d : TypeDesc} (hd : P.underlying e = some d) {ie : TypeInfo} (hie : P.info? e = some ie) {agg : Bool} {sz : Nat} (h1 : isAggD d = agg) (h2 : ie.size = sz) : DXOk P o (xIndexA agg n sz) := fun vals k hk => by
  subst h1; subst h2
  obtain ⟨v, u, rfl, h1⟩ := v2_sound hk
  obtain ⟨l, rfl, h2⟩ := aggK_sound h1
  obtain ⟨kk, i, rfl, h3⟩ := intK_sound h2
  simp only [fN_eq] at h3
  exact s_index_array o t e x y ho n ht d hd ie hie l kk i k h3
noncomputable def xSlice (sz : Nat) (fl fh fm : Bool) : DX := .pure fun vals k => xslice sz fl fh fm vals k
theorem ok_slice {o : Oper} {t e : TypeId} {x : Operand} {l hi m : Option Operand} (ho : o.op = .slice t x l hi m) (ht : P.underlying t = some (.slice e)) {ie : TypeInfo} (hie : P.info? e = some ie) {sz : Nat} (hs : ie.size = sz) : DXOk P o (xSlice sz l.isSome hi.isSome m.isSome) := fun vals k hk => by
  subst hs
  exact s_slice o t e x l hi m ho ht ie hie vals k hk
noncomputable def xSstr (fl fh : Bool) : DX := .pure fun vals k => xsstr fl fh vals k
theorem ok_sstr {o : Oper} {t : TypeId} {x : Operand} {l hi : Option Operand} (ho : o.op = .slice t x l hi none) (ht : P.underlying t = some .string) : DXOk P o (xSstr l.isSome hi.isSome) := fun vals k hk => s_sstr o t x l hi ho ht vals k hk
end Go.Proofs.YtddbhljljmijcaaGreat.V
