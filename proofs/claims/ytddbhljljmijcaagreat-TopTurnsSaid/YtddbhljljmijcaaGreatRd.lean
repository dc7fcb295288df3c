/- Operations that touch no memory, and those that load, store and make variables. -/
import Derived.Test.YtddbhljljmijcaaGreatRc
import Derived.IntWalk
import Derived.Laws.Entries
import Derived.ChangeKeysEq
namespace Go.Proofs.YtddbhljljmijcaaGreat.V
open Go.RowKit
set_option linter.unusedVariables false
variable {P : Program}

theorem VRels.inv1 {ρ : Ren} {a : AV} {L : List Value} (h : VRels ρ [a] L) : ∃ v, L = [v] ∧ VRel ρ a v := by
  cases h with | cons h t => cases t; exact ⟨_, rfl, h⟩
theorem VRels.inv2 {ρ : Ren} {a b : AV} {L : List Value} (h : VRels ρ [a, b] L) : ∃ v u, L = [v, u] ∧ VRel ρ a v ∧ VRel ρ b u := by
  cases h with | cons h t => obtain ⟨u, rfl, h'⟩ := VRels.inv1 t; exact ⟨_, _, rfl, h, h'⟩
theorem VRels.inv3 {ρ : Ren} {a b c : AV} {L : List Value} (h : VRels ρ [a, b, c] L) : ∃ v u t, L = [v, u, t] ∧ VRel ρ a v ∧ VRel ρ b u ∧ VRel ρ c t := by
  cases h with | cons h t => obtain ⟨u, x, rfl, h', h''⟩ := VRels.inv2 t; exact ⟨_, _, _, rfl, h, h', h''⟩
theorem vinv {ρ : Ren} {a : At} {v : Value} (h : VRel ρ (.one a) v) : ARel ρ a v := by
  cases h; assumption

theorem s_move (o : Oper) (x : Operand) (ho : o.op = .move x ∨ o.op = .assign x) (v : AV) (h : Heap) : OpS P o [v] h v h := by
  refine OpS.of_pure fun ρ w ev hv => ?_
  rcases ho with ho | ho <;> rw [ho] at hv <;>
  · obtain ⟨V, hL, hr⟩ := VRels.inv1 hv
    simp [Op.operands] at hL
    subst hL
    exact ⟨_, by unfold execOp; rw [ho]; rfl, hr⟩
theorem s_pick (o : Oper) (c a b : Operand) (ho : o.op = .pick c a b) (q : Bool) (x y : AV) (h : Heap) : OpS P o [.one (.bool q), x, y] h (if q then x else y) h := by
  refine OpS.of_pure fun ρ w ev hv => ?_
  rw [ho] at hv
  obtain ⟨V, U, T, hL, h1, h2, h3⟩ := VRels.inv3 hv
  simp [Op.operands] at hL
  obtain ⟨rfl, rfl, rfl⟩ := hL
  cases h1 with | one h1 => ?_
  generalize hc : ev c = C at h1
  cases h1
  refine ⟨if q then ev a else ev b, ?_, by cases q <;> assumption⟩
  unfold execOp
  rw [ho]
  simp [hc, asBool]
theorem s_extract (o : Oper) (x : Operand) (i : Nat) (ho : o.op = .extract x i) (l : List AV) (v : AV) (hl : l[i]? = some v) (h : Heap) : OpS P o [.tup l] h v h := by
  refine OpS.of_pure fun ρ w ev hv => ?_
  rw [ho] at hv
  obtain ⟨V, hL, h1⟩ := VRels.inv1 hv
  simp [Op.operands] at hL
  subst hL
  generalize hc : ev x = C at h1
  cases h1 with | tup h1 => ?_
  rename_i L
  have hg : ∀ (l : List AV) (L : List Value), VRels ρ l L → ∀ (i : Nat) v, l[i]? = some v → ∃ V, L[i]? = some V ∧ VRel ρ v V := by
    intro l
    induction l with
    | nil => intro L _ i v h; simp at h
    | cons a l ih =>
      intro L hh i v h
      cases hh with | cons q t => ?_
      cases i with
      | zero => simp at h; subst h; exact ⟨_, rfl, q⟩
      | succ i => simpa using ih _ t i v (by simpa using h)
  obtain ⟨V, hV, hr⟩ := hg l _ h1 i v hl
  refine ⟨V, ?_, hr⟩
  unfold execOp
  rw [ho]
  have hV' : L[i]? = some V := by simpa using hV
  simp [hc, Instr.extract, hV']
theorem s_not (o : Oper) (t : TypeId) (x : Operand) (ho : o.op = .unOp .not t x) (q : Bool) (h : Heap) : OpS P o [.one (.bool q)] h (.one (.bool !q)) h := by
  refine OpS.of_pure fun ρ w ev hv => ?_
  rw [ho] at hv
  obtain ⟨V, hL, h1⟩ := VRels.inv1 hv
  simp [Op.operands] at hL
  subst hL
  have h1 := vinv h1
  generalize hc : ev x = C at h1
  cases h1
  exact ⟨.bool !q, by unfold execOp; rw [ho]; simp [hc, Op.unary], .one (.bool _)⟩
theorem s_nil_ptr (o : Oper) (x : Operand) (ho : o.op = .nilCheck x) (b k : Nat) (h : Heap) : OpS P o [.one (.ptr b k)] h (.one (.ptr b k)) h := by
  refine OpS.of_pure fun ρ w ev hv => ?_
  rw [ho] at hv
  obtain ⟨V, hL, h1⟩ := VRels.inv1 hv
  simp [Op.operands] at hL
  subst hL
  have h1 := vinv h1
  generalize hc : ev x = C at h1
  refine ⟨C, ?_, .one h1⟩
  unfold execOp
  rw [ho]
  cases h1 <;> simp [hc]
theorem s_nil_fn (o : Oper) (x : Operand) (ho : o.op = .nilCheck x) (f : Nat) (a b : List At) (h : Heap) : OpS P o [.one (.fn f a b)] h (.one (.fn f a b)) h := by
  refine OpS.of_pure fun ρ w ev hv => ?_
  rw [ho] at hv
  obtain ⟨V, hL, h1⟩ := VRels.inv1 hv
  simp [Op.operands] at hL
  subst hL
  have h1 := vinv h1
  generalize hc : ev x = C at h1
  refine ⟨C, ?_, .one h1⟩
  unfold execOp
  rw [ho]
  cases h1 <;> simp [hc]
theorem s_faddr (o : Oper) (t : TypeId) (x : Operand) (i : Nat) (ho : o.op = .fieldAddr t x i) (fs : Array Field) (f : Field) (ht : P.underlying t = some (.struct fs)) (hf : fs[i]? = some f) (inf : TypeInfo) (hi : P.info? f.type = some inf) (hz : inf.size ≠ 0)
    (b k : Nat) (h : Heap) : OpS P o [.one (.ptr b k)] h (.one (.ptr b (k + f.offset))) h := by
  refine OpS.of_pure fun ρ w ev hv => ?_
  rw [ho] at hv
  obtain ⟨V, hL, h1⟩ := VRels.inv1 hv
  simp [Op.operands] at hL
  subst hL
  have h1 := vinv h1
  generalize hc : ev x = C at h1
  have hrun : ∀ A : Addr, C = .pointer (some A) → (execOp ev o).run P w = .ok (.value (.pointer (some (A.add f.offset)))) w := by
    rintro A rfl
    unfold execOp
    rw [ho]
    simp [hc, Instr.fieldAt, Instr.sureAddr, fieldPlace, run_underlying ht, hf, sizeOf, typeInfo, hi, hz]
  cases h1 with
  | ptr q =>
    rename_i B base S
    refine ⟨_, hrun _ rfl, .one ?_⟩
    rw [addr_add, Nat.add_assoc]
    exact .ptr q
  | ptrd q => exact ⟨_, hrun _ rfl, .one (.ptrd q)⟩
end Go.Proofs.YtddbhljljmijcaaGreat.V
