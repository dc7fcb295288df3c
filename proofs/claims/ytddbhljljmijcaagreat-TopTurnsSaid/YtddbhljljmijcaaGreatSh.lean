/- Short forms of the commonest operations. -/
import Derived.Test.YtddbhljljmijcaaGreatSg
namespace Go.Proofs.YtddbhljljmijcaaGreat.V
open Go.RowKit
set_option linter.unusedVariables false
variable {P : Program} {d : Option Nat} {ty t t' : TypeId} {pos : String} {af : Array Edge} {gu : Option (Nat × Bool)} {x y : Operand} {g g' : Get}
theorem fMv (ha : ArgG x g) : FOk P ⟨d, .move x, ty, pos, af, gu⟩ (F1 g lMove) := u1 oM eMove rfl ha
theorem fAs (ha : ArgG x g) : FOk P ⟨d, .assign x, ty, pos, af, gu⟩ (F1 g lMove) := u1 oA eMove rfl ha
theorem fEx {i : Nat} (ha : ArgG x g) : FOk P ⟨d, .extract x i, ty, pos, af, gu⟩ (F1 g (lExt i)) := u1 oE eExt rfl ha
theorem fNo (ha : ArgG x g) : FOk P ⟨d, .unOp .not t x, ty, pos, af, gu⟩ (F1 g lNot) := u1 oN eNot rfl ha
theorem fNc (ha : ArgG x g) : FOk P ⟨d, .nilCheck x, ty, pos, af, gu⟩ (F1 g lNil) := u1 oC eNil rfl ha
theorem iAdd (ha : ArgG x g) (hb : ArgG y g') : FOk P ⟨d, .binOp .add t x y t', ty, pos, af, gu⟩ (F2 g g' lAdd) := u2 oI eAdd rfl ha hb
theorem iSub (ha : ArgG x g) (hb : ArgG y g') : FOk P ⟨d, .binOp .sub t x y t', ty, pos, af, gu⟩ (F2 g g' lSub) := u2 oI eSub rfl ha hb
theorem iMul (ha : ArgG x g) (hb : ArgG y g') : FOk P ⟨d, .binOp .mul t x y t', ty, pos, af, gu⟩ (F2 g g' lMul) := u2 oI eMul rfl ha hb
theorem iLss (ha : ArgG x g) (hb : ArgG y g') : FOk P ⟨d, .binOp .lss t x y t', ty, pos, af, gu⟩ (F2 g g' lLss) := u2 oI eLss rfl ha hb
theorem iGtr (ha : ArgG x g) (hb : ArgG y g') : FOk P ⟨d, .binOp .gtr t x y t', ty, pos, af, gu⟩ (F2 g g' lGtr) := u2 oI eGtr rfl ha hb
theorem iLeq (ha : ArgG x g) (hb : ArgG y g') : FOk P ⟨d, .binOp .leq t x y t', ty, pos, af, gu⟩ (F2 g g' lLeq) := u2 oI eLeq rfl ha hb
theorem iGeq (ha : ArgG x g) (hb : ArgG y g') : FOk P ⟨d, .binOp .geq t x y t', ty, pos, af, gu⟩ (F2 g g' lGeq) := u2 oI eGeq rfl ha hb
theorem iEql (ha : ArgG x g) (hb : ArgG y g') : FOk P ⟨d, .binOp .eql t x y t', ty, pos, af, gu⟩ (F2 g g' lEql) := u2 oI eEql rfl ha hb
theorem iNeq (ha : ArgG x g) (hb : ArgG y g') : FOk P ⟨d, .binOp .neq t x y t', ty, pos, af, gu⟩ (F2 g g' lNeq) := u2 oI eNeq rfl ha hb
/-! Steps in one. -/
noncomputable def rM (g : Get) (p : Put) (rx : RX) : RX := fun env h k => g env (fun v => p v env (fun env' => rx env' h k))
noncomputable def r1 (g : Get) (f : L1) (p : Put) (rx : RX) : RX := fun env h k => g env (fun v => f v h (fun r h' => p r env (fun env' => rx env' h' k)))
noncomputable def r2 (g g' : Get) (f : L2) (p : Put) (rx : RX) : RX := fun env h k => g env (fun v => g' env (fun u => f v u h (fun r h' => p r env (fun env' => rx env' h' k))))
noncomputable def r20 (g g' : Get) (f : L2) (rx : RX) : RX := fun env h k => g env (fun v => g' env (fun u => f v u h (fun _ h' => rx env h' k)))
section
variable {ops : Array Oper} {n dd : Nat} {op : Op} {l : List Oper} {rx : RX} {p : Put} {f1 : L1} {f2 : L2}
theorem sm (hp : PutOk p dd) (ha : ArgG x g) (h : ROk P ops n l rx) : ROk P ops n (⟨some dd, .move x, ty, pos, af, none⟩ :: l) (rM g p rx) := s1 hp (fMv ha) h
theorem sa (hp : PutOk p dd) (ha : ArgG x g) (h : ROk P ops n l rx) : ROk P ops n (⟨some dd, .assign x, ty, pos, af, none⟩ :: l) (rM g p rx) := s1 hp (fAs ha) h
theorem y1 (hp : PutOk p dd) (hf : FOk P ⟨some dd, op, ty, pos, af, none⟩ (F1 g f1)) (h : ROk P ops n l rx) : ROk P ops n (⟨some dd, op, ty, pos, af, none⟩ :: l) (r1 g f1 p rx) := s1 hp hf h
theorem y2 (hp : PutOk p dd) (hf : FOk P ⟨some dd, op, ty, pos, af, none⟩ (F2 g g' f2)) (h : ROk P ops n l rx) : ROk P ops n (⟨some dd, op, ty, pos, af, none⟩ :: l) (r2 g g' f2 p rx) := s1 hp hf h
theorem y0 (hf : FOk P ⟨none, op, ty, pos, af, none⟩ (F2 g g' f2)) (h : ROk P ops n l rx) : ROk P ops n (⟨none, op, ty, pos, af, none⟩ :: l) (r20 g g' f2 rx) := s0 hf h
end
end Go.Proofs.YtddbhljljmijcaaGreat.V
