/- One table of operations, for both kinds of regions. -/
import Derived.Test.YtddbhljljmijcaaGreatRw
namespace Go.Proofs.YtddbhljljmijcaaGreat.V
open Go.RowKit
set_option linter.unusedVariables false
set_option linter.unusedSimpArgs false
variable {P : Program}

/-- .. carried out at once. -/
noncomputable def DX.x (d : DX) : Xop := fun vals h k => DX.rec (motive := fun _ => Bool) (fun X => X vals (fun v => k v h)) (fun X => X vals h (fun v => k v h)) (fun X => X vals (fun ob mk => h.m.setK h.next ob (fun m => fN (Nat.succ h.next) (fun nx => k (mk h.next) ⟨m, nx⟩)))) (fun X => X vals h k) d
theorem DXOk.x {o : Oper} {d : DX} (hd : DXOk P o d) : XOk P o d.x := by
  intro vals h k hk
  cases d with
  | pure X =>
    obtain ⟨v, h1, h2⟩ := hd _ _ hk
    exact ⟨v, h, h1, h2 h⟩
  | read X =>
    obtain ⟨v, h1, h2⟩ := hd _ _ _ hk
    exact ⟨v, h, h1, h2⟩
  | chain X => exact hd _ _ _ hk
  | new X =>
    obtain ⟨ob, mk, h1, h2⟩ := hd _ _ hk
    obtain ⟨m, hm, h3⟩ := T.setK_sound _ _ _ _ h1
    rw [fN_eq] at h3
    refine ⟨_, _, h3, fun F H W0 ρ w a K Q hF hv hrel hK => ?_⟩
    have hu := hrel.fresh h.next (Nat.le_refl _)
    have hrel' : Rel H W0 ρ ⟨m, Nat.succ h.next⟩ w := hrel.more (Nat.le_succ _) fun b hb => by
      rw [hm, if_neg]
      intro q
      subst q
      exact hb hu
    refine h2 h.next F _ H W0 ρ w a K Q hF hv hrel' hu (Nat.lt_succ_self _) (by rw [hm, if_pos rfl]) fun V w' ρ' hl hk' hR hV => ?_
    refine hK V w' ρ' ⟨hl, Nat.le_succ _, fun b hb hbu => ⟨hk' b hbu (by omega), ?_⟩⟩ hR hV
    show m.get b = _
    rw [hm, if_neg (by omega)]
end Go.Proofs.YtddbhljljmijcaaGreat.V
