/- The abstract frame: thirteen rows of twelve slots. Printed by a program (genenv.py). -/
import Derived.Test.YtddbhljljmijcaaGreatRo
import Derived.OrdersIn
namespace Go.Proofs.YtddbhljljmijcaaGreat.V
open Go.RowKit
set_option linter.unusedVariables false
set_option linter.unusedSimpArgs false
noncomputable def IG0 : ERow → (AV → Bool) → Bool := fun r k => ERow.rec (motive := fun _ => Bool) (fun x0 x1 x2 x3 x4 x5 x6 x7 x8 x9 x10 x11 => k x0) r
noncomputable def IP0 : AV → ERow → (ERow → Bool) → Bool := fun v r k => ERow.rec (motive := fun _ => Bool) (fun x0 x1 x2 x3 x4 x5 x6 x7 x8 x9 x10 x11 => k (.mk v x1 x2 x3 x4 x5 x6 x7 x8 x9 x10 x11)) r
noncomputable def IG1 : ERow → (AV → Bool) → Bool := fun r k => ERow.rec (motive := fun _ => Bool) (fun x0 x1 x2 x3 x4 x5 x6 x7 x8 x9 x10 x11 => k x1) r
noncomputable def IP1 : AV → ERow → (ERow → Bool) → Bool := fun v r k => ERow.rec (motive := fun _ => Bool) (fun x0 x1 x2 x3 x4 x5 x6 x7 x8 x9 x10 x11 => k (.mk x0 v x2 x3 x4 x5 x6 x7 x8 x9 x10 x11)) r
noncomputable def IG2 : ERow → (AV → Bool) → Bool := fun r k => ERow.rec (motive := fun _ => Bool) (fun x0 x1 x2 x3 x4 x5 x6 x7 x8 x9 x10 x11 => k x2) r
noncomputable def IP2 : AV → ERow → (ERow → Bool) → Bool := fun v r k => ERow.rec (motive := fun _ => Bool) (fun x0 x1 x2 x3 x4 x5 x6 x7 x8 x9 x10 x11 => k (.mk x0 x1 v x3 x4 x5 x6 x7 x8 x9 x10 x11)) r
noncomputable def IG3 : ERow → (AV → Bool) → Bool := fun r k => ERow.rec (motive := fun _ => Bool) (fun x0 x1 x2 x3 x4 x5 x6 x7 x8 x9 x10 x11 => k x3) r
noncomputable def IP3 : AV → ERow → (ERow → Bool) → Bool := fun v r k => ERow.rec (motive := fun _ => Bool) (fun x0 x1 x2 x3 x4 x5 x6 x7 x8 x9 x10 x11 => k (.mk x0 x1 x2 v x4 x5 x6 x7 x8 x9 x10 x11)) r
noncomputable def IG4 : ERow → (AV → Bool) → Bool := fun r k => ERow.rec (motive := fun _ => Bool) (fun x0 x1 x2 x3 x4 x5 x6 x7 x8 x9 x10 x11 => k x4) r
noncomputable def IP4 : AV → ERow → (ERow → Bool) → Bool := fun v r k => ERow.rec (motive := fun _ => Bool) (fun x0 x1 x2 x3 x4 x5 x6 x7 x8 x9 x10 x11 => k (.mk x0 x1 x2 x3 v x5 x6 x7 x8 x9 x10 x11)) r
noncomputable def IG5 : ERow → (AV → Bool) → Bool := fun r k => ERow.rec (motive := fun _ => Bool) (fun x0 x1 x2 x3 x4 x5 x6 x7 x8 x9 x10 x11 => k x5) r
noncomputable def IP5 : AV → ERow → (ERow → Bool) → Bool := fun v r k => ERow.rec (motive := fun _ => Bool) (fun x0 x1 x2 x3 x4 x5 x6 x7 x8 x9 x10 x11 => k (.mk x0 x1 x2 x3 x4 v x6 x7 x8 x9 x10 x11)) r
noncomputable def IG6 : ERow → (AV → Bool) → Bool := fun r k => ERow.rec (motive := fun _ => Bool) (fun x0 x1 x2 x3 x4 x5 x6 x7 x8 x9 x10 x11 => k x6) r
noncomputable def IP6 : AV → ERow → (ERow → Bool) → Bool := fun v r k => ERow.rec (motive := fun _ => Bool) (fun x0 x1 x2 x3 x4 x5 x6 x7 x8 x9 x10 x11 => k (.mk x0 x1 x2 x3 x4 x5 v x7 x8 x9 x10 x11)) r
noncomputable def IG7 : ERow → (AV → Bool) → Bool := fun r k => ERow.rec (motive := fun _ => Bool) (fun x0 x1 x2 x3 x4 x5 x6 x7 x8 x9 x10 x11 => k x7) r
noncomputable def IP7 : AV → ERow → (ERow → Bool) → Bool := fun v r k => ERow.rec (motive := fun _ => Bool) (fun x0 x1 x2 x3 x4 x5 x6 x7 x8 x9 x10 x11 => k (.mk x0 x1 x2 x3 x4 x5 x6 v x8 x9 x10 x11)) r
noncomputable def IG8 : ERow → (AV → Bool) → Bool := fun r k => ERow.rec (motive := fun _ => Bool) (fun x0 x1 x2 x3 x4 x5 x6 x7 x8 x9 x10 x11 => k x8) r
noncomputable def IP8 : AV → ERow → (ERow → Bool) → Bool := fun v r k => ERow.rec (motive := fun _ => Bool) (fun x0 x1 x2 x3 x4 x5 x6 x7 x8 x9 x10 x11 => k (.mk x0 x1 x2 x3 x4 x5 x6 x7 v x9 x10 x11)) r
noncomputable def IG9 : ERow → (AV → Bool) → Bool := fun r k => ERow.rec (motive := fun _ => Bool) (fun x0 x1 x2 x3 x4 x5 x6 x7 x8 x9 x10 x11 => k x9) r
noncomputable def IP9 : AV → ERow → (ERow → Bool) → Bool := fun v r k => ERow.rec (motive := fun _ => Bool) (fun x0 x1 x2 x3 x4 x5 x6 x7 x8 x9 x10 x11 => k (.mk x0 x1 x2 x3 x4 x5 x6 x7 x8 v x10 x11)) r
noncomputable def IG10 : ERow → (AV → Bool) → Bool := fun r k => ERow.rec (motive := fun _ => Bool) (fun x0 x1 x2 x3 x4 x5 x6 x7 x8 x9 x10 x11 => k x10) r
noncomputable def IP10 : AV → ERow → (ERow → Bool) → Bool := fun v r k => ERow.rec (motive := fun _ => Bool) (fun x0 x1 x2 x3 x4 x5 x6 x7 x8 x9 x10 x11 => k (.mk x0 x1 x2 x3 x4 x5 x6 x7 x8 x9 v x11)) r
noncomputable def IG11 : ERow → (AV → Bool) → Bool := fun r k => ERow.rec (motive := fun _ => Bool) (fun x0 x1 x2 x3 x4 x5 x6 x7 x8 x9 x10 x11 => k x11) r
noncomputable def IP11 : AV → ERow → (ERow → Bool) → Bool := fun v r k => ERow.rec (motive := fun _ => Bool) (fun x0 x1 x2 x3 x4 x5 x6 x7 x8 x9 x10 x11 => k (.mk x0 x1 x2 x3 x4 x5 x6 x7 x8 x9 x10 v)) r
noncomputable def EG0 : Env → (ERow → Bool) → Bool := fun e k => Env.rec (motive := fun _ => Bool) (fun r0 r1 r2 r3 r4 r5 r6 r7 r8 r9 r10 r11 r12 => k r0) e
noncomputable def EP0 : ERow → Env → (Env → Bool) → Bool := fun s e k => Env.rec (motive := fun _ => Bool) (fun r0 r1 r2 r3 r4 r5 r6 r7 r8 r9 r10 r11 r12 => k (.mk s r1 r2 r3 r4 r5 r6 r7 r8 r9 r10 r11 r12)) e
noncomputable def EG1 : Env → (ERow → Bool) → Bool := fun e k => Env.rec (motive := fun _ => Bool) (fun r0 r1 r2 r3 r4 r5 r6 r7 r8 r9 r10 r11 r12 => k r1) e
noncomputable def EP1 : ERow → Env → (Env → Bool) → Bool := fun s e k => Env.rec (motive := fun _ => Bool) (fun r0 r1 r2 r3 r4 r5 r6 r7 r8 r9 r10 r11 r12 => k (.mk r0 s r2 r3 r4 r5 r6 r7 r8 r9 r10 r11 r12)) e
noncomputable def EG2 : Env → (ERow → Bool) → Bool := fun e k => Env.rec (motive := fun _ => Bool) (fun r0 r1 r2 r3 r4 r5 r6 r7 r8 r9 r10 r11 r12 => k r2) e
noncomputable def EP2 : ERow → Env → (Env → Bool) → Bool := fun s e k => Env.rec (motive := fun _ => Bool) (fun r0 r1 r2 r3 r4 r5 r6 r7 r8 r9 r10 r11 r12 => k (.mk r0 r1 s r3 r4 r5 r6 r7 r8 r9 r10 r11 r12)) e
noncomputable def EG3 : Env → (ERow → Bool) → Bool := fun e k => Env.rec (motive := fun _ => Bool) (fun r0 r1 r2 r3 r4 r5 r6 r7 r8 r9 r10 r11 r12 => k r3) e
noncomputable def EP3 : ERow → Env → (Env → Bool) → Bool := fun s e k => Env.rec (motive := fun _ => Bool) (fun r0 r1 r2 r3 r4 r5 r6 r7 r8 r9 r10 r11 r12 => k (.mk r0 r1 r2 s r4 r5 r6 r7 r8 r9 r10 r11 r12)) e
noncomputable def EG4 : Env → (ERow → Bool) → Bool := fun e k => Env.rec (motive := fun _ => Bool) (fun r0 r1 r2 r3 r4 r5 r6 r7 r8 r9 r10 r11 r12 => k r4) e
noncomputable def EP4 : ERow → Env → (Env → Bool) → Bool := fun s e k => Env.rec (motive := fun _ => Bool) (fun r0 r1 r2 r3 r4 r5 r6 r7 r8 r9 r10 r11 r12 => k (.mk r0 r1 r2 r3 s r5 r6 r7 r8 r9 r10 r11 r12)) e
noncomputable def EG5 : Env → (ERow → Bool) → Bool := fun e k => Env.rec (motive := fun _ => Bool) (fun r0 r1 r2 r3 r4 r5 r6 r7 r8 r9 r10 r11 r12 => k r5) e
noncomputable def EP5 : ERow → Env → (Env → Bool) → Bool := fun s e k => Env.rec (motive := fun _ => Bool) (fun r0 r1 r2 r3 r4 r5 r6 r7 r8 r9 r10 r11 r12 => k (.mk r0 r1 r2 r3 r4 s r6 r7 r8 r9 r10 r11 r12)) e
noncomputable def EG6 : Env → (ERow → Bool) → Bool := fun e k => Env.rec (motive := fun _ => Bool) (fun r0 r1 r2 r3 r4 r5 r6 r7 r8 r9 r10 r11 r12 => k r6) e
noncomputable def EP6 : ERow → Env → (Env → Bool) → Bool := fun s e k => Env.rec (motive := fun _ => Bool) (fun r0 r1 r2 r3 r4 r5 r6 r7 r8 r9 r10 r11 r12 => k (.mk r0 r1 r2 r3 r4 r5 s r7 r8 r9 r10 r11 r12)) e
noncomputable def EG7 : Env → (ERow → Bool) → Bool := fun e k => Env.rec (motive := fun _ => Bool) (fun r0 r1 r2 r3 r4 r5 r6 r7 r8 r9 r10 r11 r12 => k r7) e
noncomputable def EP7 : ERow → Env → (Env → Bool) → Bool := fun s e k => Env.rec (motive := fun _ => Bool) (fun r0 r1 r2 r3 r4 r5 r6 r7 r8 r9 r10 r11 r12 => k (.mk r0 r1 r2 r3 r4 r5 r6 s r8 r9 r10 r11 r12)) e
noncomputable def EG8 : Env → (ERow → Bool) → Bool := fun e k => Env.rec (motive := fun _ => Bool) (fun r0 r1 r2 r3 r4 r5 r6 r7 r8 r9 r10 r11 r12 => k r8) e
noncomputable def EP8 : ERow → Env → (Env → Bool) → Bool := fun s e k => Env.rec (motive := fun _ => Bool) (fun r0 r1 r2 r3 r4 r5 r6 r7 r8 r9 r10 r11 r12 => k (.mk r0 r1 r2 r3 r4 r5 r6 r7 s r9 r10 r11 r12)) e
noncomputable def EG9 : Env → (ERow → Bool) → Bool := fun e k => Env.rec (motive := fun _ => Bool) (fun r0 r1 r2 r3 r4 r5 r6 r7 r8 r9 r10 r11 r12 => k r9) e
noncomputable def EP9 : ERow → Env → (Env → Bool) → Bool := fun s e k => Env.rec (motive := fun _ => Bool) (fun r0 r1 r2 r3 r4 r5 r6 r7 r8 r9 r10 r11 r12 => k (.mk r0 r1 r2 r3 r4 r5 r6 r7 r8 s r10 r11 r12)) e
noncomputable def EG10 : Env → (ERow → Bool) → Bool := fun e k => Env.rec (motive := fun _ => Bool) (fun r0 r1 r2 r3 r4 r5 r6 r7 r8 r9 r10 r11 r12 => k r10) e
noncomputable def EP10 : ERow → Env → (Env → Bool) → Bool := fun s e k => Env.rec (motive := fun _ => Bool) (fun r0 r1 r2 r3 r4 r5 r6 r7 r8 r9 r10 r11 r12 => k (.mk r0 r1 r2 r3 r4 r5 r6 r7 r8 r9 s r11 r12)) e
noncomputable def EG11 : Env → (ERow → Bool) → Bool := fun e k => Env.rec (motive := fun _ => Bool) (fun r0 r1 r2 r3 r4 r5 r6 r7 r8 r9 r10 r11 r12 => k r11) e
noncomputable def EP11 : ERow → Env → (Env → Bool) → Bool := fun s e k => Env.rec (motive := fun _ => Bool) (fun r0 r1 r2 r3 r4 r5 r6 r7 r8 r9 r10 r11 r12 => k (.mk r0 r1 r2 r3 r4 r5 r6 r7 r8 r9 r10 s r12)) e
noncomputable def EG12 : Env → (ERow → Bool) → Bool := fun e k => Env.rec (motive := fun _ => Bool) (fun r0 r1 r2 r3 r4 r5 r6 r7 r8 r9 r10 r11 r12 => k r12) e
noncomputable def EP12 : ERow → Env → (Env → Bool) → Bool := fun s e k => Env.rec (motive := fun _ => Bool) (fun r0 r1 r2 r3 r4 r5 r6 r7 r8 r9 r10 r11 r12 => k (.mk r0 r1 r2 r3 r4 r5 r6 r7 r8 r9 r10 r11 s)) e
def IGOk (g : ERow → (AV → Bool) → Bool) (i : Nat) : Prop := ∀ r k, g r k = k (r.at i)
def IPOk (p : AV → ERow → (ERow → Bool) → Bool) (i : Nat) : Prop := ∀ v r k, ∃ r' : ERow, p v r k = k r' ∧ ∀ j, r'.at j = if i = j then v else r.at j
def EGOk (g : Env → (ERow → Bool) → Bool) (i : Nat) : Prop := ∀ e k, g e k = k (e.row i)
def EPOk (p : ERow → Env → (Env → Bool) → Bool) (i : Nat) : Prop := ∀ s e k, ∃ e' : Env, p s e k = k e' ∧ ∀ j, e'.row j = if i = j then s else e.row j
theorem ig0 : IGOk IG0 0 := fun r k => by cases r; rfl
theorem ip0 : IPOk IP0 0 := fun v r k => by
  cases r
  exact ⟨_, rfl, fun j => by rcases j with _|_|_|_|_|_|_|_|_|_|_|_|j <;> first | rfl | (rw [if_neg (by omega)]; rfl)⟩
theorem ig1 : IGOk IG1 1 := fun r k => by cases r; rfl
theorem ip1 : IPOk IP1 1 := fun v r k => by
  cases r
  exact ⟨_, rfl, fun j => by rcases j with _|_|_|_|_|_|_|_|_|_|_|_|j <;> first | rfl | (rw [if_neg (by omega)]; rfl)⟩
theorem ig2 : IGOk IG2 2 := fun r k => by cases r; rfl
theorem ip2 : IPOk IP2 2 := fun v r k => by
  cases r
  exact ⟨_, rfl, fun j => by rcases j with _|_|_|_|_|_|_|_|_|_|_|_|j <;> first | rfl | (rw [if_neg (by omega)]; rfl)⟩
theorem ig3 : IGOk IG3 3 := fun r k => by cases r; rfl
theorem ip3 : IPOk IP3 3 := fun v r k => by
  cases r
  exact ⟨_, rfl, fun j => by rcases j with _|_|_|_|_|_|_|_|_|_|_|_|j <;> first | rfl | (rw [if_neg (by omega)]; rfl)⟩
theorem ig4 : IGOk IG4 4 := fun r k => by cases r; rfl
theorem ip4 : IPOk IP4 4 := fun v r k => by
  cases r
  exact ⟨_, rfl, fun j => by rcases j with _|_|_|_|_|_|_|_|_|_|_|_|j <;> first | rfl | (rw [if_neg (by omega)]; rfl)⟩
theorem ig5 : IGOk IG5 5 := fun r k => by cases r; rfl
theorem ip5 : IPOk IP5 5 := fun v r k => by
  cases r
  exact ⟨_, rfl, fun j => by rcases j with _|_|_|_|_|_|_|_|_|_|_|_|j <;> first | rfl | (rw [if_neg (by omega)]; rfl)⟩
theorem ig6 : IGOk IG6 6 := fun r k => by cases r; rfl
theorem ip6 : IPOk IP6 6 := fun v r k => by
  cases r
  exact ⟨_, rfl, fun j => by rcases j with _|_|_|_|_|_|_|_|_|_|_|_|j <;> first | rfl | (rw [if_neg (by omega)]; rfl)⟩
theorem ig7 : IGOk IG7 7 := fun r k => by cases r; rfl
theorem ip7 : IPOk IP7 7 := fun v r k => by
  cases r
  exact ⟨_, rfl, fun j => by rcases j with _|_|_|_|_|_|_|_|_|_|_|_|j <;> first | rfl | (rw [if_neg (by omega)]; rfl)⟩
theorem ig8 : IGOk IG8 8 := fun r k => by cases r; rfl
theorem ip8 : IPOk IP8 8 := fun v r k => by
  cases r
  exact ⟨_, rfl, fun j => by rcases j with _|_|_|_|_|_|_|_|_|_|_|_|j <;> first | rfl | (rw [if_neg (by omega)]; rfl)⟩
theorem ig9 : IGOk IG9 9 := fun r k => by cases r; rfl
theorem ip9 : IPOk IP9 9 := fun v r k => by
  cases r
  exact ⟨_, rfl, fun j => by rcases j with _|_|_|_|_|_|_|_|_|_|_|_|j <;> first | rfl | (rw [if_neg (by omega)]; rfl)⟩
theorem ig10 : IGOk IG10 10 := fun r k => by cases r; rfl
theorem ip10 : IPOk IP10 10 := fun v r k => by
  cases r
  exact ⟨_, rfl, fun j => by rcases j with _|_|_|_|_|_|_|_|_|_|_|_|j <;> first | rfl | (rw [if_neg (by omega)]; rfl)⟩
theorem ig11 : IGOk IG11 11 := fun r k => by cases r; rfl
theorem ip11 : IPOk IP11 11 := fun v r k => by
  cases r
  exact ⟨_, rfl, fun j => by rcases j with _|_|_|_|_|_|_|_|_|_|_|_|j <;> first | rfl | (rw [if_neg (by omega)]; rfl)⟩
theorem eg0 : EGOk EG0 0 := fun r k => by cases r; rfl
theorem ep0 : EPOk EP0 0 := fun v r k => by
  cases r
  exact ⟨_, rfl, fun j => by rcases j with _|_|_|_|_|_|_|_|_|_|_|_|_|j <;> first | rfl | (rw [if_neg (by omega)]; rfl)⟩
theorem eg1 : EGOk EG1 1 := fun r k => by cases r; rfl
theorem ep1 : EPOk EP1 1 := fun v r k => by
  cases r
  exact ⟨_, rfl, fun j => by rcases j with _|_|_|_|_|_|_|_|_|_|_|_|_|j <;> first | rfl | (rw [if_neg (by omega)]; rfl)⟩
theorem eg2 : EGOk EG2 2 := fun r k => by cases r; rfl
theorem ep2 : EPOk EP2 2 := fun v r k => by
  cases r
  exact ⟨_, rfl, fun j => by rcases j with _|_|_|_|_|_|_|_|_|_|_|_|_|j <;> first | rfl | (rw [if_neg (by omega)]; rfl)⟩
theorem eg3 : EGOk EG3 3 := fun r k => by cases r; rfl
theorem ep3 : EPOk EP3 3 := fun v r k => by
  cases r
  exact ⟨_, rfl, fun j => by rcases j with _|_|_|_|_|_|_|_|_|_|_|_|_|j <;> first | rfl | (rw [if_neg (by omega)]; rfl)⟩
theorem eg4 : EGOk EG4 4 := fun r k => by cases r; rfl
theorem ep4 : EPOk EP4 4 := fun v r k => by
  cases r
  exact ⟨_, rfl, fun j => by rcases j with _|_|_|_|_|_|_|_|_|_|_|_|_|j <;> first | rfl | (rw [if_neg (by omega)]; rfl)⟩
theorem eg5 : EGOk EG5 5 := fun r k => by cases r; rfl
theorem ep5 : EPOk EP5 5 := fun v r k => by
  cases r
  exact ⟨_, rfl, fun j => by rcases j with _|_|_|_|_|_|_|_|_|_|_|_|_|j <;> first | rfl | (rw [if_neg (by omega)]; rfl)⟩
theorem eg6 : EGOk EG6 6 := fun r k => by cases r; rfl
theorem ep6 : EPOk EP6 6 := fun v r k => by
  cases r
  exact ⟨_, rfl, fun j => by rcases j with _|_|_|_|_|_|_|_|_|_|_|_|_|j <;> first | rfl | (rw [if_neg (by omega)]; rfl)⟩
theorem eg7 : EGOk EG7 7 := fun r k => by cases r; rfl
theorem ep7 : EPOk EP7 7 := fun v r k => by
  cases r
  exact ⟨_, rfl, fun j => by rcases j with _|_|_|_|_|_|_|_|_|_|_|_|_|j <;> first | rfl | (rw [if_neg (by omega)]; rfl)⟩
theorem eg8 : EGOk EG8 8 := fun r k => by cases r; rfl
theorem ep8 : EPOk EP8 8 := fun v r k => by
  cases r
  exact ⟨_, rfl, fun j => by rcases j with _|_|_|_|_|_|_|_|_|_|_|_|_|j <;> first | rfl | (rw [if_neg (by omega)]; rfl)⟩
theorem eg9 : EGOk EG9 9 := fun r k => by cases r; rfl
theorem ep9 : EPOk EP9 9 := fun v r k => by
  cases r
  exact ⟨_, rfl, fun j => by rcases j with _|_|_|_|_|_|_|_|_|_|_|_|_|j <;> first | rfl | (rw [if_neg (by omega)]; rfl)⟩
theorem eg10 : EGOk EG10 10 := fun r k => by cases r; rfl
theorem ep10 : EPOk EP10 10 := fun v r k => by
  cases r
  exact ⟨_, rfl, fun j => by rcases j with _|_|_|_|_|_|_|_|_|_|_|_|_|j <;> first | rfl | (rw [if_neg (by omega)]; rfl)⟩
theorem eg11 : EGOk EG11 11 := fun r k => by cases r; rfl
theorem ep11 : EPOk EP11 11 := fun v r k => by
  cases r
  exact ⟨_, rfl, fun j => by rcases j with _|_|_|_|_|_|_|_|_|_|_|_|_|j <;> first | rfl | (rw [if_neg (by omega)]; rfl)⟩
theorem eg12 : EGOk EG12 12 := fun r k => by cases r; rfl
theorem ep12 : EPOk EP12 12 := fun v r k => by
  cases r
  exact ⟨_, rfl, fun j => by rcases j with _|_|_|_|_|_|_|_|_|_|_|_|_|j <;> first | rfl | (rw [if_neg (by omega)]; rfl)⟩
abbrev Get := Env → (AV → Bool) → Bool
abbrev Put := AV → Env → (Env → Bool) → Bool
def GetOk (g : Get) (t : Nat) : Prop := ∀ e k, g e k = k (e.slot t)
def PutOk (p : Put) (t : Nat) : Prop := ∀ v e k, ∃ e' : Env, p v e k = k e' ∧ ∀ j, e'.slot j = if t = j then v else e.slot j
theorem get_ok {eg : Env → (ERow → Bool) → Bool} {ig : ERow → (AV → Bool) → Bool} {i j : Nat} (he : EGOk eg i) (hi : IGOk ig j) {t : Nat} (h1 : t / 12 = i) (h2 : t % 12 = j) : GetOk (fun e k => eg e (fun r => ig r k)) t := fun e k => by
  show eg e (fun r => ig r k) = _
  rw [he, hi]
  unfold Env.slot
  rw [h1, h2]
theorem put_ok {eg : Env → (ERow → Bool) → Bool} {ep : ERow → Env → (Env → Bool) → Bool} {ip : AV → ERow → (ERow → Bool) → Bool} {i j : Nat} (he : EGOk eg i) (hp : EPOk ep i) (hi : IPOk ip j) {t : Nat} (h1 : t / 12 = i) (h2 : t % 12 = j) : PutOk (fun v e k => eg e (fun r => ip v r (fun r' => ep r' e k))) t := fun v e k => by
  obtain ⟨r', q1, q2⟩ := hi v (e.row i) (fun r' => ep r' e k)
  obtain ⟨e', q3, q4⟩ := hp r' e k
  refine ⟨e', ?_, fun t' => ?_⟩
  · show eg e (fun r => ip v r (fun r' => ep r' e k)) = _
    rw [he, q1, q3]
  · unfold Env.slot
    rw [q4]
    by_cases h3 : i = t' / 12
    · rw [if_pos h3, q2, ← h3]
      by_cases h4 : j = t' % 12
      · rw [if_pos h4, if_pos (by omega)]
      · rw [if_neg h4, if_neg (by omega)]
    · rw [if_neg h3, if_neg (by omega)]
noncomputable def t0 : Get := fun e k => Env.rec (motive := fun _ => Bool) (fun r0 r1 r2 r3 r4 r5 r6 r7 r8 r9 r10 r11 r12 => ERow.rec (motive := fun _ => Bool) (fun x0 x1 x2 x3 x4 x5 x6 x7 x8 x9 x10 x11 => k x0) r0) e
theorem gt0 : GetOk t0 0 := fun e k => by cases e with | mk r0 r1 r2 r3 r4 r5 r6 r7 r8 r9 r10 r11 r12 => cases r0; rfl
noncomputable def p0 : Put := fun v e k => Env.rec (motive := fun _ => Bool) (fun r0 r1 r2 r3 r4 r5 r6 r7 r8 r9 r10 r11 r12 => ERow.rec (motive := fun _ => Bool) (fun x0 x1 x2 x3 x4 x5 x6 x7 x8 x9 x10 x11 => k (.mk (.mk v x1 x2 x3 x4 x5 x6 x7 x8 x9 x10 x11) r1 r2 r3 r4 r5 r6 r7 r8 r9 r10 r11 r12)) r0) e
theorem pt0 : PutOk p0 0 := fun v e k => by
  have h := put_ok eg0 ep0 ip0 (t := 0) rfl rfl v e k
  cases e with | mk r0 r1 r2 r3 r4 r5 r6 r7 r8 r9 r10 r11 r12 => cases r0; exact h
noncomputable def t1 : Get := fun e k => Env.rec (motive := fun _ => Bool) (fun r0 r1 r2 r3 r4 r5 r6 r7 r8 r9 r10 r11 r12 => ERow.rec (motive := fun _ => Bool) (fun x0 x1 x2 x3 x4 x5 x6 x7 x8 x9 x10 x11 => k x1) r0) e
theorem gt1 : GetOk t1 1 := fun e k => by cases e with | mk r0 r1 r2 r3 r4 r5 r6 r7 r8 r9 r10 r11 r12 => cases r0; rfl
noncomputable def p1 : Put := fun v e k => Env.rec (motive := fun _ => Bool) (fun r0 r1 r2 r3 r4 r5 r6 r7 r8 r9 r10 r11 r12 => ERow.rec (motive := fun _ => Bool) (fun x0 x1 x2 x3 x4 x5 x6 x7 x8 x9 x10 x11 => k (.mk (.mk x0 v x2 x3 x4 x5 x6 x7 x8 x9 x10 x11) r1 r2 r3 r4 r5 r6 r7 r8 r9 r10 r11 r12)) r0) e
theorem pt1 : PutOk p1 1 := fun v e k => by
  have h := put_ok eg0 ep0 ip1 (t := 1) rfl rfl v e k
  cases e with | mk r0 r1 r2 r3 r4 r5 r6 r7 r8 r9 r10 r11 r12 => cases r0; exact h
noncomputable def t2 : Get := fun e k => Env.rec (motive := fun _ => Bool) (fun r0 r1 r2 r3 r4 r5 r6 r7 r8 r9 r10 r11 r12 => ERow.rec (motive := fun _ => Bool) (fun x0 x1 x2 x3 x4 x5 x6 x7 x8 x9 x10 x11 => k x2) r0) e
theorem gt2 : GetOk t2 2 := fun e k => by cases e with | mk r0 r1 r2 r3 r4 r5 r6 r7 r8 r9 r10 r11 r12 => cases r0; rfl
noncomputable def p2 : Put := fun v e k => Env.rec (motive := fun _ => Bool) (fun r0 r1 r2 r3 r4 r5 r6 r7 r8 r9 r10 r11 r12 => ERow.rec (motive := fun _ => Bool) (fun x0 x1 x2 x3 x4 x5 x6 x7 x8 x9 x10 x11 => k (.mk (.mk x0 x1 v x3 x4 x5 x6 x7 x8 x9 x10 x11) r1 r2 r3 r4 r5 r6 r7 r8 r9 r10 r11 r12)) r0) e
theorem pt2 : PutOk p2 2 := fun v e k => by
  have h := put_ok eg0 ep0 ip2 (t := 2) rfl rfl v e k
  cases e with | mk r0 r1 r2 r3 r4 r5 r6 r7 r8 r9 r10 r11 r12 => cases r0; exact h
noncomputable def t3 : Get := fun e k => Env.rec (motive := fun _ => Bool) (fun r0 r1 r2 r3 r4 r5 r6 r7 r8 r9 r10 r11 r12 => ERow.rec (motive := fun _ => Bool) (fun x0 x1 x2 x3 x4 x5 x6 x7 x8 x9 x10 x11 => k x3) r0) e
theorem gt3 : GetOk t3 3 := fun e k => by cases e with | mk r0 r1 r2 r3 r4 r5 r6 r7 r8 r9 r10 r11 r12 => cases r0; rfl
noncomputable def p3 : Put := fun v e k => Env.rec (motive := fun _ => Bool) (fun r0 r1 r2 r3 r4 r5 r6 r7 r8 r9 r10 r11 r12 => ERow.rec (motive := fun _ => Bool) (fun x0 x1 x2 x3 x4 x5 x6 x7 x8 x9 x10 x11 => k (.mk (.mk x0 x1 x2 v x4 x5 x6 x7 x8 x9 x10 x11) r1 r2 r3 r4 r5 r6 r7 r8 r9 r10 r11 r12)) r0) e
theorem pt3 : PutOk p3 3 := fun v e k => by
  have h := put_ok eg0 ep0 ip3 (t := 3) rfl rfl v e k
  cases e with | mk r0 r1 r2 r3 r4 r5 r6 r7 r8 r9 r10 r11 r12 => cases r0; exact h
noncomputable def t4 : Get := fun e k => Env.rec (motive := fun _ => Bool) (fun r0 r1 r2 r3 r4 r5 r6 r7 r8 r9 r10 r11 r12 => ERow.rec (motive := fun _ => Bool) (fun x0 x1 x2 x3 x4 x5 x6 x7 x8 x9 x10 x11 => k x4) r0) e
theorem gt4 : GetOk t4 4 := fun e k => by cases e with | mk r0 r1 r2 r3 r4 r5 r6 r7 r8 r9 r10 r11 r12 => cases r0; rfl
noncomputable def p4 : Put := fun v e k => Env.rec (motive := fun _ => Bool) (fun r0 r1 r2 r3 r4 r5 r6 r7 r8 r9 r10 r11 r12 => ERow.rec (motive := fun _ => Bool) (fun x0 x1 x2 x3 x4 x5 x6 x7 x8 x9 x10 x11 => k (.mk (.mk x0 x1 x2 x3 v x5 x6 x7 x8 x9 x10 x11) r1 r2 r3 r4 r5 r6 r7 r8 r9 r10 r11 r12)) r0) e
theorem pt4 : PutOk p4 4 := fun v e k => by
  have h := put_ok eg0 ep0 ip4 (t := 4) rfl rfl v e k
  cases e with | mk r0 r1 r2 r3 r4 r5 r6 r7 r8 r9 r10 r11 r12 => cases r0; exact h
noncomputable def t5 : Get := fun e k => Env.rec (motive := fun _ => Bool) (fun r0 r1 r2 r3 r4 r5 r6 r7 r8 r9 r10 r11 r12 => ERow.rec (motive := fun _ => Bool) (fun x0 x1 x2 x3 x4 x5 x6 x7 x8 x9 x10 x11 => k x5) r0) e
theorem gt5 : GetOk t5 5 := fun e k => by cases e with | mk r0 r1 r2 r3 r4 r5 r6 r7 r8 r9 r10 r11 r12 => cases r0; rfl
noncomputable def p5 : Put := fun v e k => Env.rec (motive := fun _ => Bool) (fun r0 r1 r2 r3 r4 r5 r6 r7 r8 r9 r10 r11 r12 => ERow.rec (motive := fun _ => Bool) (fun x0 x1 x2 x3 x4 x5 x6 x7 x8 x9 x10 x11 => k (.mk (.mk x0 x1 x2 x3 x4 v x6 x7 x8 x9 x10 x11) r1 r2 r3 r4 r5 r6 r7 r8 r9 r10 r11 r12)) r0) e
theorem pt5 : PutOk p5 5 := fun v e k => by
  have h := put_ok eg0 ep0 ip5 (t := 5) rfl rfl v e k
  cases e with | mk r0 r1 r2 r3 r4 r5 r6 r7 r8 r9 r10 r11 r12 => cases r0; exact h
noncomputable def t6 : Get := fun e k => Env.rec (motive := fun _ => Bool) (fun r0 r1 r2 r3 r4 r5 r6 r7 r8 r9 r10 r11 r12 => ERow.rec (motive := fun _ => Bool) (fun x0 x1 x2 x3 x4 x5 x6 x7 x8 x9 x10 x11 => k x6) r0) e
theorem gt6 : GetOk t6 6 := fun e k => by cases e with | mk r0 r1 r2 r3 r4 r5 r6 r7 r8 r9 r10 r11 r12 => cases r0; rfl
noncomputable def p6 : Put := fun v e k => Env.rec (motive := fun _ => Bool) (fun r0 r1 r2 r3 r4 r5 r6 r7 r8 r9 r10 r11 r12 => ERow.rec (motive := fun _ => Bool) (fun x0 x1 x2 x3 x4 x5 x6 x7 x8 x9 x10 x11 => k (.mk (.mk x0 x1 x2 x3 x4 x5 v x7 x8 x9 x10 x11) r1 r2 r3 r4 r5 r6 r7 r8 r9 r10 r11 r12)) r0) e
theorem pt6 : PutOk p6 6 := fun v e k => by
  have h := put_ok eg0 ep0 ip6 (t := 6) rfl rfl v e k
  cases e with | mk r0 r1 r2 r3 r4 r5 r6 r7 r8 r9 r10 r11 r12 => cases r0; exact h
noncomputable def t7 : Get := fun e k => Env.rec (motive := fun _ => Bool) (fun r0 r1 r2 r3 r4 r5 r6 r7 r8 r9 r10 r11 r12 => ERow.rec (motive := fun _ => Bool) (fun x0 x1 x2 x3 x4 x5 x6 x7 x8 x9 x10 x11 => k x7) r0) e
theorem gt7 : GetOk t7 7 := fun e k => by cases e with | mk r0 r1 r2 r3 r4 r5 r6 r7 r8 r9 r10 r11 r12 => cases r0; rfl
noncomputable def p7 : Put := fun v e k => Env.rec (motive := fun _ => Bool) (fun r0 r1 r2 r3 r4 r5 r6 r7 r8 r9 r10 r11 r12 => ERow.rec (motive := fun _ => Bool) (fun x0 x1 x2 x3 x4 x5 x6 x7 x8 x9 x10 x11 => k (.mk (.mk x0 x1 x2 x3 x4 x5 x6 v x8 x9 x10 x11) r1 r2 r3 r4 r5 r6 r7 r8 r9 r10 r11 r12)) r0) e
theorem pt7 : PutOk p7 7 := fun v e k => by
  have h := put_ok eg0 ep0 ip7 (t := 7) rfl rfl v e k
  cases e with | mk r0 r1 r2 r3 r4 r5 r6 r7 r8 r9 r10 r11 r12 => cases r0; exact h
noncomputable def t8 : Get := fun e k => Env.rec (motive := fun _ => Bool) (fun r0 r1 r2 r3 r4 r5 r6 r7 r8 r9 r10 r11 r12 => ERow.rec (motive := fun _ => Bool) (fun x0 x1 x2 x3 x4 x5 x6 x7 x8 x9 x10 x11 => k x8) r0) e
theorem gt8 : GetOk t8 8 := fun e k => by cases e with | mk r0 r1 r2 r3 r4 r5 r6 r7 r8 r9 r10 r11 r12 => cases r0; rfl
noncomputable def p8 : Put := fun v e k => Env.rec (motive := fun _ => Bool) (fun r0 r1 r2 r3 r4 r5 r6 r7 r8 r9 r10 r11 r12 => ERow.rec (motive := fun _ => Bool) (fun x0 x1 x2 x3 x4 x5 x6 x7 x8 x9 x10 x11 => k (.mk (.mk x0 x1 x2 x3 x4 x5 x6 x7 v x9 x10 x11) r1 r2 r3 r4 r5 r6 r7 r8 r9 r10 r11 r12)) r0) e
theorem pt8 : PutOk p8 8 := fun v e k => by
  have h := put_ok eg0 ep0 ip8 (t := 8) rfl rfl v e k
  cases e with | mk r0 r1 r2 r3 r4 r5 r6 r7 r8 r9 r10 r11 r12 => cases r0; exact h
noncomputable def t9 : Get := fun e k => Env.rec (motive := fun _ => Bool) (fun r0 r1 r2 r3 r4 r5 r6 r7 r8 r9 r10 r11 r12 => ERow.rec (motive := fun _ => Bool) (fun x0 x1 x2 x3 x4 x5 x6 x7 x8 x9 x10 x11 => k x9) r0) e
theorem gt9 : GetOk t9 9 := fun e k => by cases e with | mk r0 r1 r2 r3 r4 r5 r6 r7 r8 r9 r10 r11 r12 => cases r0; rfl
noncomputable def p9 : Put := fun v e k => Env.rec (motive := fun _ => Bool) (fun r0 r1 r2 r3 r4 r5 r6 r7 r8 r9 r10 r11 r12 => ERow.rec (motive := fun _ => Bool) (fun x0 x1 x2 x3 x4 x5 x6 x7 x8 x9 x10 x11 => k (.mk (.mk x0 x1 x2 x3 x4 x5 x6 x7 x8 v x10 x11) r1 r2 r3 r4 r5 r6 r7 r8 r9 r10 r11 r12)) r0) e
theorem pt9 : PutOk p9 9 := fun v e k => by
  have h := put_ok eg0 ep0 ip9 (t := 9) rfl rfl v e k
  cases e with | mk r0 r1 r2 r3 r4 r5 r6 r7 r8 r9 r10 r11 r12 => cases r0; exact h
noncomputable def t10 : Get := fun e k => Env.rec (motive := fun _ => Bool) (fun r0 r1 r2 r3 r4 r5 r6 r7 r8 r9 r10 r11 r12 => ERow.rec (motive := fun _ => Bool) (fun x0 x1 x2 x3 x4 x5 x6 x7 x8 x9 x10 x11 => k x10) r0) e
theorem gt10 : GetOk t10 10 := fun e k => by cases e with | mk r0 r1 r2 r3 r4 r5 r6 r7 r8 r9 r10 r11 r12 => cases r0; rfl
noncomputable def p10 : Put := fun v e k => Env.rec (motive := fun _ => Bool) (fun r0 r1 r2 r3 r4 r5 r6 r7 r8 r9 r10 r11 r12 => ERow.rec (motive := fun _ => Bool) (fun x0 x1 x2 x3 x4 x5 x6 x7 x8 x9 x10 x11 => k (.mk (.mk x0 x1 x2 x3 x4 x5 x6 x7 x8 x9 v x11) r1 r2 r3 r4 r5 r6 r7 r8 r9 r10 r11 r12)) r0) e
theorem pt10 : PutOk p10 10 := fun v e k => by
  have h := put_ok eg0 ep0 ip10 (t := 10) rfl rfl v e k
  cases e with | mk r0 r1 r2 r3 r4 r5 r6 r7 r8 r9 r10 r11 r12 => cases r0; exact h
noncomputable def t11 : Get := fun e k => Env.rec (motive := fun _ => Bool) (fun r0 r1 r2 r3 r4 r5 r6 r7 r8 r9 r10 r11 r12 => ERow.rec (motive := fun _ => Bool) (fun x0 x1 x2 x3 x4 x5 x6 x7 x8 x9 x10 x11 => k x11) r0) e
theorem gt11 : GetOk t11 11 := fun e k => by cases e with | mk r0 r1 r2 r3 r4 r5 r6 r7 r8 r9 r10 r11 r12 => cases r0; rfl
noncomputable def p11 : Put := fun v e k => Env.rec (motive := fun _ => Bool) (fun r0 r1 r2 r3 r4 r5 r6 r7 r8 r9 r10 r11 r12 => ERow.rec (motive := fun _ => Bool) (fun x0 x1 x2 x3 x4 x5 x6 x7 x8 x9 x10 x11 => k (.mk (.mk x0 x1 x2 x3 x4 x5 x6 x7 x8 x9 x10 v) r1 r2 r3 r4 r5 r6 r7 r8 r9 r10 r11 r12)) r0) e
theorem pt11 : PutOk p11 11 := fun v e k => by
  have h := put_ok eg0 ep0 ip11 (t := 11) rfl rfl v e k
  cases e with | mk r0 r1 r2 r3 r4 r5 r6 r7 r8 r9 r10 r11 r12 => cases r0; exact h
noncomputable def t12 : Get := fun e k => Env.rec (motive := fun _ => Bool) (fun r0 r1 r2 r3 r4 r5 r6 r7 r8 r9 r10 r11 r12 => ERow.rec (motive := fun _ => Bool) (fun x0 x1 x2 x3 x4 x5 x6 x7 x8 x9 x10 x11 => k x0) r1) e
theorem gt12 : GetOk t12 12 := fun e k => by cases e with | mk r0 r1 r2 r3 r4 r5 r6 r7 r8 r9 r10 r11 r12 => cases r1; rfl
noncomputable def p12 : Put := fun v e k => Env.rec (motive := fun _ => Bool) (fun r0 r1 r2 r3 r4 r5 r6 r7 r8 r9 r10 r11 r12 => ERow.rec (motive := fun _ => Bool) (fun x0 x1 x2 x3 x4 x5 x6 x7 x8 x9 x10 x11 => k (.mk r0 (.mk v x1 x2 x3 x4 x5 x6 x7 x8 x9 x10 x11) r2 r3 r4 r5 r6 r7 r8 r9 r10 r11 r12)) r1) e
theorem pt12 : PutOk p12 12 := fun v e k => by
  have h := put_ok eg1 ep1 ip0 (t := 12) rfl rfl v e k
  cases e with | mk r0 r1 r2 r3 r4 r5 r6 r7 r8 r9 r10 r11 r12 => cases r1; exact h
noncomputable def t13 : Get := fun e k => Env.rec (motive := fun _ => Bool) (fun r0 r1 r2 r3 r4 r5 r6 r7 r8 r9 r10 r11 r12 => ERow.rec (motive := fun _ => Bool) (fun x0 x1 x2 x3 x4 x5 x6 x7 x8 x9 x10 x11 => k x1) r1) e
theorem gt13 : GetOk t13 13 := fun e k => by cases e with | mk r0 r1 r2 r3 r4 r5 r6 r7 r8 r9 r10 r11 r12 => cases r1; rfl
noncomputable def p13 : Put := fun v e k => Env.rec (motive := fun _ => Bool) (fun r0 r1 r2 r3 r4 r5 r6 r7 r8 r9 r10 r11 r12 => ERow.rec (motive := fun _ => Bool) (fun x0 x1 x2 x3 x4 x5 x6 x7 x8 x9 x10 x11 => k (.mk r0 (.mk x0 v x2 x3 x4 x5 x6 x7 x8 x9 x10 x11) r2 r3 r4 r5 r6 r7 r8 r9 r10 r11 r12)) r1) e
theorem pt13 : PutOk p13 13 := fun v e k => by
  have h := put_ok eg1 ep1 ip1 (t := 13) rfl rfl v e k
  cases e with | mk r0 r1 r2 r3 r4 r5 r6 r7 r8 r9 r10 r11 r12 => cases r1; exact h
noncomputable def t14 : Get := fun e k => Env.rec (motive := fun _ => Bool) (fun r0 r1 r2 r3 r4 r5 r6 r7 r8 r9 r10 r11 r12 => ERow.rec (motive := fun _ => Bool) (fun x0 x1 x2 x3 x4 x5 x6 x7 x8 x9 x10 x11 => k x2) r1) e
theorem gt14 : GetOk t14 14 := fun e k => by cases e with | mk r0 r1 r2 r3 r4 r5 r6 r7 r8 r9 r10 r11 r12 => cases r1; rfl
noncomputable def p14 : Put := fun v e k => Env.rec (motive := fun _ => Bool) (fun r0 r1 r2 r3 r4 r5 r6 r7 r8 r9 r10 r11 r12 => ERow.rec (motive := fun _ => Bool) (fun x0 x1 x2 x3 x4 x5 x6 x7 x8 x9 x10 x11 => k (.mk r0 (.mk x0 x1 v x3 x4 x5 x6 x7 x8 x9 x10 x11) r2 r3 r4 r5 r6 r7 r8 r9 r10 r11 r12)) r1) e
theorem pt14 : PutOk p14 14 := fun v e k => by
  have h := put_ok eg1 ep1 ip2 (t := 14) rfl rfl v e k
  cases e with | mk r0 r1 r2 r3 r4 r5 r6 r7 r8 r9 r10 r11 r12 => cases r1; exact h
noncomputable def t15 : Get := fun e k => Env.rec (motive := fun _ => Bool) (fun r0 r1 r2 r3 r4 r5 r6 r7 r8 r9 r10 r11 r12 => ERow.rec (motive := fun _ => Bool) (fun x0 x1 x2 x3 x4 x5 x6 x7 x8 x9 x10 x11 => k x3) r1) e
theorem gt15 : GetOk t15 15 := fun e k => by cases e with | mk r0 r1 r2 r3 r4 r5 r6 r7 r8 r9 r10 r11 r12 => cases r1; rfl
noncomputable def p15 : Put := fun v e k => Env.rec (motive := fun _ => Bool) (fun r0 r1 r2 r3 r4 r5 r6 r7 r8 r9 r10 r11 r12 => ERow.rec (motive := fun _ => Bool) (fun x0 x1 x2 x3 x4 x5 x6 x7 x8 x9 x10 x11 => k (.mk r0 (.mk x0 x1 x2 v x4 x5 x6 x7 x8 x9 x10 x11) r2 r3 r4 r5 r6 r7 r8 r9 r10 r11 r12)) r1) e
theorem pt15 : PutOk p15 15 := fun v e k => by
  have h := put_ok eg1 ep1 ip3 (t := 15) rfl rfl v e k
  cases e with | mk r0 r1 r2 r3 r4 r5 r6 r7 r8 r9 r10 r11 r12 => cases r1; exact h
noncomputable def t16 : Get := fun e k => Env.rec (motive := fun _ => Bool) (fun r0 r1 r2 r3 r4 r5 r6 r7 r8 r9 r10 r11 r12 => ERow.rec (motive := fun _ => Bool) (fun x0 x1 x2 x3 x4 x5 x6 x7 x8 x9 x10 x11 => k x4) r1) e
theorem gt16 : GetOk t16 16 := fun e k => by cases e with | mk r0 r1 r2 r3 r4 r5 r6 r7 r8 r9 r10 r11 r12 => cases r1; rfl
noncomputable def p16 : Put := fun v e k => Env.rec (motive := fun _ => Bool) (fun r0 r1 r2 r3 r4 r5 r6 r7 r8 r9 r10 r11 r12 => ERow.rec (motive := fun _ => Bool) (fun x0 x1 x2 x3 x4 x5 x6 x7 x8 x9 x10 x11 => k (.mk r0 (.mk x0 x1 x2 x3 v x5 x6 x7 x8 x9 x10 x11) r2 r3 r4 r5 r6 r7 r8 r9 r10 r11 r12)) r1) e
theorem pt16 : PutOk p16 16 := fun v e k => by
  have h := put_ok eg1 ep1 ip4 (t := 16) rfl rfl v e k
  cases e with | mk r0 r1 r2 r3 r4 r5 r6 r7 r8 r9 r10 r11 r12 => cases r1; exact h
noncomputable def t17 : Get := fun e k => Env.rec (motive := fun _ => Bool) (fun r0 r1 r2 r3 r4 r5 r6 r7 r8 r9 r10 r11 r12 => ERow.rec (motive := fun _ => Bool) (fun x0 x1 x2 x3 x4 x5 x6 x7 x8 x9 x10 x11 => k x5) r1) e
theorem gt17 : GetOk t17 17 := fun e k => by cases e with | mk r0 r1 r2 r3 r4 r5 r6 r7 r8 r9 r10 r11 r12 => cases r1; rfl
noncomputable def p17 : Put := fun v e k => Env.rec (motive := fun _ => Bool) (fun r0 r1 r2 r3 r4 r5 r6 r7 r8 r9 r10 r11 r12 => ERow.rec (motive := fun _ => Bool) (fun x0 x1 x2 x3 x4 x5 x6 x7 x8 x9 x10 x11 => k (.mk r0 (.mk x0 x1 x2 x3 x4 v x6 x7 x8 x9 x10 x11) r2 r3 r4 r5 r6 r7 r8 r9 r10 r11 r12)) r1) e
theorem pt17 : PutOk p17 17 := fun v e k => by
  have h := put_ok eg1 ep1 ip5 (t := 17) rfl rfl v e k
  cases e with | mk r0 r1 r2 r3 r4 r5 r6 r7 r8 r9 r10 r11 r12 => cases r1; exact h
noncomputable def t18 : Get := fun e k => Env.rec (motive := fun _ => Bool) (fun r0 r1 r2 r3 r4 r5 r6 r7 r8 r9 r10 r11 r12 => ERow.rec (motive := fun _ => Bool) (fun x0 x1 x2 x3 x4 x5 x6 x7 x8 x9 x10 x11 => k x6) r1) e
theorem gt18 : GetOk t18 18 := fun e k => by cases e with | mk r0 r1 r2 r3 r4 r5 r6 r7 r8 r9 r10 r11 r12 => cases r1; rfl
noncomputable def p18 : Put := fun v e k => Env.rec (motive := fun _ => Bool) (fun r0 r1 r2 r3 r4 r5 r6 r7 r8 r9 r10 r11 r12 => ERow.rec (motive := fun _ => Bool) (fun x0 x1 x2 x3 x4 x5 x6 x7 x8 x9 x10 x11 => k (.mk r0 (.mk x0 x1 x2 x3 x4 x5 v x7 x8 x9 x10 x11) r2 r3 r4 r5 r6 r7 r8 r9 r10 r11 r12)) r1) e
theorem pt18 : PutOk p18 18 := fun v e k => by
  have h := put_ok eg1 ep1 ip6 (t := 18) rfl rfl v e k
  cases e with | mk r0 r1 r2 r3 r4 r5 r6 r7 r8 r9 r10 r11 r12 => cases r1; exact h
noncomputable def t19 : Get := fun e k => Env.rec (motive := fun _ => Bool) (fun r0 r1 r2 r3 r4 r5 r6 r7 r8 r9 r10 r11 r12 => ERow.rec (motive := fun _ => Bool) (fun x0 x1 x2 x3 x4 x5 x6 x7 x8 x9 x10 x11 => k x7) r1) e
theorem gt19 : GetOk t19 19 := fun e k => by cases e with | mk r0 r1 r2 r3 r4 r5 r6 r7 r8 r9 r10 r11 r12 => cases r1; rfl
noncomputable def p19 : Put := fun v e k => Env.rec (motive := fun _ => Bool) (fun r0 r1 r2 r3 r4 r5 r6 r7 r8 r9 r10 r11 r12 => ERow.rec (motive := fun _ => Bool) (fun x0 x1 x2 x3 x4 x5 x6 x7 x8 x9 x10 x11 => k (.mk r0 (.mk x0 x1 x2 x3 x4 x5 x6 v x8 x9 x10 x11) r2 r3 r4 r5 r6 r7 r8 r9 r10 r11 r12)) r1) e
theorem pt19 : PutOk p19 19 := fun v e k => by
  have h := put_ok eg1 ep1 ip7 (t := 19) rfl rfl v e k
  cases e with | mk r0 r1 r2 r3 r4 r5 r6 r7 r8 r9 r10 r11 r12 => cases r1; exact h
noncomputable def t20 : Get := fun e k => Env.rec (motive := fun _ => Bool) (fun r0 r1 r2 r3 r4 r5 r6 r7 r8 r9 r10 r11 r12 => ERow.rec (motive := fun _ => Bool) (fun x0 x1 x2 x3 x4 x5 x6 x7 x8 x9 x10 x11 => k x8) r1) e
theorem gt20 : GetOk t20 20 := fun e k => by cases e with | mk r0 r1 r2 r3 r4 r5 r6 r7 r8 r9 r10 r11 r12 => cases r1; rfl
noncomputable def p20 : Put := fun v e k => Env.rec (motive := fun _ => Bool) (fun r0 r1 r2 r3 r4 r5 r6 r7 r8 r9 r10 r11 r12 => ERow.rec (motive := fun _ => Bool) (fun x0 x1 x2 x3 x4 x5 x6 x7 x8 x9 x10 x11 => k (.mk r0 (.mk x0 x1 x2 x3 x4 x5 x6 x7 v x9 x10 x11) r2 r3 r4 r5 r6 r7 r8 r9 r10 r11 r12)) r1) e
theorem pt20 : PutOk p20 20 := fun v e k => by
  have h := put_ok eg1 ep1 ip8 (t := 20) rfl rfl v e k
  cases e with | mk r0 r1 r2 r3 r4 r5 r6 r7 r8 r9 r10 r11 r12 => cases r1; exact h
noncomputable def t21 : Get := fun e k => Env.rec (motive := fun _ => Bool) (fun r0 r1 r2 r3 r4 r5 r6 r7 r8 r9 r10 r11 r12 => ERow.rec (motive := fun _ => Bool) (fun x0 x1 x2 x3 x4 x5 x6 x7 x8 x9 x10 x11 => k x9) r1) e
theorem gt21 : GetOk t21 21 := fun e k => by cases e with | mk r0 r1 r2 r3 r4 r5 r6 r7 r8 r9 r10 r11 r12 => cases r1; rfl
noncomputable def p21 : Put := fun v e k => Env.rec (motive := fun _ => Bool) (fun r0 r1 r2 r3 r4 r5 r6 r7 r8 r9 r10 r11 r12 => ERow.rec (motive := fun _ => Bool) (fun x0 x1 x2 x3 x4 x5 x6 x7 x8 x9 x10 x11 => k (.mk r0 (.mk x0 x1 x2 x3 x4 x5 x6 x7 x8 v x10 x11) r2 r3 r4 r5 r6 r7 r8 r9 r10 r11 r12)) r1) e
theorem pt21 : PutOk p21 21 := fun v e k => by
  have h := put_ok eg1 ep1 ip9 (t := 21) rfl rfl v e k
  cases e with | mk r0 r1 r2 r3 r4 r5 r6 r7 r8 r9 r10 r11 r12 => cases r1; exact h
noncomputable def t22 : Get := fun e k => Env.rec (motive := fun _ => Bool) (fun r0 r1 r2 r3 r4 r5 r6 r7 r8 r9 r10 r11 r12 => ERow.rec (motive := fun _ => Bool) (fun x0 x1 x2 x3 x4 x5 x6 x7 x8 x9 x10 x11 => k x10) r1) e
theorem gt22 : GetOk t22 22 := fun e k => by cases e with | mk r0 r1 r2 r3 r4 r5 r6 r7 r8 r9 r10 r11 r12 => cases r1; rfl
noncomputable def p22 : Put := fun v e k => Env.rec (motive := fun _ => Bool) (fun r0 r1 r2 r3 r4 r5 r6 r7 r8 r9 r10 r11 r12 => ERow.rec (motive := fun _ => Bool) (fun x0 x1 x2 x3 x4 x5 x6 x7 x8 x9 x10 x11 => k (.mk r0 (.mk x0 x1 x2 x3 x4 x5 x6 x7 x8 x9 v x11) r2 r3 r4 r5 r6 r7 r8 r9 r10 r11 r12)) r1) e
theorem pt22 : PutOk p22 22 := fun v e k => by
  have h := put_ok eg1 ep1 ip10 (t := 22) rfl rfl v e k
  cases e with | mk r0 r1 r2 r3 r4 r5 r6 r7 r8 r9 r10 r11 r12 => cases r1; exact h
noncomputable def t23 : Get := fun e k => Env.rec (motive := fun _ => Bool) (fun r0 r1 r2 r3 r4 r5 r6 r7 r8 r9 r10 r11 r12 => ERow.rec (motive := fun _ => Bool) (fun x0 x1 x2 x3 x4 x5 x6 x7 x8 x9 x10 x11 => k x11) r1) e
theorem gt23 : GetOk t23 23 := fun e k => by cases e with | mk r0 r1 r2 r3 r4 r5 r6 r7 r8 r9 r10 r11 r12 => cases r1; rfl
noncomputable def p23 : Put := fun v e k => Env.rec (motive := fun _ => Bool) (fun r0 r1 r2 r3 r4 r5 r6 r7 r8 r9 r10 r11 r12 => ERow.rec (motive := fun _ => Bool) (fun x0 x1 x2 x3 x4 x5 x6 x7 x8 x9 x10 x11 => k (.mk r0 (.mk x0 x1 x2 x3 x4 x5 x6 x7 x8 x9 x10 v) r2 r3 r4 r5 r6 r7 r8 r9 r10 r11 r12)) r1) e
theorem pt23 : PutOk p23 23 := fun v e k => by
  have h := put_ok eg1 ep1 ip11 (t := 23) rfl rfl v e k
  cases e with | mk r0 r1 r2 r3 r4 r5 r6 r7 r8 r9 r10 r11 r12 => cases r1; exact h
noncomputable def t24 : Get := fun e k => Env.rec (motive := fun _ => Bool) (fun r0 r1 r2 r3 r4 r5 r6 r7 r8 r9 r10 r11 r12 => ERow.rec (motive := fun _ => Bool) (fun x0 x1 x2 x3 x4 x5 x6 x7 x8 x9 x10 x11 => k x0) r2) e
theorem gt24 : GetOk t24 24 := fun e k => by cases e with | mk r0 r1 r2 r3 r4 r5 r6 r7 r8 r9 r10 r11 r12 => cases r2; rfl
noncomputable def p24 : Put := fun v e k => Env.rec (motive := fun _ => Bool) (fun r0 r1 r2 r3 r4 r5 r6 r7 r8 r9 r10 r11 r12 => ERow.rec (motive := fun _ => Bool) (fun x0 x1 x2 x3 x4 x5 x6 x7 x8 x9 x10 x11 => k (.mk r0 r1 (.mk v x1 x2 x3 x4 x5 x6 x7 x8 x9 x10 x11) r3 r4 r5 r6 r7 r8 r9 r10 r11 r12)) r2) e
theorem pt24 : PutOk p24 24 := fun v e k => by
  have h := put_ok eg2 ep2 ip0 (t := 24) rfl rfl v e k
  cases e with | mk r0 r1 r2 r3 r4 r5 r6 r7 r8 r9 r10 r11 r12 => cases r2; exact h
noncomputable def t25 : Get := fun e k => Env.rec (motive := fun _ => Bool) (fun r0 r1 r2 r3 r4 r5 r6 r7 r8 r9 r10 r11 r12 => ERow.rec (motive := fun _ => Bool) (fun x0 x1 x2 x3 x4 x5 x6 x7 x8 x9 x10 x11 => k x1) r2) e
theorem gt25 : GetOk t25 25 := fun e k => by cases e with | mk r0 r1 r2 r3 r4 r5 r6 r7 r8 r9 r10 r11 r12 => cases r2; rfl
noncomputable def p25 : Put := fun v e k => Env.rec (motive := fun _ => Bool) (fun r0 r1 r2 r3 r4 r5 r6 r7 r8 r9 r10 r11 r12 => ERow.rec (motive := fun _ => Bool) (fun x0 x1 x2 x3 x4 x5 x6 x7 x8 x9 x10 x11 => k (.mk r0 r1 (.mk x0 v x2 x3 x4 x5 x6 x7 x8 x9 x10 x11) r3 r4 r5 r6 r7 r8 r9 r10 r11 r12)) r2) e
theorem pt25 : PutOk p25 25 := fun v e k => by
  have h := put_ok eg2 ep2 ip1 (t := 25) rfl rfl v e k
  cases e with | mk r0 r1 r2 r3 r4 r5 r6 r7 r8 r9 r10 r11 r12 => cases r2; exact h
noncomputable def t26 : Get := fun e k => Env.rec (motive := fun _ => Bool) (fun r0 r1 r2 r3 r4 r5 r6 r7 r8 r9 r10 r11 r12 => ERow.rec (motive := fun _ => Bool) (fun x0 x1 x2 x3 x4 x5 x6 x7 x8 x9 x10 x11 => k x2) r2) e
theorem gt26 : GetOk t26 26 := fun e k => by cases e with | mk r0 r1 r2 r3 r4 r5 r6 r7 r8 r9 r10 r11 r12 => cases r2; rfl
noncomputable def p26 : Put := fun v e k => Env.rec (motive := fun _ => Bool) (fun r0 r1 r2 r3 r4 r5 r6 r7 r8 r9 r10 r11 r12 => ERow.rec (motive := fun _ => Bool) (fun x0 x1 x2 x3 x4 x5 x6 x7 x8 x9 x10 x11 => k (.mk r0 r1 (.mk x0 x1 v x3 x4 x5 x6 x7 x8 x9 x10 x11) r3 r4 r5 r6 r7 r8 r9 r10 r11 r12)) r2) e
theorem pt26 : PutOk p26 26 := fun v e k => by
  have h := put_ok eg2 ep2 ip2 (t := 26) rfl rfl v e k
  cases e with | mk r0 r1 r2 r3 r4 r5 r6 r7 r8 r9 r10 r11 r12 => cases r2; exact h
noncomputable def t27 : Get := fun e k => Env.rec (motive := fun _ => Bool) (fun r0 r1 r2 r3 r4 r5 r6 r7 r8 r9 r10 r11 r12 => ERow.rec (motive := fun _ => Bool) (fun x0 x1 x2 x3 x4 x5 x6 x7 x8 x9 x10 x11 => k x3) r2) e
theorem gt27 : GetOk t27 27 := fun e k => by cases e with | mk r0 r1 r2 r3 r4 r5 r6 r7 r8 r9 r10 r11 r12 => cases r2; rfl
noncomputable def p27 : Put := fun v e k => Env.rec (motive := fun _ => Bool) (fun r0 r1 r2 r3 r4 r5 r6 r7 r8 r9 r10 r11 r12 => ERow.rec (motive := fun _ => Bool) (fun x0 x1 x2 x3 x4 x5 x6 x7 x8 x9 x10 x11 => k (.mk r0 r1 (.mk x0 x1 x2 v x4 x5 x6 x7 x8 x9 x10 x11) r3 r4 r5 r6 r7 r8 r9 r10 r11 r12)) r2) e
theorem pt27 : PutOk p27 27 := fun v e k => by
  have h := put_ok eg2 ep2 ip3 (t := 27) rfl rfl v e k
  cases e with | mk r0 r1 r2 r3 r4 r5 r6 r7 r8 r9 r10 r11 r12 => cases r2; exact h
noncomputable def t28 : Get := fun e k => Env.rec (motive := fun _ => Bool) (fun r0 r1 r2 r3 r4 r5 r6 r7 r8 r9 r10 r11 r12 => ERow.rec (motive := fun _ => Bool) (fun x0 x1 x2 x3 x4 x5 x6 x7 x8 x9 x10 x11 => k x4) r2) e
theorem gt28 : GetOk t28 28 := fun e k => by cases e with | mk r0 r1 r2 r3 r4 r5 r6 r7 r8 r9 r10 r11 r12 => cases r2; rfl
noncomputable def p28 : Put := fun v e k => Env.rec (motive := fun _ => Bool) (fun r0 r1 r2 r3 r4 r5 r6 r7 r8 r9 r10 r11 r12 => ERow.rec (motive := fun _ => Bool) (fun x0 x1 x2 x3 x4 x5 x6 x7 x8 x9 x10 x11 => k (.mk r0 r1 (.mk x0 x1 x2 x3 v x5 x6 x7 x8 x9 x10 x11) r3 r4 r5 r6 r7 r8 r9 r10 r11 r12)) r2) e
theorem pt28 : PutOk p28 28 := fun v e k => by
  have h := put_ok eg2 ep2 ip4 (t := 28) rfl rfl v e k
  cases e with | mk r0 r1 r2 r3 r4 r5 r6 r7 r8 r9 r10 r11 r12 => cases r2; exact h
noncomputable def t29 : Get := fun e k => Env.rec (motive := fun _ => Bool) (fun r0 r1 r2 r3 r4 r5 r6 r7 r8 r9 r10 r11 r12 => ERow.rec (motive := fun _ => Bool) (fun x0 x1 x2 x3 x4 x5 x6 x7 x8 x9 x10 x11 => k x5) r2) e
theorem gt29 : GetOk t29 29 := fun e k => by cases e with | mk r0 r1 r2 r3 r4 r5 r6 r7 r8 r9 r10 r11 r12 => cases r2; rfl
noncomputable def p29 : Put := fun v e k => Env.rec (motive := fun _ => Bool) (fun r0 r1 r2 r3 r4 r5 r6 r7 r8 r9 r10 r11 r12 => ERow.rec (motive := fun _ => Bool) (fun x0 x1 x2 x3 x4 x5 x6 x7 x8 x9 x10 x11 => k (.mk r0 r1 (.mk x0 x1 x2 x3 x4 v x6 x7 x8 x9 x10 x11) r3 r4 r5 r6 r7 r8 r9 r10 r11 r12)) r2) e
theorem pt29 : PutOk p29 29 := fun v e k => by
  have h := put_ok eg2 ep2 ip5 (t := 29) rfl rfl v e k
  cases e with | mk r0 r1 r2 r3 r4 r5 r6 r7 r8 r9 r10 r11 r12 => cases r2; exact h
noncomputable def t30 : Get := fun e k => Env.rec (motive := fun _ => Bool) (fun r0 r1 r2 r3 r4 r5 r6 r7 r8 r9 r10 r11 r12 => ERow.rec (motive := fun _ => Bool) (fun x0 x1 x2 x3 x4 x5 x6 x7 x8 x9 x10 x11 => k x6) r2) e
theorem gt30 : GetOk t30 30 := fun e k => by cases e with | mk r0 r1 r2 r3 r4 r5 r6 r7 r8 r9 r10 r11 r12 => cases r2; rfl
noncomputable def p30 : Put := fun v e k => Env.rec (motive := fun _ => Bool) (fun r0 r1 r2 r3 r4 r5 r6 r7 r8 r9 r10 r11 r12 => ERow.rec (motive := fun _ => Bool) (fun x0 x1 x2 x3 x4 x5 x6 x7 x8 x9 x10 x11 => k (.mk r0 r1 (.mk x0 x1 x2 x3 x4 x5 v x7 x8 x9 x10 x11) r3 r4 r5 r6 r7 r8 r9 r10 r11 r12)) r2) e
theorem pt30 : PutOk p30 30 := fun v e k => by
  have h := put_ok eg2 ep2 ip6 (t := 30) rfl rfl v e k
  cases e with | mk r0 r1 r2 r3 r4 r5 r6 r7 r8 r9 r10 r11 r12 => cases r2; exact h
noncomputable def t31 : Get := fun e k => Env.rec (motive := fun _ => Bool) (fun r0 r1 r2 r3 r4 r5 r6 r7 r8 r9 r10 r11 r12 => ERow.rec (motive := fun _ => Bool) (fun x0 x1 x2 x3 x4 x5 x6 x7 x8 x9 x10 x11 => k x7) r2) e
theorem gt31 : GetOk t31 31 := fun e k => by cases e with | mk r0 r1 r2 r3 r4 r5 r6 r7 r8 r9 r10 r11 r12 => cases r2; rfl
noncomputable def p31 : Put := fun v e k => Env.rec (motive := fun _ => Bool) (fun r0 r1 r2 r3 r4 r5 r6 r7 r8 r9 r10 r11 r12 => ERow.rec (motive := fun _ => Bool) (fun x0 x1 x2 x3 x4 x5 x6 x7 x8 x9 x10 x11 => k (.mk r0 r1 (.mk x0 x1 x2 x3 x4 x5 x6 v x8 x9 x10 x11) r3 r4 r5 r6 r7 r8 r9 r10 r11 r12)) r2) e
theorem pt31 : PutOk p31 31 := fun v e k => by
  have h := put_ok eg2 ep2 ip7 (t := 31) rfl rfl v e k
  cases e with | mk r0 r1 r2 r3 r4 r5 r6 r7 r8 r9 r10 r11 r12 => cases r2; exact h
noncomputable def t32 : Get := fun e k => Env.rec (motive := fun _ => Bool) (fun r0 r1 r2 r3 r4 r5 r6 r7 r8 r9 r10 r11 r12 => ERow.rec (motive := fun _ => Bool) (fun x0 x1 x2 x3 x4 x5 x6 x7 x8 x9 x10 x11 => k x8) r2) e
theorem gt32 : GetOk t32 32 := fun e k => by cases e with | mk r0 r1 r2 r3 r4 r5 r6 r7 r8 r9 r10 r11 r12 => cases r2; rfl
noncomputable def p32 : Put := fun v e k => Env.rec (motive := fun _ => Bool) (fun r0 r1 r2 r3 r4 r5 r6 r7 r8 r9 r10 r11 r12 => ERow.rec (motive := fun _ => Bool) (fun x0 x1 x2 x3 x4 x5 x6 x7 x8 x9 x10 x11 => k (.mk r0 r1 (.mk x0 x1 x2 x3 x4 x5 x6 x7 v x9 x10 x11) r3 r4 r5 r6 r7 r8 r9 r10 r11 r12)) r2) e
theorem pt32 : PutOk p32 32 := fun v e k => by
  have h := put_ok eg2 ep2 ip8 (t := 32) rfl rfl v e k
  cases e with | mk r0 r1 r2 r3 r4 r5 r6 r7 r8 r9 r10 r11 r12 => cases r2; exact h
noncomputable def t33 : Get := fun e k => Env.rec (motive := fun _ => Bool) (fun r0 r1 r2 r3 r4 r5 r6 r7 r8 r9 r10 r11 r12 => ERow.rec (motive := fun _ => Bool) (fun x0 x1 x2 x3 x4 x5 x6 x7 x8 x9 x10 x11 => k x9) r2) e
theorem gt33 : GetOk t33 33 := fun e k => by cases e with | mk r0 r1 r2 r3 r4 r5 r6 r7 r8 r9 r10 r11 r12 => cases r2; rfl
noncomputable def p33 : Put := fun v e k => Env.rec (motive := fun _ => Bool) (fun r0 r1 r2 r3 r4 r5 r6 r7 r8 r9 r10 r11 r12 => ERow.rec (motive := fun _ => Bool) (fun x0 x1 x2 x3 x4 x5 x6 x7 x8 x9 x10 x11 => k (.mk r0 r1 (.mk x0 x1 x2 x3 x4 x5 x6 x7 x8 v x10 x11) r3 r4 r5 r6 r7 r8 r9 r10 r11 r12)) r2) e
theorem pt33 : PutOk p33 33 := fun v e k => by
  have h := put_ok eg2 ep2 ip9 (t := 33) rfl rfl v e k
  cases e with | mk r0 r1 r2 r3 r4 r5 r6 r7 r8 r9 r10 r11 r12 => cases r2; exact h
noncomputable def t34 : Get := fun e k => Env.rec (motive := fun _ => Bool) (fun r0 r1 r2 r3 r4 r5 r6 r7 r8 r9 r10 r11 r12 => ERow.rec (motive := fun _ => Bool) (fun x0 x1 x2 x3 x4 x5 x6 x7 x8 x9 x10 x11 => k x10) r2) e
theorem gt34 : GetOk t34 34 := fun e k => by cases e with | mk r0 r1 r2 r3 r4 r5 r6 r7 r8 r9 r10 r11 r12 => cases r2; rfl
noncomputable def p34 : Put := fun v e k => Env.rec (motive := fun _ => Bool) (fun r0 r1 r2 r3 r4 r5 r6 r7 r8 r9 r10 r11 r12 => ERow.rec (motive := fun _ => Bool) (fun x0 x1 x2 x3 x4 x5 x6 x7 x8 x9 x10 x11 => k (.mk r0 r1 (.mk x0 x1 x2 x3 x4 x5 x6 x7 x8 x9 v x11) r3 r4 r5 r6 r7 r8 r9 r10 r11 r12)) r2) e
theorem pt34 : PutOk p34 34 := fun v e k => by
  have h := put_ok eg2 ep2 ip10 (t := 34) rfl rfl v e k
  cases e with | mk r0 r1 r2 r3 r4 r5 r6 r7 r8 r9 r10 r11 r12 => cases r2; exact h
noncomputable def t35 : Get := fun e k => Env.rec (motive := fun _ => Bool) (fun r0 r1 r2 r3 r4 r5 r6 r7 r8 r9 r10 r11 r12 => ERow.rec (motive := fun _ => Bool) (fun x0 x1 x2 x3 x4 x5 x6 x7 x8 x9 x10 x11 => k x11) r2) e
theorem gt35 : GetOk t35 35 := fun e k => by cases e with | mk r0 r1 r2 r3 r4 r5 r6 r7 r8 r9 r10 r11 r12 => cases r2; rfl
noncomputable def p35 : Put := fun v e k => Env.rec (motive := fun _ => Bool) (fun r0 r1 r2 r3 r4 r5 r6 r7 r8 r9 r10 r11 r12 => ERow.rec (motive := fun _ => Bool) (fun x0 x1 x2 x3 x4 x5 x6 x7 x8 x9 x10 x11 => k (.mk r0 r1 (.mk x0 x1 x2 x3 x4 x5 x6 x7 x8 x9 x10 v) r3 r4 r5 r6 r7 r8 r9 r10 r11 r12)) r2) e
theorem pt35 : PutOk p35 35 := fun v e k => by
  have h := put_ok eg2 ep2 ip11 (t := 35) rfl rfl v e k
  cases e with | mk r0 r1 r2 r3 r4 r5 r6 r7 r8 r9 r10 r11 r12 => cases r2; exact h
noncomputable def t36 : Get := fun e k => Env.rec (motive := fun _ => Bool) (fun r0 r1 r2 r3 r4 r5 r6 r7 r8 r9 r10 r11 r12 => ERow.rec (motive := fun _ => Bool) (fun x0 x1 x2 x3 x4 x5 x6 x7 x8 x9 x10 x11 => k x0) r3) e
theorem gt36 : GetOk t36 36 := fun e k => by cases e with | mk r0 r1 r2 r3 r4 r5 r6 r7 r8 r9 r10 r11 r12 => cases r3; rfl
noncomputable def p36 : Put := fun v e k => Env.rec (motive := fun _ => Bool) (fun r0 r1 r2 r3 r4 r5 r6 r7 r8 r9 r10 r11 r12 => ERow.rec (motive := fun _ => Bool) (fun x0 x1 x2 x3 x4 x5 x6 x7 x8 x9 x10 x11 => k (.mk r0 r1 r2 (.mk v x1 x2 x3 x4 x5 x6 x7 x8 x9 x10 x11) r4 r5 r6 r7 r8 r9 r10 r11 r12)) r3) e
theorem pt36 : PutOk p36 36 := fun v e k => by
  have h := put_ok eg3 ep3 ip0 (t := 36) rfl rfl v e k
  cases e with | mk r0 r1 r2 r3 r4 r5 r6 r7 r8 r9 r10 r11 r12 => cases r3; exact h
noncomputable def t37 : Get := fun e k => Env.rec (motive := fun _ => Bool) (fun r0 r1 r2 r3 r4 r5 r6 r7 r8 r9 r10 r11 r12 => ERow.rec (motive := fun _ => Bool) (fun x0 x1 x2 x3 x4 x5 x6 x7 x8 x9 x10 x11 => k x1) r3) e
theorem gt37 : GetOk t37 37 := fun e k => by cases e with | mk r0 r1 r2 r3 r4 r5 r6 r7 r8 r9 r10 r11 r12 => cases r3; rfl
noncomputable def p37 : Put := fun v e k => Env.rec (motive := fun _ => Bool) (fun r0 r1 r2 r3 r4 r5 r6 r7 r8 r9 r10 r11 r12 => ERow.rec (motive := fun _ => Bool) (fun x0 x1 x2 x3 x4 x5 x6 x7 x8 x9 x10 x11 => k (.mk r0 r1 r2 (.mk x0 v x2 x3 x4 x5 x6 x7 x8 x9 x10 x11) r4 r5 r6 r7 r8 r9 r10 r11 r12)) r3) e
theorem pt37 : PutOk p37 37 := fun v e k => by
  have h := put_ok eg3 ep3 ip1 (t := 37) rfl rfl v e k
  cases e with | mk r0 r1 r2 r3 r4 r5 r6 r7 r8 r9 r10 r11 r12 => cases r3; exact h
noncomputable def t38 : Get := fun e k => Env.rec (motive := fun _ => Bool) (fun r0 r1 r2 r3 r4 r5 r6 r7 r8 r9 r10 r11 r12 => ERow.rec (motive := fun _ => Bool) (fun x0 x1 x2 x3 x4 x5 x6 x7 x8 x9 x10 x11 => k x2) r3) e
theorem gt38 : GetOk t38 38 := fun e k => by cases e with | mk r0 r1 r2 r3 r4 r5 r6 r7 r8 r9 r10 r11 r12 => cases r3; rfl
noncomputable def p38 : Put := fun v e k => Env.rec (motive := fun _ => Bool) (fun r0 r1 r2 r3 r4 r5 r6 r7 r8 r9 r10 r11 r12 => ERow.rec (motive := fun _ => Bool) (fun x0 x1 x2 x3 x4 x5 x6 x7 x8 x9 x10 x11 => k (.mk r0 r1 r2 (.mk x0 x1 v x3 x4 x5 x6 x7 x8 x9 x10 x11) r4 r5 r6 r7 r8 r9 r10 r11 r12)) r3) e
theorem pt38 : PutOk p38 38 := fun v e k => by
  have h := put_ok eg3 ep3 ip2 (t := 38) rfl rfl v e k
  cases e with | mk r0 r1 r2 r3 r4 r5 r6 r7 r8 r9 r10 r11 r12 => cases r3; exact h
noncomputable def t39 : Get := fun e k => Env.rec (motive := fun _ => Bool) (fun r0 r1 r2 r3 r4 r5 r6 r7 r8 r9 r10 r11 r12 => ERow.rec (motive := fun _ => Bool) (fun x0 x1 x2 x3 x4 x5 x6 x7 x8 x9 x10 x11 => k x3) r3) e
theorem gt39 : GetOk t39 39 := fun e k => by cases e with | mk r0 r1 r2 r3 r4 r5 r6 r7 r8 r9 r10 r11 r12 => cases r3; rfl
noncomputable def p39 : Put := fun v e k => Env.rec (motive := fun _ => Bool) (fun r0 r1 r2 r3 r4 r5 r6 r7 r8 r9 r10 r11 r12 => ERow.rec (motive := fun _ => Bool) (fun x0 x1 x2 x3 x4 x5 x6 x7 x8 x9 x10 x11 => k (.mk r0 r1 r2 (.mk x0 x1 x2 v x4 x5 x6 x7 x8 x9 x10 x11) r4 r5 r6 r7 r8 r9 r10 r11 r12)) r3) e
theorem pt39 : PutOk p39 39 := fun v e k => by
  have h := put_ok eg3 ep3 ip3 (t := 39) rfl rfl v e k
  cases e with | mk r0 r1 r2 r3 r4 r5 r6 r7 r8 r9 r10 r11 r12 => cases r3; exact h
noncomputable def t40 : Get := fun e k => Env.rec (motive := fun _ => Bool) (fun r0 r1 r2 r3 r4 r5 r6 r7 r8 r9 r10 r11 r12 => ERow.rec (motive := fun _ => Bool) (fun x0 x1 x2 x3 x4 x5 x6 x7 x8 x9 x10 x11 => k x4) r3) e
theorem gt40 : GetOk t40 40 := fun e k => by cases e with | mk r0 r1 r2 r3 r4 r5 r6 r7 r8 r9 r10 r11 r12 => cases r3; rfl
noncomputable def p40 : Put := fun v e k => Env.rec (motive := fun _ => Bool) (fun r0 r1 r2 r3 r4 r5 r6 r7 r8 r9 r10 r11 r12 => ERow.rec (motive := fun _ => Bool) (fun x0 x1 x2 x3 x4 x5 x6 x7 x8 x9 x10 x11 => k (.mk r0 r1 r2 (.mk x0 x1 x2 x3 v x5 x6 x7 x8 x9 x10 x11) r4 r5 r6 r7 r8 r9 r10 r11 r12)) r3) e
theorem pt40 : PutOk p40 40 := fun v e k => by
  have h := put_ok eg3 ep3 ip4 (t := 40) rfl rfl v e k
  cases e with | mk r0 r1 r2 r3 r4 r5 r6 r7 r8 r9 r10 r11 r12 => cases r3; exact h
noncomputable def t41 : Get := fun e k => Env.rec (motive := fun _ => Bool) (fun r0 r1 r2 r3 r4 r5 r6 r7 r8 r9 r10 r11 r12 => ERow.rec (motive := fun _ => Bool) (fun x0 x1 x2 x3 x4 x5 x6 x7 x8 x9 x10 x11 => k x5) r3) e
theorem gt41 : GetOk t41 41 := fun e k => by cases e with | mk r0 r1 r2 r3 r4 r5 r6 r7 r8 r9 r10 r11 r12 => cases r3; rfl
noncomputable def p41 : Put := fun v e k => Env.rec (motive := fun _ => Bool) (fun r0 r1 r2 r3 r4 r5 r6 r7 r8 r9 r10 r11 r12 => ERow.rec (motive := fun _ => Bool) (fun x0 x1 x2 x3 x4 x5 x6 x7 x8 x9 x10 x11 => k (.mk r0 r1 r2 (.mk x0 x1 x2 x3 x4 v x6 x7 x8 x9 x10 x11) r4 r5 r6 r7 r8 r9 r10 r11 r12)) r3) e
theorem pt41 : PutOk p41 41 := fun v e k => by
  have h := put_ok eg3 ep3 ip5 (t := 41) rfl rfl v e k
  cases e with | mk r0 r1 r2 r3 r4 r5 r6 r7 r8 r9 r10 r11 r12 => cases r3; exact h
noncomputable def t42 : Get := fun e k => Env.rec (motive := fun _ => Bool) (fun r0 r1 r2 r3 r4 r5 r6 r7 r8 r9 r10 r11 r12 => ERow.rec (motive := fun _ => Bool) (fun x0 x1 x2 x3 x4 x5 x6 x7 x8 x9 x10 x11 => k x6) r3) e
theorem gt42 : GetOk t42 42 := fun e k => by cases e with | mk r0 r1 r2 r3 r4 r5 r6 r7 r8 r9 r10 r11 r12 => cases r3; rfl
noncomputable def p42 : Put := fun v e k => Env.rec (motive := fun _ => Bool) (fun r0 r1 r2 r3 r4 r5 r6 r7 r8 r9 r10 r11 r12 => ERow.rec (motive := fun _ => Bool) (fun x0 x1 x2 x3 x4 x5 x6 x7 x8 x9 x10 x11 => k (.mk r0 r1 r2 (.mk x0 x1 x2 x3 x4 x5 v x7 x8 x9 x10 x11) r4 r5 r6 r7 r8 r9 r10 r11 r12)) r3) e
theorem pt42 : PutOk p42 42 := fun v e k => by
  have h := put_ok eg3 ep3 ip6 (t := 42) rfl rfl v e k
  cases e with | mk r0 r1 r2 r3 r4 r5 r6 r7 r8 r9 r10 r11 r12 => cases r3; exact h
noncomputable def t43 : Get := fun e k => Env.rec (motive := fun _ => Bool) (fun r0 r1 r2 r3 r4 r5 r6 r7 r8 r9 r10 r11 r12 => ERow.rec (motive := fun _ => Bool) (fun x0 x1 x2 x3 x4 x5 x6 x7 x8 x9 x10 x11 => k x7) r3) e
theorem gt43 : GetOk t43 43 := fun e k => by cases e with | mk r0 r1 r2 r3 r4 r5 r6 r7 r8 r9 r10 r11 r12 => cases r3; rfl
noncomputable def p43 : Put := fun v e k => Env.rec (motive := fun _ => Bool) (fun r0 r1 r2 r3 r4 r5 r6 r7 r8 r9 r10 r11 r12 => ERow.rec (motive := fun _ => Bool) (fun x0 x1 x2 x3 x4 x5 x6 x7 x8 x9 x10 x11 => k (.mk r0 r1 r2 (.mk x0 x1 x2 x3 x4 x5 x6 v x8 x9 x10 x11) r4 r5 r6 r7 r8 r9 r10 r11 r12)) r3) e
theorem pt43 : PutOk p43 43 := fun v e k => by
  have h := put_ok eg3 ep3 ip7 (t := 43) rfl rfl v e k
  cases e with | mk r0 r1 r2 r3 r4 r5 r6 r7 r8 r9 r10 r11 r12 => cases r3; exact h
noncomputable def t44 : Get := fun e k => Env.rec (motive := fun _ => Bool) (fun r0 r1 r2 r3 r4 r5 r6 r7 r8 r9 r10 r11 r12 => ERow.rec (motive := fun _ => Bool) (fun x0 x1 x2 x3 x4 x5 x6 x7 x8 x9 x10 x11 => k x8) r3) e
theorem gt44 : GetOk t44 44 := fun e k => by cases e with | mk r0 r1 r2 r3 r4 r5 r6 r7 r8 r9 r10 r11 r12 => cases r3; rfl
noncomputable def p44 : Put := fun v e k => Env.rec (motive := fun _ => Bool) (fun r0 r1 r2 r3 r4 r5 r6 r7 r8 r9 r10 r11 r12 => ERow.rec (motive := fun _ => Bool) (fun x0 x1 x2 x3 x4 x5 x6 x7 x8 x9 x10 x11 => k (.mk r0 r1 r2 (.mk x0 x1 x2 x3 x4 x5 x6 x7 v x9 x10 x11) r4 r5 r6 r7 r8 r9 r10 r11 r12)) r3) e
theorem pt44 : PutOk p44 44 := fun v e k => by
  have h := put_ok eg3 ep3 ip8 (t := 44) rfl rfl v e k
  cases e with | mk r0 r1 r2 r3 r4 r5 r6 r7 r8 r9 r10 r11 r12 => cases r3; exact h
noncomputable def t45 : Get := fun e k => Env.rec (motive := fun _ => Bool) (fun r0 r1 r2 r3 r4 r5 r6 r7 r8 r9 r10 r11 r12 => ERow.rec (motive := fun _ => Bool) (fun x0 x1 x2 x3 x4 x5 x6 x7 x8 x9 x10 x11 => k x9) r3) e
theorem gt45 : GetOk t45 45 := fun e k => by cases e with | mk r0 r1 r2 r3 r4 r5 r6 r7 r8 r9 r10 r11 r12 => cases r3; rfl
noncomputable def p45 : Put := fun v e k => Env.rec (motive := fun _ => Bool) (fun r0 r1 r2 r3 r4 r5 r6 r7 r8 r9 r10 r11 r12 => ERow.rec (motive := fun _ => Bool) (fun x0 x1 x2 x3 x4 x5 x6 x7 x8 x9 x10 x11 => k (.mk r0 r1 r2 (.mk x0 x1 x2 x3 x4 x5 x6 x7 x8 v x10 x11) r4 r5 r6 r7 r8 r9 r10 r11 r12)) r3) e
theorem pt45 : PutOk p45 45 := fun v e k => by
  have h := put_ok eg3 ep3 ip9 (t := 45) rfl rfl v e k
  cases e with | mk r0 r1 r2 r3 r4 r5 r6 r7 r8 r9 r10 r11 r12 => cases r3; exact h
noncomputable def t46 : Get := fun e k => Env.rec (motive := fun _ => Bool) (fun r0 r1 r2 r3 r4 r5 r6 r7 r8 r9 r10 r11 r12 => ERow.rec (motive := fun _ => Bool) (fun x0 x1 x2 x3 x4 x5 x6 x7 x8 x9 x10 x11 => k x10) r3) e
theorem gt46 : GetOk t46 46 := fun e k => by cases e with | mk r0 r1 r2 r3 r4 r5 r6 r7 r8 r9 r10 r11 r12 => cases r3; rfl
noncomputable def p46 : Put := fun v e k => Env.rec (motive := fun _ => Bool) (fun r0 r1 r2 r3 r4 r5 r6 r7 r8 r9 r10 r11 r12 => ERow.rec (motive := fun _ => Bool) (fun x0 x1 x2 x3 x4 x5 x6 x7 x8 x9 x10 x11 => k (.mk r0 r1 r2 (.mk x0 x1 x2 x3 x4 x5 x6 x7 x8 x9 v x11) r4 r5 r6 r7 r8 r9 r10 r11 r12)) r3) e
theorem pt46 : PutOk p46 46 := fun v e k => by
  have h := put_ok eg3 ep3 ip10 (t := 46) rfl rfl v e k
  cases e with | mk r0 r1 r2 r3 r4 r5 r6 r7 r8 r9 r10 r11 r12 => cases r3; exact h
noncomputable def t47 : Get := fun e k => Env.rec (motive := fun _ => Bool) (fun r0 r1 r2 r3 r4 r5 r6 r7 r8 r9 r10 r11 r12 => ERow.rec (motive := fun _ => Bool) (fun x0 x1 x2 x3 x4 x5 x6 x7 x8 x9 x10 x11 => k x11) r3) e
theorem gt47 : GetOk t47 47 := fun e k => by cases e with | mk r0 r1 r2 r3 r4 r5 r6 r7 r8 r9 r10 r11 r12 => cases r3; rfl
noncomputable def p47 : Put := fun v e k => Env.rec (motive := fun _ => Bool) (fun r0 r1 r2 r3 r4 r5 r6 r7 r8 r9 r10 r11 r12 => ERow.rec (motive := fun _ => Bool) (fun x0 x1 x2 x3 x4 x5 x6 x7 x8 x9 x10 x11 => k (.mk r0 r1 r2 (.mk x0 x1 x2 x3 x4 x5 x6 x7 x8 x9 x10 v) r4 r5 r6 r7 r8 r9 r10 r11 r12)) r3) e
theorem pt47 : PutOk p47 47 := fun v e k => by
  have h := put_ok eg3 ep3 ip11 (t := 47) rfl rfl v e k
  cases e with | mk r0 r1 r2 r3 r4 r5 r6 r7 r8 r9 r10 r11 r12 => cases r3; exact h
noncomputable def t48 : Get := fun e k => Env.rec (motive := fun _ => Bool) (fun r0 r1 r2 r3 r4 r5 r6 r7 r8 r9 r10 r11 r12 => ERow.rec (motive := fun _ => Bool) (fun x0 x1 x2 x3 x4 x5 x6 x7 x8 x9 x10 x11 => k x0) r4) e
theorem gt48 : GetOk t48 48 := fun e k => by cases e with | mk r0 r1 r2 r3 r4 r5 r6 r7 r8 r9 r10 r11 r12 => cases r4; rfl
noncomputable def p48 : Put := fun v e k => Env.rec (motive := fun _ => Bool) (fun r0 r1 r2 r3 r4 r5 r6 r7 r8 r9 r10 r11 r12 => ERow.rec (motive := fun _ => Bool) (fun x0 x1 x2 x3 x4 x5 x6 x7 x8 x9 x10 x11 => k (.mk r0 r1 r2 r3 (.mk v x1 x2 x3 x4 x5 x6 x7 x8 x9 x10 x11) r5 r6 r7 r8 r9 r10 r11 r12)) r4) e
theorem pt48 : PutOk p48 48 := fun v e k => by
  have h := put_ok eg4 ep4 ip0 (t := 48) rfl rfl v e k
  cases e with | mk r0 r1 r2 r3 r4 r5 r6 r7 r8 r9 r10 r11 r12 => cases r4; exact h
noncomputable def t49 : Get := fun e k => Env.rec (motive := fun _ => Bool) (fun r0 r1 r2 r3 r4 r5 r6 r7 r8 r9 r10 r11 r12 => ERow.rec (motive := fun _ => Bool) (fun x0 x1 x2 x3 x4 x5 x6 x7 x8 x9 x10 x11 => k x1) r4) e
theorem gt49 : GetOk t49 49 := fun e k => by cases e with | mk r0 r1 r2 r3 r4 r5 r6 r7 r8 r9 r10 r11 r12 => cases r4; rfl
noncomputable def p49 : Put := fun v e k => Env.rec (motive := fun _ => Bool) (fun r0 r1 r2 r3 r4 r5 r6 r7 r8 r9 r10 r11 r12 => ERow.rec (motive := fun _ => Bool) (fun x0 x1 x2 x3 x4 x5 x6 x7 x8 x9 x10 x11 => k (.mk r0 r1 r2 r3 (.mk x0 v x2 x3 x4 x5 x6 x7 x8 x9 x10 x11) r5 r6 r7 r8 r9 r10 r11 r12)) r4) e
theorem pt49 : PutOk p49 49 := fun v e k => by
  have h := put_ok eg4 ep4 ip1 (t := 49) rfl rfl v e k
  cases e with | mk r0 r1 r2 r3 r4 r5 r6 r7 r8 r9 r10 r11 r12 => cases r4; exact h
noncomputable def t50 : Get := fun e k => Env.rec (motive := fun _ => Bool) (fun r0 r1 r2 r3 r4 r5 r6 r7 r8 r9 r10 r11 r12 => ERow.rec (motive := fun _ => Bool) (fun x0 x1 x2 x3 x4 x5 x6 x7 x8 x9 x10 x11 => k x2) r4) e
theorem gt50 : GetOk t50 50 := fun e k => by cases e with | mk r0 r1 r2 r3 r4 r5 r6 r7 r8 r9 r10 r11 r12 => cases r4; rfl
noncomputable def p50 : Put := fun v e k => Env.rec (motive := fun _ => Bool) (fun r0 r1 r2 r3 r4 r5 r6 r7 r8 r9 r10 r11 r12 => ERow.rec (motive := fun _ => Bool) (fun x0 x1 x2 x3 x4 x5 x6 x7 x8 x9 x10 x11 => k (.mk r0 r1 r2 r3 (.mk x0 x1 v x3 x4 x5 x6 x7 x8 x9 x10 x11) r5 r6 r7 r8 r9 r10 r11 r12)) r4) e
theorem pt50 : PutOk p50 50 := fun v e k => by
  have h := put_ok eg4 ep4 ip2 (t := 50) rfl rfl v e k
  cases e with | mk r0 r1 r2 r3 r4 r5 r6 r7 r8 r9 r10 r11 r12 => cases r4; exact h
noncomputable def t51 : Get := fun e k => Env.rec (motive := fun _ => Bool) (fun r0 r1 r2 r3 r4 r5 r6 r7 r8 r9 r10 r11 r12 => ERow.rec (motive := fun _ => Bool) (fun x0 x1 x2 x3 x4 x5 x6 x7 x8 x9 x10 x11 => k x3) r4) e
theorem gt51 : GetOk t51 51 := fun e k => by cases e with | mk r0 r1 r2 r3 r4 r5 r6 r7 r8 r9 r10 r11 r12 => cases r4; rfl
noncomputable def p51 : Put := fun v e k => Env.rec (motive := fun _ => Bool) (fun r0 r1 r2 r3 r4 r5 r6 r7 r8 r9 r10 r11 r12 => ERow.rec (motive := fun _ => Bool) (fun x0 x1 x2 x3 x4 x5 x6 x7 x8 x9 x10 x11 => k (.mk r0 r1 r2 r3 (.mk x0 x1 x2 v x4 x5 x6 x7 x8 x9 x10 x11) r5 r6 r7 r8 r9 r10 r11 r12)) r4) e
theorem pt51 : PutOk p51 51 := fun v e k => by
  have h := put_ok eg4 ep4 ip3 (t := 51) rfl rfl v e k
  cases e with | mk r0 r1 r2 r3 r4 r5 r6 r7 r8 r9 r10 r11 r12 => cases r4; exact h
noncomputable def t52 : Get := fun e k => Env.rec (motive := fun _ => Bool) (fun r0 r1 r2 r3 r4 r5 r6 r7 r8 r9 r10 r11 r12 => ERow.rec (motive := fun _ => Bool) (fun x0 x1 x2 x3 x4 x5 x6 x7 x8 x9 x10 x11 => k x4) r4) e
theorem gt52 : GetOk t52 52 := fun e k => by cases e with | mk r0 r1 r2 r3 r4 r5 r6 r7 r8 r9 r10 r11 r12 => cases r4; rfl
noncomputable def p52 : Put := fun v e k => Env.rec (motive := fun _ => Bool) (fun r0 r1 r2 r3 r4 r5 r6 r7 r8 r9 r10 r11 r12 => ERow.rec (motive := fun _ => Bool) (fun x0 x1 x2 x3 x4 x5 x6 x7 x8 x9 x10 x11 => k (.mk r0 r1 r2 r3 (.mk x0 x1 x2 x3 v x5 x6 x7 x8 x9 x10 x11) r5 r6 r7 r8 r9 r10 r11 r12)) r4) e
theorem pt52 : PutOk p52 52 := fun v e k => by
  have h := put_ok eg4 ep4 ip4 (t := 52) rfl rfl v e k
  cases e with | mk r0 r1 r2 r3 r4 r5 r6 r7 r8 r9 r10 r11 r12 => cases r4; exact h
noncomputable def t53 : Get := fun e k => Env.rec (motive := fun _ => Bool) (fun r0 r1 r2 r3 r4 r5 r6 r7 r8 r9 r10 r11 r12 => ERow.rec (motive := fun _ => Bool) (fun x0 x1 x2 x3 x4 x5 x6 x7 x8 x9 x10 x11 => k x5) r4) e
theorem gt53 : GetOk t53 53 := fun e k => by cases e with | mk r0 r1 r2 r3 r4 r5 r6 r7 r8 r9 r10 r11 r12 => cases r4; rfl
noncomputable def p53 : Put := fun v e k => Env.rec (motive := fun _ => Bool) (fun r0 r1 r2 r3 r4 r5 r6 r7 r8 r9 r10 r11 r12 => ERow.rec (motive := fun _ => Bool) (fun x0 x1 x2 x3 x4 x5 x6 x7 x8 x9 x10 x11 => k (.mk r0 r1 r2 r3 (.mk x0 x1 x2 x3 x4 v x6 x7 x8 x9 x10 x11) r5 r6 r7 r8 r9 r10 r11 r12)) r4) e
theorem pt53 : PutOk p53 53 := fun v e k => by
  have h := put_ok eg4 ep4 ip5 (t := 53) rfl rfl v e k
  cases e with | mk r0 r1 r2 r3 r4 r5 r6 r7 r8 r9 r10 r11 r12 => cases r4; exact h
noncomputable def t54 : Get := fun e k => Env.rec (motive := fun _ => Bool) (fun r0 r1 r2 r3 r4 r5 r6 r7 r8 r9 r10 r11 r12 => ERow.rec (motive := fun _ => Bool) (fun x0 x1 x2 x3 x4 x5 x6 x7 x8 x9 x10 x11 => k x6) r4) e
theorem gt54 : GetOk t54 54 := fun e k => by cases e with | mk r0 r1 r2 r3 r4 r5 r6 r7 r8 r9 r10 r11 r12 => cases r4; rfl
noncomputable def p54 : Put := fun v e k => Env.rec (motive := fun _ => Bool) (fun r0 r1 r2 r3 r4 r5 r6 r7 r8 r9 r10 r11 r12 => ERow.rec (motive := fun _ => Bool) (fun x0 x1 x2 x3 x4 x5 x6 x7 x8 x9 x10 x11 => k (.mk r0 r1 r2 r3 (.mk x0 x1 x2 x3 x4 x5 v x7 x8 x9 x10 x11) r5 r6 r7 r8 r9 r10 r11 r12)) r4) e
theorem pt54 : PutOk p54 54 := fun v e k => by
  have h := put_ok eg4 ep4 ip6 (t := 54) rfl rfl v e k
  cases e with | mk r0 r1 r2 r3 r4 r5 r6 r7 r8 r9 r10 r11 r12 => cases r4; exact h
noncomputable def t55 : Get := fun e k => Env.rec (motive := fun _ => Bool) (fun r0 r1 r2 r3 r4 r5 r6 r7 r8 r9 r10 r11 r12 => ERow.rec (motive := fun _ => Bool) (fun x0 x1 x2 x3 x4 x5 x6 x7 x8 x9 x10 x11 => k x7) r4) e
theorem gt55 : GetOk t55 55 := fun e k => by cases e with | mk r0 r1 r2 r3 r4 r5 r6 r7 r8 r9 r10 r11 r12 => cases r4; rfl
noncomputable def p55 : Put := fun v e k => Env.rec (motive := fun _ => Bool) (fun r0 r1 r2 r3 r4 r5 r6 r7 r8 r9 r10 r11 r12 => ERow.rec (motive := fun _ => Bool) (fun x0 x1 x2 x3 x4 x5 x6 x7 x8 x9 x10 x11 => k (.mk r0 r1 r2 r3 (.mk x0 x1 x2 x3 x4 x5 x6 v x8 x9 x10 x11) r5 r6 r7 r8 r9 r10 r11 r12)) r4) e
theorem pt55 : PutOk p55 55 := fun v e k => by
  have h := put_ok eg4 ep4 ip7 (t := 55) rfl rfl v e k
  cases e with | mk r0 r1 r2 r3 r4 r5 r6 r7 r8 r9 r10 r11 r12 => cases r4; exact h
noncomputable def t56 : Get := fun e k => Env.rec (motive := fun _ => Bool) (fun r0 r1 r2 r3 r4 r5 r6 r7 r8 r9 r10 r11 r12 => ERow.rec (motive := fun _ => Bool) (fun x0 x1 x2 x3 x4 x5 x6 x7 x8 x9 x10 x11 => k x8) r4) e
theorem gt56 : GetOk t56 56 := fun e k => by cases e with | mk r0 r1 r2 r3 r4 r5 r6 r7 r8 r9 r10 r11 r12 => cases r4; rfl
noncomputable def p56 : Put := fun v e k => Env.rec (motive := fun _ => Bool) (fun r0 r1 r2 r3 r4 r5 r6 r7 r8 r9 r10 r11 r12 => ERow.rec (motive := fun _ => Bool) (fun x0 x1 x2 x3 x4 x5 x6 x7 x8 x9 x10 x11 => k (.mk r0 r1 r2 r3 (.mk x0 x1 x2 x3 x4 x5 x6 x7 v x9 x10 x11) r5 r6 r7 r8 r9 r10 r11 r12)) r4) e
theorem pt56 : PutOk p56 56 := fun v e k => by
  have h := put_ok eg4 ep4 ip8 (t := 56) rfl rfl v e k
  cases e with | mk r0 r1 r2 r3 r4 r5 r6 r7 r8 r9 r10 r11 r12 => cases r4; exact h
noncomputable def t57 : Get := fun e k => Env.rec (motive := fun _ => Bool) (fun r0 r1 r2 r3 r4 r5 r6 r7 r8 r9 r10 r11 r12 => ERow.rec (motive := fun _ => Bool) (fun x0 x1 x2 x3 x4 x5 x6 x7 x8 x9 x10 x11 => k x9) r4) e
theorem gt57 : GetOk t57 57 := fun e k => by cases e with | mk r0 r1 r2 r3 r4 r5 r6 r7 r8 r9 r10 r11 r12 => cases r4; rfl
noncomputable def p57 : Put := fun v e k => Env.rec (motive := fun _ => Bool) (fun r0 r1 r2 r3 r4 r5 r6 r7 r8 r9 r10 r11 r12 => ERow.rec (motive := fun _ => Bool) (fun x0 x1 x2 x3 x4 x5 x6 x7 x8 x9 x10 x11 => k (.mk r0 r1 r2 r3 (.mk x0 x1 x2 x3 x4 x5 x6 x7 x8 v x10 x11) r5 r6 r7 r8 r9 r10 r11 r12)) r4) e
theorem pt57 : PutOk p57 57 := fun v e k => by
  have h := put_ok eg4 ep4 ip9 (t := 57) rfl rfl v e k
  cases e with | mk r0 r1 r2 r3 r4 r5 r6 r7 r8 r9 r10 r11 r12 => cases r4; exact h
noncomputable def t58 : Get := fun e k => Env.rec (motive := fun _ => Bool) (fun r0 r1 r2 r3 r4 r5 r6 r7 r8 r9 r10 r11 r12 => ERow.rec (motive := fun _ => Bool) (fun x0 x1 x2 x3 x4 x5 x6 x7 x8 x9 x10 x11 => k x10) r4) e
theorem gt58 : GetOk t58 58 := fun e k => by cases e with | mk r0 r1 r2 r3 r4 r5 r6 r7 r8 r9 r10 r11 r12 => cases r4; rfl
noncomputable def p58 : Put := fun v e k => Env.rec (motive := fun _ => Bool) (fun r0 r1 r2 r3 r4 r5 r6 r7 r8 r9 r10 r11 r12 => ERow.rec (motive := fun _ => Bool) (fun x0 x1 x2 x3 x4 x5 x6 x7 x8 x9 x10 x11 => k (.mk r0 r1 r2 r3 (.mk x0 x1 x2 x3 x4 x5 x6 x7 x8 x9 v x11) r5 r6 r7 r8 r9 r10 r11 r12)) r4) e
theorem pt58 : PutOk p58 58 := fun v e k => by
  have h := put_ok eg4 ep4 ip10 (t := 58) rfl rfl v e k
  cases e with | mk r0 r1 r2 r3 r4 r5 r6 r7 r8 r9 r10 r11 r12 => cases r4; exact h
noncomputable def t59 : Get := fun e k => Env.rec (motive := fun _ => Bool) (fun r0 r1 r2 r3 r4 r5 r6 r7 r8 r9 r10 r11 r12 => ERow.rec (motive := fun _ => Bool) (fun x0 x1 x2 x3 x4 x5 x6 x7 x8 x9 x10 x11 => k x11) r4) e
theorem gt59 : GetOk t59 59 := fun e k => by cases e with | mk r0 r1 r2 r3 r4 r5 r6 r7 r8 r9 r10 r11 r12 => cases r4; rfl
noncomputable def p59 : Put := fun v e k => Env.rec (motive := fun _ => Bool) (fun r0 r1 r2 r3 r4 r5 r6 r7 r8 r9 r10 r11 r12 => ERow.rec (motive := fun _ => Bool) (fun x0 x1 x2 x3 x4 x5 x6 x7 x8 x9 x10 x11 => k (.mk r0 r1 r2 r3 (.mk x0 x1 x2 x3 x4 x5 x6 x7 x8 x9 x10 v) r5 r6 r7 r8 r9 r10 r11 r12)) r4) e
theorem pt59 : PutOk p59 59 := fun v e k => by
  have h := put_ok eg4 ep4 ip11 (t := 59) rfl rfl v e k
  cases e with | mk r0 r1 r2 r3 r4 r5 r6 r7 r8 r9 r10 r11 r12 => cases r4; exact h
noncomputable def t60 : Get := fun e k => Env.rec (motive := fun _ => Bool) (fun r0 r1 r2 r3 r4 r5 r6 r7 r8 r9 r10 r11 r12 => ERow.rec (motive := fun _ => Bool) (fun x0 x1 x2 x3 x4 x5 x6 x7 x8 x9 x10 x11 => k x0) r5) e
theorem gt60 : GetOk t60 60 := fun e k => by cases e with | mk r0 r1 r2 r3 r4 r5 r6 r7 r8 r9 r10 r11 r12 => cases r5; rfl
noncomputable def p60 : Put := fun v e k => Env.rec (motive := fun _ => Bool) (fun r0 r1 r2 r3 r4 r5 r6 r7 r8 r9 r10 r11 r12 => ERow.rec (motive := fun _ => Bool) (fun x0 x1 x2 x3 x4 x5 x6 x7 x8 x9 x10 x11 => k (.mk r0 r1 r2 r3 r4 (.mk v x1 x2 x3 x4 x5 x6 x7 x8 x9 x10 x11) r6 r7 r8 r9 r10 r11 r12)) r5) e
theorem pt60 : PutOk p60 60 := fun v e k => by
  have h := put_ok eg5 ep5 ip0 (t := 60) rfl rfl v e k
  cases e with | mk r0 r1 r2 r3 r4 r5 r6 r7 r8 r9 r10 r11 r12 => cases r5; exact h
noncomputable def t61 : Get := fun e k => Env.rec (motive := fun _ => Bool) (fun r0 r1 r2 r3 r4 r5 r6 r7 r8 r9 r10 r11 r12 => ERow.rec (motive := fun _ => Bool) (fun x0 x1 x2 x3 x4 x5 x6 x7 x8 x9 x10 x11 => k x1) r5) e
theorem gt61 : GetOk t61 61 := fun e k => by cases e with | mk r0 r1 r2 r3 r4 r5 r6 r7 r8 r9 r10 r11 r12 => cases r5; rfl
noncomputable def p61 : Put := fun v e k => Env.rec (motive := fun _ => Bool) (fun r0 r1 r2 r3 r4 r5 r6 r7 r8 r9 r10 r11 r12 => ERow.rec (motive := fun _ => Bool) (fun x0 x1 x2 x3 x4 x5 x6 x7 x8 x9 x10 x11 => k (.mk r0 r1 r2 r3 r4 (.mk x0 v x2 x3 x4 x5 x6 x7 x8 x9 x10 x11) r6 r7 r8 r9 r10 r11 r12)) r5) e
theorem pt61 : PutOk p61 61 := fun v e k => by
  have h := put_ok eg5 ep5 ip1 (t := 61) rfl rfl v e k
  cases e with | mk r0 r1 r2 r3 r4 r5 r6 r7 r8 r9 r10 r11 r12 => cases r5; exact h
noncomputable def t62 : Get := fun e k => Env.rec (motive := fun _ => Bool) (fun r0 r1 r2 r3 r4 r5 r6 r7 r8 r9 r10 r11 r12 => ERow.rec (motive := fun _ => Bool) (fun x0 x1 x2 x3 x4 x5 x6 x7 x8 x9 x10 x11 => k x2) r5) e
theorem gt62 : GetOk t62 62 := fun e k => by cases e with | mk r0 r1 r2 r3 r4 r5 r6 r7 r8 r9 r10 r11 r12 => cases r5; rfl
noncomputable def p62 : Put := fun v e k => Env.rec (motive := fun _ => Bool) (fun r0 r1 r2 r3 r4 r5 r6 r7 r8 r9 r10 r11 r12 => ERow.rec (motive := fun _ => Bool) (fun x0 x1 x2 x3 x4 x5 x6 x7 x8 x9 x10 x11 => k (.mk r0 r1 r2 r3 r4 (.mk x0 x1 v x3 x4 x5 x6 x7 x8 x9 x10 x11) r6 r7 r8 r9 r10 r11 r12)) r5) e
theorem pt62 : PutOk p62 62 := fun v e k => by
  have h := put_ok eg5 ep5 ip2 (t := 62) rfl rfl v e k
  cases e with | mk r0 r1 r2 r3 r4 r5 r6 r7 r8 r9 r10 r11 r12 => cases r5; exact h
noncomputable def t63 : Get := fun e k => Env.rec (motive := fun _ => Bool) (fun r0 r1 r2 r3 r4 r5 r6 r7 r8 r9 r10 r11 r12 => ERow.rec (motive := fun _ => Bool) (fun x0 x1 x2 x3 x4 x5 x6 x7 x8 x9 x10 x11 => k x3) r5) e
theorem gt63 : GetOk t63 63 := fun e k => by cases e with | mk r0 r1 r2 r3 r4 r5 r6 r7 r8 r9 r10 r11 r12 => cases r5; rfl
noncomputable def p63 : Put := fun v e k => Env.rec (motive := fun _ => Bool) (fun r0 r1 r2 r3 r4 r5 r6 r7 r8 r9 r10 r11 r12 => ERow.rec (motive := fun _ => Bool) (fun x0 x1 x2 x3 x4 x5 x6 x7 x8 x9 x10 x11 => k (.mk r0 r1 r2 r3 r4 (.mk x0 x1 x2 v x4 x5 x6 x7 x8 x9 x10 x11) r6 r7 r8 r9 r10 r11 r12)) r5) e
theorem pt63 : PutOk p63 63 := fun v e k => by
  have h := put_ok eg5 ep5 ip3 (t := 63) rfl rfl v e k
  cases e with | mk r0 r1 r2 r3 r4 r5 r6 r7 r8 r9 r10 r11 r12 => cases r5; exact h
noncomputable def t64 : Get := fun e k => Env.rec (motive := fun _ => Bool) (fun r0 r1 r2 r3 r4 r5 r6 r7 r8 r9 r10 r11 r12 => ERow.rec (motive := fun _ => Bool) (fun x0 x1 x2 x3 x4 x5 x6 x7 x8 x9 x10 x11 => k x4) r5) e
theorem gt64 : GetOk t64 64 := fun e k => by cases e with | mk r0 r1 r2 r3 r4 r5 r6 r7 r8 r9 r10 r11 r12 => cases r5; rfl
noncomputable def p64 : Put := fun v e k => Env.rec (motive := fun _ => Bool) (fun r0 r1 r2 r3 r4 r5 r6 r7 r8 r9 r10 r11 r12 => ERow.rec (motive := fun _ => Bool) (fun x0 x1 x2 x3 x4 x5 x6 x7 x8 x9 x10 x11 => k (.mk r0 r1 r2 r3 r4 (.mk x0 x1 x2 x3 v x5 x6 x7 x8 x9 x10 x11) r6 r7 r8 r9 r10 r11 r12)) r5) e
theorem pt64 : PutOk p64 64 := fun v e k => by
  have h := put_ok eg5 ep5 ip4 (t := 64) rfl rfl v e k
  cases e with | mk r0 r1 r2 r3 r4 r5 r6 r7 r8 r9 r10 r11 r12 => cases r5; exact h
noncomputable def t65 : Get := fun e k => Env.rec (motive := fun _ => Bool) (fun r0 r1 r2 r3 r4 r5 r6 r7 r8 r9 r10 r11 r12 => ERow.rec (motive := fun _ => Bool) (fun x0 x1 x2 x3 x4 x5 x6 x7 x8 x9 x10 x11 => k x5) r5) e
theorem gt65 : GetOk t65 65 := fun e k => by cases e with | mk r0 r1 r2 r3 r4 r5 r6 r7 r8 r9 r10 r11 r12 => cases r5; rfl
noncomputable def p65 : Put := fun v e k => Env.rec (motive := fun _ => Bool) (fun r0 r1 r2 r3 r4 r5 r6 r7 r8 r9 r10 r11 r12 => ERow.rec (motive := fun _ => Bool) (fun x0 x1 x2 x3 x4 x5 x6 x7 x8 x9 x10 x11 => k (.mk r0 r1 r2 r3 r4 (.mk x0 x1 x2 x3 x4 v x6 x7 x8 x9 x10 x11) r6 r7 r8 r9 r10 r11 r12)) r5) e
theorem pt65 : PutOk p65 65 := fun v e k => by
  have h := put_ok eg5 ep5 ip5 (t := 65) rfl rfl v e k
  cases e with | mk r0 r1 r2 r3 r4 r5 r6 r7 r8 r9 r10 r11 r12 => cases r5; exact h
noncomputable def t66 : Get := fun e k => Env.rec (motive := fun _ => Bool) (fun r0 r1 r2 r3 r4 r5 r6 r7 r8 r9 r10 r11 r12 => ERow.rec (motive := fun _ => Bool) (fun x0 x1 x2 x3 x4 x5 x6 x7 x8 x9 x10 x11 => k x6) r5) e
theorem gt66 : GetOk t66 66 := fun e k => by cases e with | mk r0 r1 r2 r3 r4 r5 r6 r7 r8 r9 r10 r11 r12 => cases r5; rfl
noncomputable def p66 : Put := fun v e k => Env.rec (motive := fun _ => Bool) (fun r0 r1 r2 r3 r4 r5 r6 r7 r8 r9 r10 r11 r12 => ERow.rec (motive := fun _ => Bool) (fun x0 x1 x2 x3 x4 x5 x6 x7 x8 x9 x10 x11 => k (.mk r0 r1 r2 r3 r4 (.mk x0 x1 x2 x3 x4 x5 v x7 x8 x9 x10 x11) r6 r7 r8 r9 r10 r11 r12)) r5) e
theorem pt66 : PutOk p66 66 := fun v e k => by
  have h := put_ok eg5 ep5 ip6 (t := 66) rfl rfl v e k
  cases e with | mk r0 r1 r2 r3 r4 r5 r6 r7 r8 r9 r10 r11 r12 => cases r5; exact h
noncomputable def t67 : Get := fun e k => Env.rec (motive := fun _ => Bool) (fun r0 r1 r2 r3 r4 r5 r6 r7 r8 r9 r10 r11 r12 => ERow.rec (motive := fun _ => Bool) (fun x0 x1 x2 x3 x4 x5 x6 x7 x8 x9 x10 x11 => k x7) r5) e
theorem gt67 : GetOk t67 67 := fun e k => by cases e with | mk r0 r1 r2 r3 r4 r5 r6 r7 r8 r9 r10 r11 r12 => cases r5; rfl
noncomputable def p67 : Put := fun v e k => Env.rec (motive := fun _ => Bool) (fun r0 r1 r2 r3 r4 r5 r6 r7 r8 r9 r10 r11 r12 => ERow.rec (motive := fun _ => Bool) (fun x0 x1 x2 x3 x4 x5 x6 x7 x8 x9 x10 x11 => k (.mk r0 r1 r2 r3 r4 (.mk x0 x1 x2 x3 x4 x5 x6 v x8 x9 x10 x11) r6 r7 r8 r9 r10 r11 r12)) r5) e
theorem pt67 : PutOk p67 67 := fun v e k => by
  have h := put_ok eg5 ep5 ip7 (t := 67) rfl rfl v e k
  cases e with | mk r0 r1 r2 r3 r4 r5 r6 r7 r8 r9 r10 r11 r12 => cases r5; exact h
noncomputable def t68 : Get := fun e k => Env.rec (motive := fun _ => Bool) (fun r0 r1 r2 r3 r4 r5 r6 r7 r8 r9 r10 r11 r12 => ERow.rec (motive := fun _ => Bool) (fun x0 x1 x2 x3 x4 x5 x6 x7 x8 x9 x10 x11 => k x8) r5) e
theorem gt68 : GetOk t68 68 := fun e k => by cases e with | mk r0 r1 r2 r3 r4 r5 r6 r7 r8 r9 r10 r11 r12 => cases r5; rfl
noncomputable def p68 : Put := fun v e k => Env.rec (motive := fun _ => Bool) (fun r0 r1 r2 r3 r4 r5 r6 r7 r8 r9 r10 r11 r12 => ERow.rec (motive := fun _ => Bool) (fun x0 x1 x2 x3 x4 x5 x6 x7 x8 x9 x10 x11 => k (.mk r0 r1 r2 r3 r4 (.mk x0 x1 x2 x3 x4 x5 x6 x7 v x9 x10 x11) r6 r7 r8 r9 r10 r11 r12)) r5) e
theorem pt68 : PutOk p68 68 := fun v e k => by
  have h := put_ok eg5 ep5 ip8 (t := 68) rfl rfl v e k
  cases e with | mk r0 r1 r2 r3 r4 r5 r6 r7 r8 r9 r10 r11 r12 => cases r5; exact h
noncomputable def t69 : Get := fun e k => Env.rec (motive := fun _ => Bool) (fun r0 r1 r2 r3 r4 r5 r6 r7 r8 r9 r10 r11 r12 => ERow.rec (motive := fun _ => Bool) (fun x0 x1 x2 x3 x4 x5 x6 x7 x8 x9 x10 x11 => k x9) r5) e
theorem gt69 : GetOk t69 69 := fun e k => by cases e with | mk r0 r1 r2 r3 r4 r5 r6 r7 r8 r9 r10 r11 r12 => cases r5; rfl
noncomputable def p69 : Put := fun v e k => Env.rec (motive := fun _ => Bool) (fun r0 r1 r2 r3 r4 r5 r6 r7 r8 r9 r10 r11 r12 => ERow.rec (motive := fun _ => Bool) (fun x0 x1 x2 x3 x4 x5 x6 x7 x8 x9 x10 x11 => k (.mk r0 r1 r2 r3 r4 (.mk x0 x1 x2 x3 x4 x5 x6 x7 x8 v x10 x11) r6 r7 r8 r9 r10 r11 r12)) r5) e
theorem pt69 : PutOk p69 69 := fun v e k => by
  have h := put_ok eg5 ep5 ip9 (t := 69) rfl rfl v e k
  cases e with | mk r0 r1 r2 r3 r4 r5 r6 r7 r8 r9 r10 r11 r12 => cases r5; exact h
noncomputable def t70 : Get := fun e k => Env.rec (motive := fun _ => Bool) (fun r0 r1 r2 r3 r4 r5 r6 r7 r8 r9 r10 r11 r12 => ERow.rec (motive := fun _ => Bool) (fun x0 x1 x2 x3 x4 x5 x6 x7 x8 x9 x10 x11 => k x10) r5) e
theorem gt70 : GetOk t70 70 := fun e k => by cases e with | mk r0 r1 r2 r3 r4 r5 r6 r7 r8 r9 r10 r11 r12 => cases r5; rfl
noncomputable def p70 : Put := fun v e k => Env.rec (motive := fun _ => Bool) (fun r0 r1 r2 r3 r4 r5 r6 r7 r8 r9 r10 r11 r12 => ERow.rec (motive := fun _ => Bool) (fun x0 x1 x2 x3 x4 x5 x6 x7 x8 x9 x10 x11 => k (.mk r0 r1 r2 r3 r4 (.mk x0 x1 x2 x3 x4 x5 x6 x7 x8 x9 v x11) r6 r7 r8 r9 r10 r11 r12)) r5) e
theorem pt70 : PutOk p70 70 := fun v e k => by
  have h := put_ok eg5 ep5 ip10 (t := 70) rfl rfl v e k
  cases e with | mk r0 r1 r2 r3 r4 r5 r6 r7 r8 r9 r10 r11 r12 => cases r5; exact h
noncomputable def t71 : Get := fun e k => Env.rec (motive := fun _ => Bool) (fun r0 r1 r2 r3 r4 r5 r6 r7 r8 r9 r10 r11 r12 => ERow.rec (motive := fun _ => Bool) (fun x0 x1 x2 x3 x4 x5 x6 x7 x8 x9 x10 x11 => k x11) r5) e
theorem gt71 : GetOk t71 71 := fun e k => by cases e with | mk r0 r1 r2 r3 r4 r5 r6 r7 r8 r9 r10 r11 r12 => cases r5; rfl
noncomputable def p71 : Put := fun v e k => Env.rec (motive := fun _ => Bool) (fun r0 r1 r2 r3 r4 r5 r6 r7 r8 r9 r10 r11 r12 => ERow.rec (motive := fun _ => Bool) (fun x0 x1 x2 x3 x4 x5 x6 x7 x8 x9 x10 x11 => k (.mk r0 r1 r2 r3 r4 (.mk x0 x1 x2 x3 x4 x5 x6 x7 x8 x9 x10 v) r6 r7 r8 r9 r10 r11 r12)) r5) e
theorem pt71 : PutOk p71 71 := fun v e k => by
  have h := put_ok eg5 ep5 ip11 (t := 71) rfl rfl v e k
  cases e with | mk r0 r1 r2 r3 r4 r5 r6 r7 r8 r9 r10 r11 r12 => cases r5; exact h
noncomputable def t72 : Get := fun e k => Env.rec (motive := fun _ => Bool) (fun r0 r1 r2 r3 r4 r5 r6 r7 r8 r9 r10 r11 r12 => ERow.rec (motive := fun _ => Bool) (fun x0 x1 x2 x3 x4 x5 x6 x7 x8 x9 x10 x11 => k x0) r6) e
theorem gt72 : GetOk t72 72 := fun e k => by cases e with | mk r0 r1 r2 r3 r4 r5 r6 r7 r8 r9 r10 r11 r12 => cases r6; rfl
noncomputable def p72 : Put := fun v e k => Env.rec (motive := fun _ => Bool) (fun r0 r1 r2 r3 r4 r5 r6 r7 r8 r9 r10 r11 r12 => ERow.rec (motive := fun _ => Bool) (fun x0 x1 x2 x3 x4 x5 x6 x7 x8 x9 x10 x11 => k (.mk r0 r1 r2 r3 r4 r5 (.mk v x1 x2 x3 x4 x5 x6 x7 x8 x9 x10 x11) r7 r8 r9 r10 r11 r12)) r6) e
theorem pt72 : PutOk p72 72 := fun v e k => by
  have h := put_ok eg6 ep6 ip0 (t := 72) rfl rfl v e k
  cases e with | mk r0 r1 r2 r3 r4 r5 r6 r7 r8 r9 r10 r11 r12 => cases r6; exact h
noncomputable def t73 : Get := fun e k => Env.rec (motive := fun _ => Bool) (fun r0 r1 r2 r3 r4 r5 r6 r7 r8 r9 r10 r11 r12 => ERow.rec (motive := fun _ => Bool) (fun x0 x1 x2 x3 x4 x5 x6 x7 x8 x9 x10 x11 => k x1) r6) e
theorem gt73 : GetOk t73 73 := fun e k => by cases e with | mk r0 r1 r2 r3 r4 r5 r6 r7 r8 r9 r10 r11 r12 => cases r6; rfl
noncomputable def p73 : Put := fun v e k => Env.rec (motive := fun _ => Bool) (fun r0 r1 r2 r3 r4 r5 r6 r7 r8 r9 r10 r11 r12 => ERow.rec (motive := fun _ => Bool) (fun x0 x1 x2 x3 x4 x5 x6 x7 x8 x9 x10 x11 => k (.mk r0 r1 r2 r3 r4 r5 (.mk x0 v x2 x3 x4 x5 x6 x7 x8 x9 x10 x11) r7 r8 r9 r10 r11 r12)) r6) e
theorem pt73 : PutOk p73 73 := fun v e k => by
  have h := put_ok eg6 ep6 ip1 (t := 73) rfl rfl v e k
  cases e with | mk r0 r1 r2 r3 r4 r5 r6 r7 r8 r9 r10 r11 r12 => cases r6; exact h
noncomputable def t74 : Get := fun e k => Env.rec (motive := fun _ => Bool) (fun r0 r1 r2 r3 r4 r5 r6 r7 r8 r9 r10 r11 r12 => ERow.rec (motive := fun _ => Bool) (fun x0 x1 x2 x3 x4 x5 x6 x7 x8 x9 x10 x11 => k x2) r6) e
theorem gt74 : GetOk t74 74 := fun e k => by cases e with | mk r0 r1 r2 r3 r4 r5 r6 r7 r8 r9 r10 r11 r12 => cases r6; rfl
noncomputable def p74 : Put := fun v e k => Env.rec (motive := fun _ => Bool) (fun r0 r1 r2 r3 r4 r5 r6 r7 r8 r9 r10 r11 r12 => ERow.rec (motive := fun _ => Bool) (fun x0 x1 x2 x3 x4 x5 x6 x7 x8 x9 x10 x11 => k (.mk r0 r1 r2 r3 r4 r5 (.mk x0 x1 v x3 x4 x5 x6 x7 x8 x9 x10 x11) r7 r8 r9 r10 r11 r12)) r6) e
theorem pt74 : PutOk p74 74 := fun v e k => by
  have h := put_ok eg6 ep6 ip2 (t := 74) rfl rfl v e k
  cases e with | mk r0 r1 r2 r3 r4 r5 r6 r7 r8 r9 r10 r11 r12 => cases r6; exact h
noncomputable def t75 : Get := fun e k => Env.rec (motive := fun _ => Bool) (fun r0 r1 r2 r3 r4 r5 r6 r7 r8 r9 r10 r11 r12 => ERow.rec (motive := fun _ => Bool) (fun x0 x1 x2 x3 x4 x5 x6 x7 x8 x9 x10 x11 => k x3) r6) e
theorem gt75 : GetOk t75 75 := fun e k => by cases e with | mk r0 r1 r2 r3 r4 r5 r6 r7 r8 r9 r10 r11 r12 => cases r6; rfl
noncomputable def p75 : Put := fun v e k => Env.rec (motive := fun _ => Bool) (fun r0 r1 r2 r3 r4 r5 r6 r7 r8 r9 r10 r11 r12 => ERow.rec (motive := fun _ => Bool) (fun x0 x1 x2 x3 x4 x5 x6 x7 x8 x9 x10 x11 => k (.mk r0 r1 r2 r3 r4 r5 (.mk x0 x1 x2 v x4 x5 x6 x7 x8 x9 x10 x11) r7 r8 r9 r10 r11 r12)) r6) e
theorem pt75 : PutOk p75 75 := fun v e k => by
  have h := put_ok eg6 ep6 ip3 (t := 75) rfl rfl v e k
  cases e with | mk r0 r1 r2 r3 r4 r5 r6 r7 r8 r9 r10 r11 r12 => cases r6; exact h
noncomputable def t76 : Get := fun e k => Env.rec (motive := fun _ => Bool) (fun r0 r1 r2 r3 r4 r5 r6 r7 r8 r9 r10 r11 r12 => ERow.rec (motive := fun _ => Bool) (fun x0 x1 x2 x3 x4 x5 x6 x7 x8 x9 x10 x11 => k x4) r6) e
theorem gt76 : GetOk t76 76 := fun e k => by cases e with | mk r0 r1 r2 r3 r4 r5 r6 r7 r8 r9 r10 r11 r12 => cases r6; rfl
noncomputable def p76 : Put := fun v e k => Env.rec (motive := fun _ => Bool) (fun r0 r1 r2 r3 r4 r5 r6 r7 r8 r9 r10 r11 r12 => ERow.rec (motive := fun _ => Bool) (fun x0 x1 x2 x3 x4 x5 x6 x7 x8 x9 x10 x11 => k (.mk r0 r1 r2 r3 r4 r5 (.mk x0 x1 x2 x3 v x5 x6 x7 x8 x9 x10 x11) r7 r8 r9 r10 r11 r12)) r6) e
theorem pt76 : PutOk p76 76 := fun v e k => by
  have h := put_ok eg6 ep6 ip4 (t := 76) rfl rfl v e k
  cases e with | mk r0 r1 r2 r3 r4 r5 r6 r7 r8 r9 r10 r11 r12 => cases r6; exact h
noncomputable def t77 : Get := fun e k => Env.rec (motive := fun _ => Bool) (fun r0 r1 r2 r3 r4 r5 r6 r7 r8 r9 r10 r11 r12 => ERow.rec (motive := fun _ => Bool) (fun x0 x1 x2 x3 x4 x5 x6 x7 x8 x9 x10 x11 => k x5) r6) e
theorem gt77 : GetOk t77 77 := fun e k => by cases e with | mk r0 r1 r2 r3 r4 r5 r6 r7 r8 r9 r10 r11 r12 => cases r6; rfl
noncomputable def p77 : Put := fun v e k => Env.rec (motive := fun _ => Bool) (fun r0 r1 r2 r3 r4 r5 r6 r7 r8 r9 r10 r11 r12 => ERow.rec (motive := fun _ => Bool) (fun x0 x1 x2 x3 x4 x5 x6 x7 x8 x9 x10 x11 => k (.mk r0 r1 r2 r3 r4 r5 (.mk x0 x1 x2 x3 x4 v x6 x7 x8 x9 x10 x11) r7 r8 r9 r10 r11 r12)) r6) e
theorem pt77 : PutOk p77 77 := fun v e k => by
  have h := put_ok eg6 ep6 ip5 (t := 77) rfl rfl v e k
  cases e with | mk r0 r1 r2 r3 r4 r5 r6 r7 r8 r9 r10 r11 r12 => cases r6; exact h
noncomputable def t78 : Get := fun e k => Env.rec (motive := fun _ => Bool) (fun r0 r1 r2 r3 r4 r5 r6 r7 r8 r9 r10 r11 r12 => ERow.rec (motive := fun _ => Bool) (fun x0 x1 x2 x3 x4 x5 x6 x7 x8 x9 x10 x11 => k x6) r6) e
theorem gt78 : GetOk t78 78 := fun e k => by cases e with | mk r0 r1 r2 r3 r4 r5 r6 r7 r8 r9 r10 r11 r12 => cases r6; rfl
noncomputable def p78 : Put := fun v e k => Env.rec (motive := fun _ => Bool) (fun r0 r1 r2 r3 r4 r5 r6 r7 r8 r9 r10 r11 r12 => ERow.rec (motive := fun _ => Bool) (fun x0 x1 x2 x3 x4 x5 x6 x7 x8 x9 x10 x11 => k (.mk r0 r1 r2 r3 r4 r5 (.mk x0 x1 x2 x3 x4 x5 v x7 x8 x9 x10 x11) r7 r8 r9 r10 r11 r12)) r6) e
theorem pt78 : PutOk p78 78 := fun v e k => by
  have h := put_ok eg6 ep6 ip6 (t := 78) rfl rfl v e k
  cases e with | mk r0 r1 r2 r3 r4 r5 r6 r7 r8 r9 r10 r11 r12 => cases r6; exact h
noncomputable def t79 : Get := fun e k => Env.rec (motive := fun _ => Bool) (fun r0 r1 r2 r3 r4 r5 r6 r7 r8 r9 r10 r11 r12 => ERow.rec (motive := fun _ => Bool) (fun x0 x1 x2 x3 x4 x5 x6 x7 x8 x9 x10 x11 => k x7) r6) e
theorem gt79 : GetOk t79 79 := fun e k => by cases e with | mk r0 r1 r2 r3 r4 r5 r6 r7 r8 r9 r10 r11 r12 => cases r6; rfl
noncomputable def p79 : Put := fun v e k => Env.rec (motive := fun _ => Bool) (fun r0 r1 r2 r3 r4 r5 r6 r7 r8 r9 r10 r11 r12 => ERow.rec (motive := fun _ => Bool) (fun x0 x1 x2 x3 x4 x5 x6 x7 x8 x9 x10 x11 => k (.mk r0 r1 r2 r3 r4 r5 (.mk x0 x1 x2 x3 x4 x5 x6 v x8 x9 x10 x11) r7 r8 r9 r10 r11 r12)) r6) e
theorem pt79 : PutOk p79 79 := fun v e k => by
  have h := put_ok eg6 ep6 ip7 (t := 79) rfl rfl v e k
  cases e with | mk r0 r1 r2 r3 r4 r5 r6 r7 r8 r9 r10 r11 r12 => cases r6; exact h
noncomputable def t80 : Get := fun e k => Env.rec (motive := fun _ => Bool) (fun r0 r1 r2 r3 r4 r5 r6 r7 r8 r9 r10 r11 r12 => ERow.rec (motive := fun _ => Bool) (fun x0 x1 x2 x3 x4 x5 x6 x7 x8 x9 x10 x11 => k x8) r6) e
theorem gt80 : GetOk t80 80 := fun e k => by cases e with | mk r0 r1 r2 r3 r4 r5 r6 r7 r8 r9 r10 r11 r12 => cases r6; rfl
noncomputable def p80 : Put := fun v e k => Env.rec (motive := fun _ => Bool) (fun r0 r1 r2 r3 r4 r5 r6 r7 r8 r9 r10 r11 r12 => ERow.rec (motive := fun _ => Bool) (fun x0 x1 x2 x3 x4 x5 x6 x7 x8 x9 x10 x11 => k (.mk r0 r1 r2 r3 r4 r5 (.mk x0 x1 x2 x3 x4 x5 x6 x7 v x9 x10 x11) r7 r8 r9 r10 r11 r12)) r6) e
theorem pt80 : PutOk p80 80 := fun v e k => by
  have h := put_ok eg6 ep6 ip8 (t := 80) rfl rfl v e k
  cases e with | mk r0 r1 r2 r3 r4 r5 r6 r7 r8 r9 r10 r11 r12 => cases r6; exact h
noncomputable def t81 : Get := fun e k => Env.rec (motive := fun _ => Bool) (fun r0 r1 r2 r3 r4 r5 r6 r7 r8 r9 r10 r11 r12 => ERow.rec (motive := fun _ => Bool) (fun x0 x1 x2 x3 x4 x5 x6 x7 x8 x9 x10 x11 => k x9) r6) e
theorem gt81 : GetOk t81 81 := fun e k => by cases e with | mk r0 r1 r2 r3 r4 r5 r6 r7 r8 r9 r10 r11 r12 => cases r6; rfl
noncomputable def p81 : Put := fun v e k => Env.rec (motive := fun _ => Bool) (fun r0 r1 r2 r3 r4 r5 r6 r7 r8 r9 r10 r11 r12 => ERow.rec (motive := fun _ => Bool) (fun x0 x1 x2 x3 x4 x5 x6 x7 x8 x9 x10 x11 => k (.mk r0 r1 r2 r3 r4 r5 (.mk x0 x1 x2 x3 x4 x5 x6 x7 x8 v x10 x11) r7 r8 r9 r10 r11 r12)) r6) e
theorem pt81 : PutOk p81 81 := fun v e k => by
  have h := put_ok eg6 ep6 ip9 (t := 81) rfl rfl v e k
  cases e with | mk r0 r1 r2 r3 r4 r5 r6 r7 r8 r9 r10 r11 r12 => cases r6; exact h
noncomputable def t82 : Get := fun e k => Env.rec (motive := fun _ => Bool) (fun r0 r1 r2 r3 r4 r5 r6 r7 r8 r9 r10 r11 r12 => ERow.rec (motive := fun _ => Bool) (fun x0 x1 x2 x3 x4 x5 x6 x7 x8 x9 x10 x11 => k x10) r6) e
theorem gt82 : GetOk t82 82 := fun e k => by cases e with | mk r0 r1 r2 r3 r4 r5 r6 r7 r8 r9 r10 r11 r12 => cases r6; rfl
noncomputable def p82 : Put := fun v e k => Env.rec (motive := fun _ => Bool) (fun r0 r1 r2 r3 r4 r5 r6 r7 r8 r9 r10 r11 r12 => ERow.rec (motive := fun _ => Bool) (fun x0 x1 x2 x3 x4 x5 x6 x7 x8 x9 x10 x11 => k (.mk r0 r1 r2 r3 r4 r5 (.mk x0 x1 x2 x3 x4 x5 x6 x7 x8 x9 v x11) r7 r8 r9 r10 r11 r12)) r6) e
theorem pt82 : PutOk p82 82 := fun v e k => by
  have h := put_ok eg6 ep6 ip10 (t := 82) rfl rfl v e k
  cases e with | mk r0 r1 r2 r3 r4 r5 r6 r7 r8 r9 r10 r11 r12 => cases r6; exact h
noncomputable def t83 : Get := fun e k => Env.rec (motive := fun _ => Bool) (fun r0 r1 r2 r3 r4 r5 r6 r7 r8 r9 r10 r11 r12 => ERow.rec (motive := fun _ => Bool) (fun x0 x1 x2 x3 x4 x5 x6 x7 x8 x9 x10 x11 => k x11) r6) e
theorem gt83 : GetOk t83 83 := fun e k => by cases e with | mk r0 r1 r2 r3 r4 r5 r6 r7 r8 r9 r10 r11 r12 => cases r6; rfl
noncomputable def p83 : Put := fun v e k => Env.rec (motive := fun _ => Bool) (fun r0 r1 r2 r3 r4 r5 r6 r7 r8 r9 r10 r11 r12 => ERow.rec (motive := fun _ => Bool) (fun x0 x1 x2 x3 x4 x5 x6 x7 x8 x9 x10 x11 => k (.mk r0 r1 r2 r3 r4 r5 (.mk x0 x1 x2 x3 x4 x5 x6 x7 x8 x9 x10 v) r7 r8 r9 r10 r11 r12)) r6) e
theorem pt83 : PutOk p83 83 := fun v e k => by
  have h := put_ok eg6 ep6 ip11 (t := 83) rfl rfl v e k
  cases e with | mk r0 r1 r2 r3 r4 r5 r6 r7 r8 r9 r10 r11 r12 => cases r6; exact h
noncomputable def t84 : Get := fun e k => Env.rec (motive := fun _ => Bool) (fun r0 r1 r2 r3 r4 r5 r6 r7 r8 r9 r10 r11 r12 => ERow.rec (motive := fun _ => Bool) (fun x0 x1 x2 x3 x4 x5 x6 x7 x8 x9 x10 x11 => k x0) r7) e
theorem gt84 : GetOk t84 84 := fun e k => by cases e with | mk r0 r1 r2 r3 r4 r5 r6 r7 r8 r9 r10 r11 r12 => cases r7; rfl
noncomputable def p84 : Put := fun v e k => Env.rec (motive := fun _ => Bool) (fun r0 r1 r2 r3 r4 r5 r6 r7 r8 r9 r10 r11 r12 => ERow.rec (motive := fun _ => Bool) (fun x0 x1 x2 x3 x4 x5 x6 x7 x8 x9 x10 x11 => k (.mk r0 r1 r2 r3 r4 r5 r6 (.mk v x1 x2 x3 x4 x5 x6 x7 x8 x9 x10 x11) r8 r9 r10 r11 r12)) r7) e
theorem pt84 : PutOk p84 84 := fun v e k => by
  have h := put_ok eg7 ep7 ip0 (t := 84) rfl rfl v e k
  cases e with | mk r0 r1 r2 r3 r4 r5 r6 r7 r8 r9 r10 r11 r12 => cases r7; exact h
noncomputable def t85 : Get := fun e k => Env.rec (motive := fun _ => Bool) (fun r0 r1 r2 r3 r4 r5 r6 r7 r8 r9 r10 r11 r12 => ERow.rec (motive := fun _ => Bool) (fun x0 x1 x2 x3 x4 x5 x6 x7 x8 x9 x10 x11 => k x1) r7) e
theorem gt85 : GetOk t85 85 := fun e k => by cases e with | mk r0 r1 r2 r3 r4 r5 r6 r7 r8 r9 r10 r11 r12 => cases r7; rfl
noncomputable def p85 : Put := fun v e k => Env.rec (motive := fun _ => Bool) (fun r0 r1 r2 r3 r4 r5 r6 r7 r8 r9 r10 r11 r12 => ERow.rec (motive := fun _ => Bool) (fun x0 x1 x2 x3 x4 x5 x6 x7 x8 x9 x10 x11 => k (.mk r0 r1 r2 r3 r4 r5 r6 (.mk x0 v x2 x3 x4 x5 x6 x7 x8 x9 x10 x11) r8 r9 r10 r11 r12)) r7) e
theorem pt85 : PutOk p85 85 := fun v e k => by
  have h := put_ok eg7 ep7 ip1 (t := 85) rfl rfl v e k
  cases e with | mk r0 r1 r2 r3 r4 r5 r6 r7 r8 r9 r10 r11 r12 => cases r7; exact h
noncomputable def t86 : Get := fun e k => Env.rec (motive := fun _ => Bool) (fun r0 r1 r2 r3 r4 r5 r6 r7 r8 r9 r10 r11 r12 => ERow.rec (motive := fun _ => Bool) (fun x0 x1 x2 x3 x4 x5 x6 x7 x8 x9 x10 x11 => k x2) r7) e
theorem gt86 : GetOk t86 86 := fun e k => by cases e with | mk r0 r1 r2 r3 r4 r5 r6 r7 r8 r9 r10 r11 r12 => cases r7; rfl
noncomputable def p86 : Put := fun v e k => Env.rec (motive := fun _ => Bool) (fun r0 r1 r2 r3 r4 r5 r6 r7 r8 r9 r10 r11 r12 => ERow.rec (motive := fun _ => Bool) (fun x0 x1 x2 x3 x4 x5 x6 x7 x8 x9 x10 x11 => k (.mk r0 r1 r2 r3 r4 r5 r6 (.mk x0 x1 v x3 x4 x5 x6 x7 x8 x9 x10 x11) r8 r9 r10 r11 r12)) r7) e
theorem pt86 : PutOk p86 86 := fun v e k => by
  have h := put_ok eg7 ep7 ip2 (t := 86) rfl rfl v e k
  cases e with | mk r0 r1 r2 r3 r4 r5 r6 r7 r8 r9 r10 r11 r12 => cases r7; exact h
noncomputable def t87 : Get := fun e k => Env.rec (motive := fun _ => Bool) (fun r0 r1 r2 r3 r4 r5 r6 r7 r8 r9 r10 r11 r12 => ERow.rec (motive := fun _ => Bool) (fun x0 x1 x2 x3 x4 x5 x6 x7 x8 x9 x10 x11 => k x3) r7) e
theorem gt87 : GetOk t87 87 := fun e k => by cases e with | mk r0 r1 r2 r3 r4 r5 r6 r7 r8 r9 r10 r11 r12 => cases r7; rfl
noncomputable def p87 : Put := fun v e k => Env.rec (motive := fun _ => Bool) (fun r0 r1 r2 r3 r4 r5 r6 r7 r8 r9 r10 r11 r12 => ERow.rec (motive := fun _ => Bool) (fun x0 x1 x2 x3 x4 x5 x6 x7 x8 x9 x10 x11 => k (.mk r0 r1 r2 r3 r4 r5 r6 (.mk x0 x1 x2 v x4 x5 x6 x7 x8 x9 x10 x11) r8 r9 r10 r11 r12)) r7) e
theorem pt87 : PutOk p87 87 := fun v e k => by
  have h := put_ok eg7 ep7 ip3 (t := 87) rfl rfl v e k
  cases e with | mk r0 r1 r2 r3 r4 r5 r6 r7 r8 r9 r10 r11 r12 => cases r7; exact h
noncomputable def t88 : Get := fun e k => Env.rec (motive := fun _ => Bool) (fun r0 r1 r2 r3 r4 r5 r6 r7 r8 r9 r10 r11 r12 => ERow.rec (motive := fun _ => Bool) (fun x0 x1 x2 x3 x4 x5 x6 x7 x8 x9 x10 x11 => k x4) r7) e
theorem gt88 : GetOk t88 88 := fun e k => by cases e with | mk r0 r1 r2 r3 r4 r5 r6 r7 r8 r9 r10 r11 r12 => cases r7; rfl
noncomputable def p88 : Put := fun v e k => Env.rec (motive := fun _ => Bool) (fun r0 r1 r2 r3 r4 r5 r6 r7 r8 r9 r10 r11 r12 => ERow.rec (motive := fun _ => Bool) (fun x0 x1 x2 x3 x4 x5 x6 x7 x8 x9 x10 x11 => k (.mk r0 r1 r2 r3 r4 r5 r6 (.mk x0 x1 x2 x3 v x5 x6 x7 x8 x9 x10 x11) r8 r9 r10 r11 r12)) r7) e
theorem pt88 : PutOk p88 88 := fun v e k => by
  have h := put_ok eg7 ep7 ip4 (t := 88) rfl rfl v e k
  cases e with | mk r0 r1 r2 r3 r4 r5 r6 r7 r8 r9 r10 r11 r12 => cases r7; exact h
noncomputable def t89 : Get := fun e k => Env.rec (motive := fun _ => Bool) (fun r0 r1 r2 r3 r4 r5 r6 r7 r8 r9 r10 r11 r12 => ERow.rec (motive := fun _ => Bool) (fun x0 x1 x2 x3 x4 x5 x6 x7 x8 x9 x10 x11 => k x5) r7) e
theorem gt89 : GetOk t89 89 := fun e k => by cases e with | mk r0 r1 r2 r3 r4 r5 r6 r7 r8 r9 r10 r11 r12 => cases r7; rfl
noncomputable def p89 : Put := fun v e k => Env.rec (motive := fun _ => Bool) (fun r0 r1 r2 r3 r4 r5 r6 r7 r8 r9 r10 r11 r12 => ERow.rec (motive := fun _ => Bool) (fun x0 x1 x2 x3 x4 x5 x6 x7 x8 x9 x10 x11 => k (.mk r0 r1 r2 r3 r4 r5 r6 (.mk x0 x1 x2 x3 x4 v x6 x7 x8 x9 x10 x11) r8 r9 r10 r11 r12)) r7) e
theorem pt89 : PutOk p89 89 := fun v e k => by
  have h := put_ok eg7 ep7 ip5 (t := 89) rfl rfl v e k
  cases e with | mk r0 r1 r2 r3 r4 r5 r6 r7 r8 r9 r10 r11 r12 => cases r7; exact h
noncomputable def t90 : Get := fun e k => Env.rec (motive := fun _ => Bool) (fun r0 r1 r2 r3 r4 r5 r6 r7 r8 r9 r10 r11 r12 => ERow.rec (motive := fun _ => Bool) (fun x0 x1 x2 x3 x4 x5 x6 x7 x8 x9 x10 x11 => k x6) r7) e
theorem gt90 : GetOk t90 90 := fun e k => by cases e with | mk r0 r1 r2 r3 r4 r5 r6 r7 r8 r9 r10 r11 r12 => cases r7; rfl
noncomputable def p90 : Put := fun v e k => Env.rec (motive := fun _ => Bool) (fun r0 r1 r2 r3 r4 r5 r6 r7 r8 r9 r10 r11 r12 => ERow.rec (motive := fun _ => Bool) (fun x0 x1 x2 x3 x4 x5 x6 x7 x8 x9 x10 x11 => k (.mk r0 r1 r2 r3 r4 r5 r6 (.mk x0 x1 x2 x3 x4 x5 v x7 x8 x9 x10 x11) r8 r9 r10 r11 r12)) r7) e
theorem pt90 : PutOk p90 90 := fun v e k => by
  have h := put_ok eg7 ep7 ip6 (t := 90) rfl rfl v e k
  cases e with | mk r0 r1 r2 r3 r4 r5 r6 r7 r8 r9 r10 r11 r12 => cases r7; exact h
noncomputable def t91 : Get := fun e k => Env.rec (motive := fun _ => Bool) (fun r0 r1 r2 r3 r4 r5 r6 r7 r8 r9 r10 r11 r12 => ERow.rec (motive := fun _ => Bool) (fun x0 x1 x2 x3 x4 x5 x6 x7 x8 x9 x10 x11 => k x7) r7) e
theorem gt91 : GetOk t91 91 := fun e k => by cases e with | mk r0 r1 r2 r3 r4 r5 r6 r7 r8 r9 r10 r11 r12 => cases r7; rfl
noncomputable def p91 : Put := fun v e k => Env.rec (motive := fun _ => Bool) (fun r0 r1 r2 r3 r4 r5 r6 r7 r8 r9 r10 r11 r12 => ERow.rec (motive := fun _ => Bool) (fun x0 x1 x2 x3 x4 x5 x6 x7 x8 x9 x10 x11 => k (.mk r0 r1 r2 r3 r4 r5 r6 (.mk x0 x1 x2 x3 x4 x5 x6 v x8 x9 x10 x11) r8 r9 r10 r11 r12)) r7) e
theorem pt91 : PutOk p91 91 := fun v e k => by
  have h := put_ok eg7 ep7 ip7 (t := 91) rfl rfl v e k
  cases e with | mk r0 r1 r2 r3 r4 r5 r6 r7 r8 r9 r10 r11 r12 => cases r7; exact h
noncomputable def t92 : Get := fun e k => Env.rec (motive := fun _ => Bool) (fun r0 r1 r2 r3 r4 r5 r6 r7 r8 r9 r10 r11 r12 => ERow.rec (motive := fun _ => Bool) (fun x0 x1 x2 x3 x4 x5 x6 x7 x8 x9 x10 x11 => k x8) r7) e
theorem gt92 : GetOk t92 92 := fun e k => by cases e with | mk r0 r1 r2 r3 r4 r5 r6 r7 r8 r9 r10 r11 r12 => cases r7; rfl
noncomputable def p92 : Put := fun v e k => Env.rec (motive := fun _ => Bool) (fun r0 r1 r2 r3 r4 r5 r6 r7 r8 r9 r10 r11 r12 => ERow.rec (motive := fun _ => Bool) (fun x0 x1 x2 x3 x4 x5 x6 x7 x8 x9 x10 x11 => k (.mk r0 r1 r2 r3 r4 r5 r6 (.mk x0 x1 x2 x3 x4 x5 x6 x7 v x9 x10 x11) r8 r9 r10 r11 r12)) r7) e
theorem pt92 : PutOk p92 92 := fun v e k => by
  have h := put_ok eg7 ep7 ip8 (t := 92) rfl rfl v e k
  cases e with | mk r0 r1 r2 r3 r4 r5 r6 r7 r8 r9 r10 r11 r12 => cases r7; exact h
noncomputable def t93 : Get := fun e k => Env.rec (motive := fun _ => Bool) (fun r0 r1 r2 r3 r4 r5 r6 r7 r8 r9 r10 r11 r12 => ERow.rec (motive := fun _ => Bool) (fun x0 x1 x2 x3 x4 x5 x6 x7 x8 x9 x10 x11 => k x9) r7) e
theorem gt93 : GetOk t93 93 := fun e k => by cases e with | mk r0 r1 r2 r3 r4 r5 r6 r7 r8 r9 r10 r11 r12 => cases r7; rfl
noncomputable def p93 : Put := fun v e k => Env.rec (motive := fun _ => Bool) (fun r0 r1 r2 r3 r4 r5 r6 r7 r8 r9 r10 r11 r12 => ERow.rec (motive := fun _ => Bool) (fun x0 x1 x2 x3 x4 x5 x6 x7 x8 x9 x10 x11 => k (.mk r0 r1 r2 r3 r4 r5 r6 (.mk x0 x1 x2 x3 x4 x5 x6 x7 x8 v x10 x11) r8 r9 r10 r11 r12)) r7) e
theorem pt93 : PutOk p93 93 := fun v e k => by
  have h := put_ok eg7 ep7 ip9 (t := 93) rfl rfl v e k
  cases e with | mk r0 r1 r2 r3 r4 r5 r6 r7 r8 r9 r10 r11 r12 => cases r7; exact h
noncomputable def t94 : Get := fun e k => Env.rec (motive := fun _ => Bool) (fun r0 r1 r2 r3 r4 r5 r6 r7 r8 r9 r10 r11 r12 => ERow.rec (motive := fun _ => Bool) (fun x0 x1 x2 x3 x4 x5 x6 x7 x8 x9 x10 x11 => k x10) r7) e
theorem gt94 : GetOk t94 94 := fun e k => by cases e with | mk r0 r1 r2 r3 r4 r5 r6 r7 r8 r9 r10 r11 r12 => cases r7; rfl
noncomputable def p94 : Put := fun v e k => Env.rec (motive := fun _ => Bool) (fun r0 r1 r2 r3 r4 r5 r6 r7 r8 r9 r10 r11 r12 => ERow.rec (motive := fun _ => Bool) (fun x0 x1 x2 x3 x4 x5 x6 x7 x8 x9 x10 x11 => k (.mk r0 r1 r2 r3 r4 r5 r6 (.mk x0 x1 x2 x3 x4 x5 x6 x7 x8 x9 v x11) r8 r9 r10 r11 r12)) r7) e
theorem pt94 : PutOk p94 94 := fun v e k => by
  have h := put_ok eg7 ep7 ip10 (t := 94) rfl rfl v e k
  cases e with | mk r0 r1 r2 r3 r4 r5 r6 r7 r8 r9 r10 r11 r12 => cases r7; exact h
noncomputable def t95 : Get := fun e k => Env.rec (motive := fun _ => Bool) (fun r0 r1 r2 r3 r4 r5 r6 r7 r8 r9 r10 r11 r12 => ERow.rec (motive := fun _ => Bool) (fun x0 x1 x2 x3 x4 x5 x6 x7 x8 x9 x10 x11 => k x11) r7) e
theorem gt95 : GetOk t95 95 := fun e k => by cases e with | mk r0 r1 r2 r3 r4 r5 r6 r7 r8 r9 r10 r11 r12 => cases r7; rfl
noncomputable def p95 : Put := fun v e k => Env.rec (motive := fun _ => Bool) (fun r0 r1 r2 r3 r4 r5 r6 r7 r8 r9 r10 r11 r12 => ERow.rec (motive := fun _ => Bool) (fun x0 x1 x2 x3 x4 x5 x6 x7 x8 x9 x10 x11 => k (.mk r0 r1 r2 r3 r4 r5 r6 (.mk x0 x1 x2 x3 x4 x5 x6 x7 x8 x9 x10 v) r8 r9 r10 r11 r12)) r7) e
theorem pt95 : PutOk p95 95 := fun v e k => by
  have h := put_ok eg7 ep7 ip11 (t := 95) rfl rfl v e k
  cases e with | mk r0 r1 r2 r3 r4 r5 r6 r7 r8 r9 r10 r11 r12 => cases r7; exact h
noncomputable def t96 : Get := fun e k => Env.rec (motive := fun _ => Bool) (fun r0 r1 r2 r3 r4 r5 r6 r7 r8 r9 r10 r11 r12 => ERow.rec (motive := fun _ => Bool) (fun x0 x1 x2 x3 x4 x5 x6 x7 x8 x9 x10 x11 => k x0) r8) e
theorem gt96 : GetOk t96 96 := fun e k => by cases e with | mk r0 r1 r2 r3 r4 r5 r6 r7 r8 r9 r10 r11 r12 => cases r8; rfl
noncomputable def p96 : Put := fun v e k => Env.rec (motive := fun _ => Bool) (fun r0 r1 r2 r3 r4 r5 r6 r7 r8 r9 r10 r11 r12 => ERow.rec (motive := fun _ => Bool) (fun x0 x1 x2 x3 x4 x5 x6 x7 x8 x9 x10 x11 => k (.mk r0 r1 r2 r3 r4 r5 r6 r7 (.mk v x1 x2 x3 x4 x5 x6 x7 x8 x9 x10 x11) r9 r10 r11 r12)) r8) e
theorem pt96 : PutOk p96 96 := fun v e k => by
  have h := put_ok eg8 ep8 ip0 (t := 96) rfl rfl v e k
  cases e with | mk r0 r1 r2 r3 r4 r5 r6 r7 r8 r9 r10 r11 r12 => cases r8; exact h
noncomputable def t97 : Get := fun e k => Env.rec (motive := fun _ => Bool) (fun r0 r1 r2 r3 r4 r5 r6 r7 r8 r9 r10 r11 r12 => ERow.rec (motive := fun _ => Bool) (fun x0 x1 x2 x3 x4 x5 x6 x7 x8 x9 x10 x11 => k x1) r8) e
theorem gt97 : GetOk t97 97 := fun e k => by cases e with | mk r0 r1 r2 r3 r4 r5 r6 r7 r8 r9 r10 r11 r12 => cases r8; rfl
noncomputable def p97 : Put := fun v e k => Env.rec (motive := fun _ => Bool) (fun r0 r1 r2 r3 r4 r5 r6 r7 r8 r9 r10 r11 r12 => ERow.rec (motive := fun _ => Bool) (fun x0 x1 x2 x3 x4 x5 x6 x7 x8 x9 x10 x11 => k (.mk r0 r1 r2 r3 r4 r5 r6 r7 (.mk x0 v x2 x3 x4 x5 x6 x7 x8 x9 x10 x11) r9 r10 r11 r12)) r8) e
theorem pt97 : PutOk p97 97 := fun v e k => by
  have h := put_ok eg8 ep8 ip1 (t := 97) rfl rfl v e k
  cases e with | mk r0 r1 r2 r3 r4 r5 r6 r7 r8 r9 r10 r11 r12 => cases r8; exact h
noncomputable def t98 : Get := fun e k => Env.rec (motive := fun _ => Bool) (fun r0 r1 r2 r3 r4 r5 r6 r7 r8 r9 r10 r11 r12 => ERow.rec (motive := fun _ => Bool) (fun x0 x1 x2 x3 x4 x5 x6 x7 x8 x9 x10 x11 => k x2) r8) e
theorem gt98 : GetOk t98 98 := fun e k => by cases e with | mk r0 r1 r2 r3 r4 r5 r6 r7 r8 r9 r10 r11 r12 => cases r8; rfl
noncomputable def p98 : Put := fun v e k => Env.rec (motive := fun _ => Bool) (fun r0 r1 r2 r3 r4 r5 r6 r7 r8 r9 r10 r11 r12 => ERow.rec (motive := fun _ => Bool) (fun x0 x1 x2 x3 x4 x5 x6 x7 x8 x9 x10 x11 => k (.mk r0 r1 r2 r3 r4 r5 r6 r7 (.mk x0 x1 v x3 x4 x5 x6 x7 x8 x9 x10 x11) r9 r10 r11 r12)) r8) e
theorem pt98 : PutOk p98 98 := fun v e k => by
  have h := put_ok eg8 ep8 ip2 (t := 98) rfl rfl v e k
  cases e with | mk r0 r1 r2 r3 r4 r5 r6 r7 r8 r9 r10 r11 r12 => cases r8; exact h
noncomputable def t99 : Get := fun e k => Env.rec (motive := fun _ => Bool) (fun r0 r1 r2 r3 r4 r5 r6 r7 r8 r9 r10 r11 r12 => ERow.rec (motive := fun _ => Bool) (fun x0 x1 x2 x3 x4 x5 x6 x7 x8 x9 x10 x11 => k x3) r8) e
theorem gt99 : GetOk t99 99 := fun e k => by cases e with | mk r0 r1 r2 r3 r4 r5 r6 r7 r8 r9 r10 r11 r12 => cases r8; rfl
noncomputable def p99 : Put := fun v e k => Env.rec (motive := fun _ => Bool) (fun r0 r1 r2 r3 r4 r5 r6 r7 r8 r9 r10 r11 r12 => ERow.rec (motive := fun _ => Bool) (fun x0 x1 x2 x3 x4 x5 x6 x7 x8 x9 x10 x11 => k (.mk r0 r1 r2 r3 r4 r5 r6 r7 (.mk x0 x1 x2 v x4 x5 x6 x7 x8 x9 x10 x11) r9 r10 r11 r12)) r8) e
theorem pt99 : PutOk p99 99 := fun v e k => by
  have h := put_ok eg8 ep8 ip3 (t := 99) rfl rfl v e k
  cases e with | mk r0 r1 r2 r3 r4 r5 r6 r7 r8 r9 r10 r11 r12 => cases r8; exact h
noncomputable def t100 : Get := fun e k => Env.rec (motive := fun _ => Bool) (fun r0 r1 r2 r3 r4 r5 r6 r7 r8 r9 r10 r11 r12 => ERow.rec (motive := fun _ => Bool) (fun x0 x1 x2 x3 x4 x5 x6 x7 x8 x9 x10 x11 => k x4) r8) e
theorem gt100 : GetOk t100 100 := fun e k => by cases e with | mk r0 r1 r2 r3 r4 r5 r6 r7 r8 r9 r10 r11 r12 => cases r8; rfl
noncomputable def p100 : Put := fun v e k => Env.rec (motive := fun _ => Bool) (fun r0 r1 r2 r3 r4 r5 r6 r7 r8 r9 r10 r11 r12 => ERow.rec (motive := fun _ => Bool) (fun x0 x1 x2 x3 x4 x5 x6 x7 x8 x9 x10 x11 => k (.mk r0 r1 r2 r3 r4 r5 r6 r7 (.mk x0 x1 x2 x3 v x5 x6 x7 x8 x9 x10 x11) r9 r10 r11 r12)) r8) e
theorem pt100 : PutOk p100 100 := fun v e k => by
  have h := put_ok eg8 ep8 ip4 (t := 100) rfl rfl v e k
  cases e with | mk r0 r1 r2 r3 r4 r5 r6 r7 r8 r9 r10 r11 r12 => cases r8; exact h
noncomputable def t101 : Get := fun e k => Env.rec (motive := fun _ => Bool) (fun r0 r1 r2 r3 r4 r5 r6 r7 r8 r9 r10 r11 r12 => ERow.rec (motive := fun _ => Bool) (fun x0 x1 x2 x3 x4 x5 x6 x7 x8 x9 x10 x11 => k x5) r8) e
theorem gt101 : GetOk t101 101 := fun e k => by cases e with | mk r0 r1 r2 r3 r4 r5 r6 r7 r8 r9 r10 r11 r12 => cases r8; rfl
noncomputable def p101 : Put := fun v e k => Env.rec (motive := fun _ => Bool) (fun r0 r1 r2 r3 r4 r5 r6 r7 r8 r9 r10 r11 r12 => ERow.rec (motive := fun _ => Bool) (fun x0 x1 x2 x3 x4 x5 x6 x7 x8 x9 x10 x11 => k (.mk r0 r1 r2 r3 r4 r5 r6 r7 (.mk x0 x1 x2 x3 x4 v x6 x7 x8 x9 x10 x11) r9 r10 r11 r12)) r8) e
theorem pt101 : PutOk p101 101 := fun v e k => by
  have h := put_ok eg8 ep8 ip5 (t := 101) rfl rfl v e k
  cases e with | mk r0 r1 r2 r3 r4 r5 r6 r7 r8 r9 r10 r11 r12 => cases r8; exact h
noncomputable def t102 : Get := fun e k => Env.rec (motive := fun _ => Bool) (fun r0 r1 r2 r3 r4 r5 r6 r7 r8 r9 r10 r11 r12 => ERow.rec (motive := fun _ => Bool) (fun x0 x1 x2 x3 x4 x5 x6 x7 x8 x9 x10 x11 => k x6) r8) e
theorem gt102 : GetOk t102 102 := fun e k => by cases e with | mk r0 r1 r2 r3 r4 r5 r6 r7 r8 r9 r10 r11 r12 => cases r8; rfl
noncomputable def p102 : Put := fun v e k => Env.rec (motive := fun _ => Bool) (fun r0 r1 r2 r3 r4 r5 r6 r7 r8 r9 r10 r11 r12 => ERow.rec (motive := fun _ => Bool) (fun x0 x1 x2 x3 x4 x5 x6 x7 x8 x9 x10 x11 => k (.mk r0 r1 r2 r3 r4 r5 r6 r7 (.mk x0 x1 x2 x3 x4 x5 v x7 x8 x9 x10 x11) r9 r10 r11 r12)) r8) e
theorem pt102 : PutOk p102 102 := fun v e k => by
  have h := put_ok eg8 ep8 ip6 (t := 102) rfl rfl v e k
  cases e with | mk r0 r1 r2 r3 r4 r5 r6 r7 r8 r9 r10 r11 r12 => cases r8; exact h
noncomputable def t103 : Get := fun e k => Env.rec (motive := fun _ => Bool) (fun r0 r1 r2 r3 r4 r5 r6 r7 r8 r9 r10 r11 r12 => ERow.rec (motive := fun _ => Bool) (fun x0 x1 x2 x3 x4 x5 x6 x7 x8 x9 x10 x11 => k x7) r8) e
theorem gt103 : GetOk t103 103 := fun e k => by cases e with | mk r0 r1 r2 r3 r4 r5 r6 r7 r8 r9 r10 r11 r12 => cases r8; rfl
noncomputable def p103 : Put := fun v e k => Env.rec (motive := fun _ => Bool) (fun r0 r1 r2 r3 r4 r5 r6 r7 r8 r9 r10 r11 r12 => ERow.rec (motive := fun _ => Bool) (fun x0 x1 x2 x3 x4 x5 x6 x7 x8 x9 x10 x11 => k (.mk r0 r1 r2 r3 r4 r5 r6 r7 (.mk x0 x1 x2 x3 x4 x5 x6 v x8 x9 x10 x11) r9 r10 r11 r12)) r8) e
theorem pt103 : PutOk p103 103 := fun v e k => by
  have h := put_ok eg8 ep8 ip7 (t := 103) rfl rfl v e k
  cases e with | mk r0 r1 r2 r3 r4 r5 r6 r7 r8 r9 r10 r11 r12 => cases r8; exact h
noncomputable def t104 : Get := fun e k => Env.rec (motive := fun _ => Bool) (fun r0 r1 r2 r3 r4 r5 r6 r7 r8 r9 r10 r11 r12 => ERow.rec (motive := fun _ => Bool) (fun x0 x1 x2 x3 x4 x5 x6 x7 x8 x9 x10 x11 => k x8) r8) e
theorem gt104 : GetOk t104 104 := fun e k => by cases e with | mk r0 r1 r2 r3 r4 r5 r6 r7 r8 r9 r10 r11 r12 => cases r8; rfl
noncomputable def p104 : Put := fun v e k => Env.rec (motive := fun _ => Bool) (fun r0 r1 r2 r3 r4 r5 r6 r7 r8 r9 r10 r11 r12 => ERow.rec (motive := fun _ => Bool) (fun x0 x1 x2 x3 x4 x5 x6 x7 x8 x9 x10 x11 => k (.mk r0 r1 r2 r3 r4 r5 r6 r7 (.mk x0 x1 x2 x3 x4 x5 x6 x7 v x9 x10 x11) r9 r10 r11 r12)) r8) e
theorem pt104 : PutOk p104 104 := fun v e k => by
  have h := put_ok eg8 ep8 ip8 (t := 104) rfl rfl v e k
  cases e with | mk r0 r1 r2 r3 r4 r5 r6 r7 r8 r9 r10 r11 r12 => cases r8; exact h
noncomputable def t105 : Get := fun e k => Env.rec (motive := fun _ => Bool) (fun r0 r1 r2 r3 r4 r5 r6 r7 r8 r9 r10 r11 r12 => ERow.rec (motive := fun _ => Bool) (fun x0 x1 x2 x3 x4 x5 x6 x7 x8 x9 x10 x11 => k x9) r8) e
theorem gt105 : GetOk t105 105 := fun e k => by cases e with | mk r0 r1 r2 r3 r4 r5 r6 r7 r8 r9 r10 r11 r12 => cases r8; rfl
noncomputable def p105 : Put := fun v e k => Env.rec (motive := fun _ => Bool) (fun r0 r1 r2 r3 r4 r5 r6 r7 r8 r9 r10 r11 r12 => ERow.rec (motive := fun _ => Bool) (fun x0 x1 x2 x3 x4 x5 x6 x7 x8 x9 x10 x11 => k (.mk r0 r1 r2 r3 r4 r5 r6 r7 (.mk x0 x1 x2 x3 x4 x5 x6 x7 x8 v x10 x11) r9 r10 r11 r12)) r8) e
theorem pt105 : PutOk p105 105 := fun v e k => by
  have h := put_ok eg8 ep8 ip9 (t := 105) rfl rfl v e k
  cases e with | mk r0 r1 r2 r3 r4 r5 r6 r7 r8 r9 r10 r11 r12 => cases r8; exact h
noncomputable def t106 : Get := fun e k => Env.rec (motive := fun _ => Bool) (fun r0 r1 r2 r3 r4 r5 r6 r7 r8 r9 r10 r11 r12 => ERow.rec (motive := fun _ => Bool) (fun x0 x1 x2 x3 x4 x5 x6 x7 x8 x9 x10 x11 => k x10) r8) e
theorem gt106 : GetOk t106 106 := fun e k => by cases e with | mk r0 r1 r2 r3 r4 r5 r6 r7 r8 r9 r10 r11 r12 => cases r8; rfl
noncomputable def p106 : Put := fun v e k => Env.rec (motive := fun _ => Bool) (fun r0 r1 r2 r3 r4 r5 r6 r7 r8 r9 r10 r11 r12 => ERow.rec (motive := fun _ => Bool) (fun x0 x1 x2 x3 x4 x5 x6 x7 x8 x9 x10 x11 => k (.mk r0 r1 r2 r3 r4 r5 r6 r7 (.mk x0 x1 x2 x3 x4 x5 x6 x7 x8 x9 v x11) r9 r10 r11 r12)) r8) e
theorem pt106 : PutOk p106 106 := fun v e k => by
  have h := put_ok eg8 ep8 ip10 (t := 106) rfl rfl v e k
  cases e with | mk r0 r1 r2 r3 r4 r5 r6 r7 r8 r9 r10 r11 r12 => cases r8; exact h
noncomputable def t107 : Get := fun e k => Env.rec (motive := fun _ => Bool) (fun r0 r1 r2 r3 r4 r5 r6 r7 r8 r9 r10 r11 r12 => ERow.rec (motive := fun _ => Bool) (fun x0 x1 x2 x3 x4 x5 x6 x7 x8 x9 x10 x11 => k x11) r8) e
theorem gt107 : GetOk t107 107 := fun e k => by cases e with | mk r0 r1 r2 r3 r4 r5 r6 r7 r8 r9 r10 r11 r12 => cases r8; rfl
noncomputable def p107 : Put := fun v e k => Env.rec (motive := fun _ => Bool) (fun r0 r1 r2 r3 r4 r5 r6 r7 r8 r9 r10 r11 r12 => ERow.rec (motive := fun _ => Bool) (fun x0 x1 x2 x3 x4 x5 x6 x7 x8 x9 x10 x11 => k (.mk r0 r1 r2 r3 r4 r5 r6 r7 (.mk x0 x1 x2 x3 x4 x5 x6 x7 x8 x9 x10 v) r9 r10 r11 r12)) r8) e
theorem pt107 : PutOk p107 107 := fun v e k => by
  have h := put_ok eg8 ep8 ip11 (t := 107) rfl rfl v e k
  cases e with | mk r0 r1 r2 r3 r4 r5 r6 r7 r8 r9 r10 r11 r12 => cases r8; exact h
noncomputable def t108 : Get := fun e k => Env.rec (motive := fun _ => Bool) (fun r0 r1 r2 r3 r4 r5 r6 r7 r8 r9 r10 r11 r12 => ERow.rec (motive := fun _ => Bool) (fun x0 x1 x2 x3 x4 x5 x6 x7 x8 x9 x10 x11 => k x0) r9) e
theorem gt108 : GetOk t108 108 := fun e k => by cases e with | mk r0 r1 r2 r3 r4 r5 r6 r7 r8 r9 r10 r11 r12 => cases r9; rfl
noncomputable def p108 : Put := fun v e k => Env.rec (motive := fun _ => Bool) (fun r0 r1 r2 r3 r4 r5 r6 r7 r8 r9 r10 r11 r12 => ERow.rec (motive := fun _ => Bool) (fun x0 x1 x2 x3 x4 x5 x6 x7 x8 x9 x10 x11 => k (.mk r0 r1 r2 r3 r4 r5 r6 r7 r8 (.mk v x1 x2 x3 x4 x5 x6 x7 x8 x9 x10 x11) r10 r11 r12)) r9) e
theorem pt108 : PutOk p108 108 := fun v e k => by
  have h := put_ok eg9 ep9 ip0 (t := 108) rfl rfl v e k
  cases e with | mk r0 r1 r2 r3 r4 r5 r6 r7 r8 r9 r10 r11 r12 => cases r9; exact h
noncomputable def t109 : Get := fun e k => Env.rec (motive := fun _ => Bool) (fun r0 r1 r2 r3 r4 r5 r6 r7 r8 r9 r10 r11 r12 => ERow.rec (motive := fun _ => Bool) (fun x0 x1 x2 x3 x4 x5 x6 x7 x8 x9 x10 x11 => k x1) r9) e
theorem gt109 : GetOk t109 109 := fun e k => by cases e with | mk r0 r1 r2 r3 r4 r5 r6 r7 r8 r9 r10 r11 r12 => cases r9; rfl
noncomputable def p109 : Put := fun v e k => Env.rec (motive := fun _ => Bool) (fun r0 r1 r2 r3 r4 r5 r6 r7 r8 r9 r10 r11 r12 => ERow.rec (motive := fun _ => Bool) (fun x0 x1 x2 x3 x4 x5 x6 x7 x8 x9 x10 x11 => k (.mk r0 r1 r2 r3 r4 r5 r6 r7 r8 (.mk x0 v x2 x3 x4 x5 x6 x7 x8 x9 x10 x11) r10 r11 r12)) r9) e
theorem pt109 : PutOk p109 109 := fun v e k => by
  have h := put_ok eg9 ep9 ip1 (t := 109) rfl rfl v e k
  cases e with | mk r0 r1 r2 r3 r4 r5 r6 r7 r8 r9 r10 r11 r12 => cases r9; exact h
noncomputable def t110 : Get := fun e k => Env.rec (motive := fun _ => Bool) (fun r0 r1 r2 r3 r4 r5 r6 r7 r8 r9 r10 r11 r12 => ERow.rec (motive := fun _ => Bool) (fun x0 x1 x2 x3 x4 x5 x6 x7 x8 x9 x10 x11 => k x2) r9) e
theorem gt110 : GetOk t110 110 := fun e k => by cases e with | mk r0 r1 r2 r3 r4 r5 r6 r7 r8 r9 r10 r11 r12 => cases r9; rfl
noncomputable def p110 : Put := fun v e k => Env.rec (motive := fun _ => Bool) (fun r0 r1 r2 r3 r4 r5 r6 r7 r8 r9 r10 r11 r12 => ERow.rec (motive := fun _ => Bool) (fun x0 x1 x2 x3 x4 x5 x6 x7 x8 x9 x10 x11 => k (.mk r0 r1 r2 r3 r4 r5 r6 r7 r8 (.mk x0 x1 v x3 x4 x5 x6 x7 x8 x9 x10 x11) r10 r11 r12)) r9) e
theorem pt110 : PutOk p110 110 := fun v e k => by
  have h := put_ok eg9 ep9 ip2 (t := 110) rfl rfl v e k
  cases e with | mk r0 r1 r2 r3 r4 r5 r6 r7 r8 r9 r10 r11 r12 => cases r9; exact h
noncomputable def t111 : Get := fun e k => Env.rec (motive := fun _ => Bool) (fun r0 r1 r2 r3 r4 r5 r6 r7 r8 r9 r10 r11 r12 => ERow.rec (motive := fun _ => Bool) (fun x0 x1 x2 x3 x4 x5 x6 x7 x8 x9 x10 x11 => k x3) r9) e
theorem gt111 : GetOk t111 111 := fun e k => by cases e with | mk r0 r1 r2 r3 r4 r5 r6 r7 r8 r9 r10 r11 r12 => cases r9; rfl
noncomputable def p111 : Put := fun v e k => Env.rec (motive := fun _ => Bool) (fun r0 r1 r2 r3 r4 r5 r6 r7 r8 r9 r10 r11 r12 => ERow.rec (motive := fun _ => Bool) (fun x0 x1 x2 x3 x4 x5 x6 x7 x8 x9 x10 x11 => k (.mk r0 r1 r2 r3 r4 r5 r6 r7 r8 (.mk x0 x1 x2 v x4 x5 x6 x7 x8 x9 x10 x11) r10 r11 r12)) r9) e
theorem pt111 : PutOk p111 111 := fun v e k => by
  have h := put_ok eg9 ep9 ip3 (t := 111) rfl rfl v e k
  cases e with | mk r0 r1 r2 r3 r4 r5 r6 r7 r8 r9 r10 r11 r12 => cases r9; exact h
noncomputable def t112 : Get := fun e k => Env.rec (motive := fun _ => Bool) (fun r0 r1 r2 r3 r4 r5 r6 r7 r8 r9 r10 r11 r12 => ERow.rec (motive := fun _ => Bool) (fun x0 x1 x2 x3 x4 x5 x6 x7 x8 x9 x10 x11 => k x4) r9) e
theorem gt112 : GetOk t112 112 := fun e k => by cases e with | mk r0 r1 r2 r3 r4 r5 r6 r7 r8 r9 r10 r11 r12 => cases r9; rfl
noncomputable def p112 : Put := fun v e k => Env.rec (motive := fun _ => Bool) (fun r0 r1 r2 r3 r4 r5 r6 r7 r8 r9 r10 r11 r12 => ERow.rec (motive := fun _ => Bool) (fun x0 x1 x2 x3 x4 x5 x6 x7 x8 x9 x10 x11 => k (.mk r0 r1 r2 r3 r4 r5 r6 r7 r8 (.mk x0 x1 x2 x3 v x5 x6 x7 x8 x9 x10 x11) r10 r11 r12)) r9) e
theorem pt112 : PutOk p112 112 := fun v e k => by
  have h := put_ok eg9 ep9 ip4 (t := 112) rfl rfl v e k
  cases e with | mk r0 r1 r2 r3 r4 r5 r6 r7 r8 r9 r10 r11 r12 => cases r9; exact h
noncomputable def t113 : Get := fun e k => Env.rec (motive := fun _ => Bool) (fun r0 r1 r2 r3 r4 r5 r6 r7 r8 r9 r10 r11 r12 => ERow.rec (motive := fun _ => Bool) (fun x0 x1 x2 x3 x4 x5 x6 x7 x8 x9 x10 x11 => k x5) r9) e
theorem gt113 : GetOk t113 113 := fun e k => by cases e with | mk r0 r1 r2 r3 r4 r5 r6 r7 r8 r9 r10 r11 r12 => cases r9; rfl
noncomputable def p113 : Put := fun v e k => Env.rec (motive := fun _ => Bool) (fun r0 r1 r2 r3 r4 r5 r6 r7 r8 r9 r10 r11 r12 => ERow.rec (motive := fun _ => Bool) (fun x0 x1 x2 x3 x4 x5 x6 x7 x8 x9 x10 x11 => k (.mk r0 r1 r2 r3 r4 r5 r6 r7 r8 (.mk x0 x1 x2 x3 x4 v x6 x7 x8 x9 x10 x11) r10 r11 r12)) r9) e
theorem pt113 : PutOk p113 113 := fun v e k => by
  have h := put_ok eg9 ep9 ip5 (t := 113) rfl rfl v e k
  cases e with | mk r0 r1 r2 r3 r4 r5 r6 r7 r8 r9 r10 r11 r12 => cases r9; exact h
noncomputable def t114 : Get := fun e k => Env.rec (motive := fun _ => Bool) (fun r0 r1 r2 r3 r4 r5 r6 r7 r8 r9 r10 r11 r12 => ERow.rec (motive := fun _ => Bool) (fun x0 x1 x2 x3 x4 x5 x6 x7 x8 x9 x10 x11 => k x6) r9) e
theorem gt114 : GetOk t114 114 := fun e k => by cases e with | mk r0 r1 r2 r3 r4 r5 r6 r7 r8 r9 r10 r11 r12 => cases r9; rfl
noncomputable def p114 : Put := fun v e k => Env.rec (motive := fun _ => Bool) (fun r0 r1 r2 r3 r4 r5 r6 r7 r8 r9 r10 r11 r12 => ERow.rec (motive := fun _ => Bool) (fun x0 x1 x2 x3 x4 x5 x6 x7 x8 x9 x10 x11 => k (.mk r0 r1 r2 r3 r4 r5 r6 r7 r8 (.mk x0 x1 x2 x3 x4 x5 v x7 x8 x9 x10 x11) r10 r11 r12)) r9) e
theorem pt114 : PutOk p114 114 := fun v e k => by
  have h := put_ok eg9 ep9 ip6 (t := 114) rfl rfl v e k
  cases e with | mk r0 r1 r2 r3 r4 r5 r6 r7 r8 r9 r10 r11 r12 => cases r9; exact h
noncomputable def t115 : Get := fun e k => Env.rec (motive := fun _ => Bool) (fun r0 r1 r2 r3 r4 r5 r6 r7 r8 r9 r10 r11 r12 => ERow.rec (motive := fun _ => Bool) (fun x0 x1 x2 x3 x4 x5 x6 x7 x8 x9 x10 x11 => k x7) r9) e
theorem gt115 : GetOk t115 115 := fun e k => by cases e with | mk r0 r1 r2 r3 r4 r5 r6 r7 r8 r9 r10 r11 r12 => cases r9; rfl
noncomputable def p115 : Put := fun v e k => Env.rec (motive := fun _ => Bool) (fun r0 r1 r2 r3 r4 r5 r6 r7 r8 r9 r10 r11 r12 => ERow.rec (motive := fun _ => Bool) (fun x0 x1 x2 x3 x4 x5 x6 x7 x8 x9 x10 x11 => k (.mk r0 r1 r2 r3 r4 r5 r6 r7 r8 (.mk x0 x1 x2 x3 x4 x5 x6 v x8 x9 x10 x11) r10 r11 r12)) r9) e
theorem pt115 : PutOk p115 115 := fun v e k => by
  have h := put_ok eg9 ep9 ip7 (t := 115) rfl rfl v e k
  cases e with | mk r0 r1 r2 r3 r4 r5 r6 r7 r8 r9 r10 r11 r12 => cases r9; exact h
noncomputable def t116 : Get := fun e k => Env.rec (motive := fun _ => Bool) (fun r0 r1 r2 r3 r4 r5 r6 r7 r8 r9 r10 r11 r12 => ERow.rec (motive := fun _ => Bool) (fun x0 x1 x2 x3 x4 x5 x6 x7 x8 x9 x10 x11 => k x8) r9) e
theorem gt116 : GetOk t116 116 := fun e k => by cases e with | mk r0 r1 r2 r3 r4 r5 r6 r7 r8 r9 r10 r11 r12 => cases r9; rfl
noncomputable def p116 : Put := fun v e k => Env.rec (motive := fun _ => Bool) (fun r0 r1 r2 r3 r4 r5 r6 r7 r8 r9 r10 r11 r12 => ERow.rec (motive := fun _ => Bool) (fun x0 x1 x2 x3 x4 x5 x6 x7 x8 x9 x10 x11 => k (.mk r0 r1 r2 r3 r4 r5 r6 r7 r8 (.mk x0 x1 x2 x3 x4 x5 x6 x7 v x9 x10 x11) r10 r11 r12)) r9) e
theorem pt116 : PutOk p116 116 := fun v e k => by
  have h := put_ok eg9 ep9 ip8 (t := 116) rfl rfl v e k
  cases e with | mk r0 r1 r2 r3 r4 r5 r6 r7 r8 r9 r10 r11 r12 => cases r9; exact h
noncomputable def t117 : Get := fun e k => Env.rec (motive := fun _ => Bool) (fun r0 r1 r2 r3 r4 r5 r6 r7 r8 r9 r10 r11 r12 => ERow.rec (motive := fun _ => Bool) (fun x0 x1 x2 x3 x4 x5 x6 x7 x8 x9 x10 x11 => k x9) r9) e
theorem gt117 : GetOk t117 117 := fun e k => by cases e with | mk r0 r1 r2 r3 r4 r5 r6 r7 r8 r9 r10 r11 r12 => cases r9; rfl
noncomputable def p117 : Put := fun v e k => Env.rec (motive := fun _ => Bool) (fun r0 r1 r2 r3 r4 r5 r6 r7 r8 r9 r10 r11 r12 => ERow.rec (motive := fun _ => Bool) (fun x0 x1 x2 x3 x4 x5 x6 x7 x8 x9 x10 x11 => k (.mk r0 r1 r2 r3 r4 r5 r6 r7 r8 (.mk x0 x1 x2 x3 x4 x5 x6 x7 x8 v x10 x11) r10 r11 r12)) r9) e
theorem pt117 : PutOk p117 117 := fun v e k => by
  have h := put_ok eg9 ep9 ip9 (t := 117) rfl rfl v e k
  cases e with | mk r0 r1 r2 r3 r4 r5 r6 r7 r8 r9 r10 r11 r12 => cases r9; exact h
noncomputable def t118 : Get := fun e k => Env.rec (motive := fun _ => Bool) (fun r0 r1 r2 r3 r4 r5 r6 r7 r8 r9 r10 r11 r12 => ERow.rec (motive := fun _ => Bool) (fun x0 x1 x2 x3 x4 x5 x6 x7 x8 x9 x10 x11 => k x10) r9) e
theorem gt118 : GetOk t118 118 := fun e k => by cases e with | mk r0 r1 r2 r3 r4 r5 r6 r7 r8 r9 r10 r11 r12 => cases r9; rfl
noncomputable def p118 : Put := fun v e k => Env.rec (motive := fun _ => Bool) (fun r0 r1 r2 r3 r4 r5 r6 r7 r8 r9 r10 r11 r12 => ERow.rec (motive := fun _ => Bool) (fun x0 x1 x2 x3 x4 x5 x6 x7 x8 x9 x10 x11 => k (.mk r0 r1 r2 r3 r4 r5 r6 r7 r8 (.mk x0 x1 x2 x3 x4 x5 x6 x7 x8 x9 v x11) r10 r11 r12)) r9) e
theorem pt118 : PutOk p118 118 := fun v e k => by
  have h := put_ok eg9 ep9 ip10 (t := 118) rfl rfl v e k
  cases e with | mk r0 r1 r2 r3 r4 r5 r6 r7 r8 r9 r10 r11 r12 => cases r9; exact h
noncomputable def t119 : Get := fun e k => Env.rec (motive := fun _ => Bool) (fun r0 r1 r2 r3 r4 r5 r6 r7 r8 r9 r10 r11 r12 => ERow.rec (motive := fun _ => Bool) (fun x0 x1 x2 x3 x4 x5 x6 x7 x8 x9 x10 x11 => k x11) r9) e
theorem gt119 : GetOk t119 119 := fun e k => by cases e with | mk r0 r1 r2 r3 r4 r5 r6 r7 r8 r9 r10 r11 r12 => cases r9; rfl
noncomputable def p119 : Put := fun v e k => Env.rec (motive := fun _ => Bool) (fun r0 r1 r2 r3 r4 r5 r6 r7 r8 r9 r10 r11 r12 => ERow.rec (motive := fun _ => Bool) (fun x0 x1 x2 x3 x4 x5 x6 x7 x8 x9 x10 x11 => k (.mk r0 r1 r2 r3 r4 r5 r6 r7 r8 (.mk x0 x1 x2 x3 x4 x5 x6 x7 x8 x9 x10 v) r10 r11 r12)) r9) e
theorem pt119 : PutOk p119 119 := fun v e k => by
  have h := put_ok eg9 ep9 ip11 (t := 119) rfl rfl v e k
  cases e with | mk r0 r1 r2 r3 r4 r5 r6 r7 r8 r9 r10 r11 r12 => cases r9; exact h
noncomputable def t120 : Get := fun e k => Env.rec (motive := fun _ => Bool) (fun r0 r1 r2 r3 r4 r5 r6 r7 r8 r9 r10 r11 r12 => ERow.rec (motive := fun _ => Bool) (fun x0 x1 x2 x3 x4 x5 x6 x7 x8 x9 x10 x11 => k x0) r10) e
theorem gt120 : GetOk t120 120 := fun e k => by cases e with | mk r0 r1 r2 r3 r4 r5 r6 r7 r8 r9 r10 r11 r12 => cases r10; rfl
noncomputable def p120 : Put := fun v e k => Env.rec (motive := fun _ => Bool) (fun r0 r1 r2 r3 r4 r5 r6 r7 r8 r9 r10 r11 r12 => ERow.rec (motive := fun _ => Bool) (fun x0 x1 x2 x3 x4 x5 x6 x7 x8 x9 x10 x11 => k (.mk r0 r1 r2 r3 r4 r5 r6 r7 r8 r9 (.mk v x1 x2 x3 x4 x5 x6 x7 x8 x9 x10 x11) r11 r12)) r10) e
theorem pt120 : PutOk p120 120 := fun v e k => by
  have h := put_ok eg10 ep10 ip0 (t := 120) rfl rfl v e k
  cases e with | mk r0 r1 r2 r3 r4 r5 r6 r7 r8 r9 r10 r11 r12 => cases r10; exact h
noncomputable def t121 : Get := fun e k => Env.rec (motive := fun _ => Bool) (fun r0 r1 r2 r3 r4 r5 r6 r7 r8 r9 r10 r11 r12 => ERow.rec (motive := fun _ => Bool) (fun x0 x1 x2 x3 x4 x5 x6 x7 x8 x9 x10 x11 => k x1) r10) e
theorem gt121 : GetOk t121 121 := fun e k => by cases e with | mk r0 r1 r2 r3 r4 r5 r6 r7 r8 r9 r10 r11 r12 => cases r10; rfl
noncomputable def p121 : Put := fun v e k => Env.rec (motive := fun _ => Bool) (fun r0 r1 r2 r3 r4 r5 r6 r7 r8 r9 r10 r11 r12 => ERow.rec (motive := fun _ => Bool) (fun x0 x1 x2 x3 x4 x5 x6 x7 x8 x9 x10 x11 => k (.mk r0 r1 r2 r3 r4 r5 r6 r7 r8 r9 (.mk x0 v x2 x3 x4 x5 x6 x7 x8 x9 x10 x11) r11 r12)) r10) e
theorem pt121 : PutOk p121 121 := fun v e k => by
  have h := put_ok eg10 ep10 ip1 (t := 121) rfl rfl v e k
  cases e with | mk r0 r1 r2 r3 r4 r5 r6 r7 r8 r9 r10 r11 r12 => cases r10; exact h
noncomputable def t122 : Get := fun e k => Env.rec (motive := fun _ => Bool) (fun r0 r1 r2 r3 r4 r5 r6 r7 r8 r9 r10 r11 r12 => ERow.rec (motive := fun _ => Bool) (fun x0 x1 x2 x3 x4 x5 x6 x7 x8 x9 x10 x11 => k x2) r10) e
theorem gt122 : GetOk t122 122 := fun e k => by cases e with | mk r0 r1 r2 r3 r4 r5 r6 r7 r8 r9 r10 r11 r12 => cases r10; rfl
noncomputable def p122 : Put := fun v e k => Env.rec (motive := fun _ => Bool) (fun r0 r1 r2 r3 r4 r5 r6 r7 r8 r9 r10 r11 r12 => ERow.rec (motive := fun _ => Bool) (fun x0 x1 x2 x3 x4 x5 x6 x7 x8 x9 x10 x11 => k (.mk r0 r1 r2 r3 r4 r5 r6 r7 r8 r9 (.mk x0 x1 v x3 x4 x5 x6 x7 x8 x9 x10 x11) r11 r12)) r10) e
theorem pt122 : PutOk p122 122 := fun v e k => by
  have h := put_ok eg10 ep10 ip2 (t := 122) rfl rfl v e k
  cases e with | mk r0 r1 r2 r3 r4 r5 r6 r7 r8 r9 r10 r11 r12 => cases r10; exact h
noncomputable def t123 : Get := fun e k => Env.rec (motive := fun _ => Bool) (fun r0 r1 r2 r3 r4 r5 r6 r7 r8 r9 r10 r11 r12 => ERow.rec (motive := fun _ => Bool) (fun x0 x1 x2 x3 x4 x5 x6 x7 x8 x9 x10 x11 => k x3) r10) e
theorem gt123 : GetOk t123 123 := fun e k => by cases e with | mk r0 r1 r2 r3 r4 r5 r6 r7 r8 r9 r10 r11 r12 => cases r10; rfl
noncomputable def p123 : Put := fun v e k => Env.rec (motive := fun _ => Bool) (fun r0 r1 r2 r3 r4 r5 r6 r7 r8 r9 r10 r11 r12 => ERow.rec (motive := fun _ => Bool) (fun x0 x1 x2 x3 x4 x5 x6 x7 x8 x9 x10 x11 => k (.mk r0 r1 r2 r3 r4 r5 r6 r7 r8 r9 (.mk x0 x1 x2 v x4 x5 x6 x7 x8 x9 x10 x11) r11 r12)) r10) e
theorem pt123 : PutOk p123 123 := fun v e k => by
  have h := put_ok eg10 ep10 ip3 (t := 123) rfl rfl v e k
  cases e with | mk r0 r1 r2 r3 r4 r5 r6 r7 r8 r9 r10 r11 r12 => cases r10; exact h
noncomputable def t124 : Get := fun e k => Env.rec (motive := fun _ => Bool) (fun r0 r1 r2 r3 r4 r5 r6 r7 r8 r9 r10 r11 r12 => ERow.rec (motive := fun _ => Bool) (fun x0 x1 x2 x3 x4 x5 x6 x7 x8 x9 x10 x11 => k x4) r10) e
theorem gt124 : GetOk t124 124 := fun e k => by cases e with | mk r0 r1 r2 r3 r4 r5 r6 r7 r8 r9 r10 r11 r12 => cases r10; rfl
noncomputable def p124 : Put := fun v e k => Env.rec (motive := fun _ => Bool) (fun r0 r1 r2 r3 r4 r5 r6 r7 r8 r9 r10 r11 r12 => ERow.rec (motive := fun _ => Bool) (fun x0 x1 x2 x3 x4 x5 x6 x7 x8 x9 x10 x11 => k (.mk r0 r1 r2 r3 r4 r5 r6 r7 r8 r9 (.mk x0 x1 x2 x3 v x5 x6 x7 x8 x9 x10 x11) r11 r12)) r10) e
theorem pt124 : PutOk p124 124 := fun v e k => by
  have h := put_ok eg10 ep10 ip4 (t := 124) rfl rfl v e k
  cases e with | mk r0 r1 r2 r3 r4 r5 r6 r7 r8 r9 r10 r11 r12 => cases r10; exact h
noncomputable def t125 : Get := fun e k => Env.rec (motive := fun _ => Bool) (fun r0 r1 r2 r3 r4 r5 r6 r7 r8 r9 r10 r11 r12 => ERow.rec (motive := fun _ => Bool) (fun x0 x1 x2 x3 x4 x5 x6 x7 x8 x9 x10 x11 => k x5) r10) e
theorem gt125 : GetOk t125 125 := fun e k => by cases e with | mk r0 r1 r2 r3 r4 r5 r6 r7 r8 r9 r10 r11 r12 => cases r10; rfl
noncomputable def p125 : Put := fun v e k => Env.rec (motive := fun _ => Bool) (fun r0 r1 r2 r3 r4 r5 r6 r7 r8 r9 r10 r11 r12 => ERow.rec (motive := fun _ => Bool) (fun x0 x1 x2 x3 x4 x5 x6 x7 x8 x9 x10 x11 => k (.mk r0 r1 r2 r3 r4 r5 r6 r7 r8 r9 (.mk x0 x1 x2 x3 x4 v x6 x7 x8 x9 x10 x11) r11 r12)) r10) e
theorem pt125 : PutOk p125 125 := fun v e k => by
  have h := put_ok eg10 ep10 ip5 (t := 125) rfl rfl v e k
  cases e with | mk r0 r1 r2 r3 r4 r5 r6 r7 r8 r9 r10 r11 r12 => cases r10; exact h
noncomputable def t126 : Get := fun e k => Env.rec (motive := fun _ => Bool) (fun r0 r1 r2 r3 r4 r5 r6 r7 r8 r9 r10 r11 r12 => ERow.rec (motive := fun _ => Bool) (fun x0 x1 x2 x3 x4 x5 x6 x7 x8 x9 x10 x11 => k x6) r10) e
theorem gt126 : GetOk t126 126 := fun e k => by cases e with | mk r0 r1 r2 r3 r4 r5 r6 r7 r8 r9 r10 r11 r12 => cases r10; rfl
noncomputable def p126 : Put := fun v e k => Env.rec (motive := fun _ => Bool) (fun r0 r1 r2 r3 r4 r5 r6 r7 r8 r9 r10 r11 r12 => ERow.rec (motive := fun _ => Bool) (fun x0 x1 x2 x3 x4 x5 x6 x7 x8 x9 x10 x11 => k (.mk r0 r1 r2 r3 r4 r5 r6 r7 r8 r9 (.mk x0 x1 x2 x3 x4 x5 v x7 x8 x9 x10 x11) r11 r12)) r10) e
theorem pt126 : PutOk p126 126 := fun v e k => by
  have h := put_ok eg10 ep10 ip6 (t := 126) rfl rfl v e k
  cases e with | mk r0 r1 r2 r3 r4 r5 r6 r7 r8 r9 r10 r11 r12 => cases r10; exact h
noncomputable def t127 : Get := fun e k => Env.rec (motive := fun _ => Bool) (fun r0 r1 r2 r3 r4 r5 r6 r7 r8 r9 r10 r11 r12 => ERow.rec (motive := fun _ => Bool) (fun x0 x1 x2 x3 x4 x5 x6 x7 x8 x9 x10 x11 => k x7) r10) e
theorem gt127 : GetOk t127 127 := fun e k => by cases e with | mk r0 r1 r2 r3 r4 r5 r6 r7 r8 r9 r10 r11 r12 => cases r10; rfl
noncomputable def p127 : Put := fun v e k => Env.rec (motive := fun _ => Bool) (fun r0 r1 r2 r3 r4 r5 r6 r7 r8 r9 r10 r11 r12 => ERow.rec (motive := fun _ => Bool) (fun x0 x1 x2 x3 x4 x5 x6 x7 x8 x9 x10 x11 => k (.mk r0 r1 r2 r3 r4 r5 r6 r7 r8 r9 (.mk x0 x1 x2 x3 x4 x5 x6 v x8 x9 x10 x11) r11 r12)) r10) e
theorem pt127 : PutOk p127 127 := fun v e k => by
  have h := put_ok eg10 ep10 ip7 (t := 127) rfl rfl v e k
  cases e with | mk r0 r1 r2 r3 r4 r5 r6 r7 r8 r9 r10 r11 r12 => cases r10; exact h
noncomputable def t128 : Get := fun e k => Env.rec (motive := fun _ => Bool) (fun r0 r1 r2 r3 r4 r5 r6 r7 r8 r9 r10 r11 r12 => ERow.rec (motive := fun _ => Bool) (fun x0 x1 x2 x3 x4 x5 x6 x7 x8 x9 x10 x11 => k x8) r10) e
theorem gt128 : GetOk t128 128 := fun e k => by cases e with | mk r0 r1 r2 r3 r4 r5 r6 r7 r8 r9 r10 r11 r12 => cases r10; rfl
noncomputable def p128 : Put := fun v e k => Env.rec (motive := fun _ => Bool) (fun r0 r1 r2 r3 r4 r5 r6 r7 r8 r9 r10 r11 r12 => ERow.rec (motive := fun _ => Bool) (fun x0 x1 x2 x3 x4 x5 x6 x7 x8 x9 x10 x11 => k (.mk r0 r1 r2 r3 r4 r5 r6 r7 r8 r9 (.mk x0 x1 x2 x3 x4 x5 x6 x7 v x9 x10 x11) r11 r12)) r10) e
theorem pt128 : PutOk p128 128 := fun v e k => by
  have h := put_ok eg10 ep10 ip8 (t := 128) rfl rfl v e k
  cases e with | mk r0 r1 r2 r3 r4 r5 r6 r7 r8 r9 r10 r11 r12 => cases r10; exact h
noncomputable def t129 : Get := fun e k => Env.rec (motive := fun _ => Bool) (fun r0 r1 r2 r3 r4 r5 r6 r7 r8 r9 r10 r11 r12 => ERow.rec (motive := fun _ => Bool) (fun x0 x1 x2 x3 x4 x5 x6 x7 x8 x9 x10 x11 => k x9) r10) e
theorem gt129 : GetOk t129 129 := fun e k => by cases e with | mk r0 r1 r2 r3 r4 r5 r6 r7 r8 r9 r10 r11 r12 => cases r10; rfl
noncomputable def p129 : Put := fun v e k => Env.rec (motive := fun _ => Bool) (fun r0 r1 r2 r3 r4 r5 r6 r7 r8 r9 r10 r11 r12 => ERow.rec (motive := fun _ => Bool) (fun x0 x1 x2 x3 x4 x5 x6 x7 x8 x9 x10 x11 => k (.mk r0 r1 r2 r3 r4 r5 r6 r7 r8 r9 (.mk x0 x1 x2 x3 x4 x5 x6 x7 x8 v x10 x11) r11 r12)) r10) e
theorem pt129 : PutOk p129 129 := fun v e k => by
  have h := put_ok eg10 ep10 ip9 (t := 129) rfl rfl v e k
  cases e with | mk r0 r1 r2 r3 r4 r5 r6 r7 r8 r9 r10 r11 r12 => cases r10; exact h
noncomputable def t130 : Get := fun e k => Env.rec (motive := fun _ => Bool) (fun r0 r1 r2 r3 r4 r5 r6 r7 r8 r9 r10 r11 r12 => ERow.rec (motive := fun _ => Bool) (fun x0 x1 x2 x3 x4 x5 x6 x7 x8 x9 x10 x11 => k x10) r10) e
theorem gt130 : GetOk t130 130 := fun e k => by cases e with | mk r0 r1 r2 r3 r4 r5 r6 r7 r8 r9 r10 r11 r12 => cases r10; rfl
noncomputable def p130 : Put := fun v e k => Env.rec (motive := fun _ => Bool) (fun r0 r1 r2 r3 r4 r5 r6 r7 r8 r9 r10 r11 r12 => ERow.rec (motive := fun _ => Bool) (fun x0 x1 x2 x3 x4 x5 x6 x7 x8 x9 x10 x11 => k (.mk r0 r1 r2 r3 r4 r5 r6 r7 r8 r9 (.mk x0 x1 x2 x3 x4 x5 x6 x7 x8 x9 v x11) r11 r12)) r10) e
theorem pt130 : PutOk p130 130 := fun v e k => by
  have h := put_ok eg10 ep10 ip10 (t := 130) rfl rfl v e k
  cases e with | mk r0 r1 r2 r3 r4 r5 r6 r7 r8 r9 r10 r11 r12 => cases r10; exact h
noncomputable def t131 : Get := fun e k => Env.rec (motive := fun _ => Bool) (fun r0 r1 r2 r3 r4 r5 r6 r7 r8 r9 r10 r11 r12 => ERow.rec (motive := fun _ => Bool) (fun x0 x1 x2 x3 x4 x5 x6 x7 x8 x9 x10 x11 => k x11) r10) e
theorem gt131 : GetOk t131 131 := fun e k => by cases e with | mk r0 r1 r2 r3 r4 r5 r6 r7 r8 r9 r10 r11 r12 => cases r10; rfl
noncomputable def p131 : Put := fun v e k => Env.rec (motive := fun _ => Bool) (fun r0 r1 r2 r3 r4 r5 r6 r7 r8 r9 r10 r11 r12 => ERow.rec (motive := fun _ => Bool) (fun x0 x1 x2 x3 x4 x5 x6 x7 x8 x9 x10 x11 => k (.mk r0 r1 r2 r3 r4 r5 r6 r7 r8 r9 (.mk x0 x1 x2 x3 x4 x5 x6 x7 x8 x9 x10 v) r11 r12)) r10) e
theorem pt131 : PutOk p131 131 := fun v e k => by
  have h := put_ok eg10 ep10 ip11 (t := 131) rfl rfl v e k
  cases e with | mk r0 r1 r2 r3 r4 r5 r6 r7 r8 r9 r10 r11 r12 => cases r10; exact h
noncomputable def t132 : Get := fun e k => Env.rec (motive := fun _ => Bool) (fun r0 r1 r2 r3 r4 r5 r6 r7 r8 r9 r10 r11 r12 => ERow.rec (motive := fun _ => Bool) (fun x0 x1 x2 x3 x4 x5 x6 x7 x8 x9 x10 x11 => k x0) r11) e
theorem gt132 : GetOk t132 132 := fun e k => by cases e with | mk r0 r1 r2 r3 r4 r5 r6 r7 r8 r9 r10 r11 r12 => cases r11; rfl
noncomputable def p132 : Put := fun v e k => Env.rec (motive := fun _ => Bool) (fun r0 r1 r2 r3 r4 r5 r6 r7 r8 r9 r10 r11 r12 => ERow.rec (motive := fun _ => Bool) (fun x0 x1 x2 x3 x4 x5 x6 x7 x8 x9 x10 x11 => k (.mk r0 r1 r2 r3 r4 r5 r6 r7 r8 r9 r10 (.mk v x1 x2 x3 x4 x5 x6 x7 x8 x9 x10 x11) r12)) r11) e
theorem pt132 : PutOk p132 132 := fun v e k => by
  have h := put_ok eg11 ep11 ip0 (t := 132) rfl rfl v e k
  cases e with | mk r0 r1 r2 r3 r4 r5 r6 r7 r8 r9 r10 r11 r12 => cases r11; exact h
noncomputable def t133 : Get := fun e k => Env.rec (motive := fun _ => Bool) (fun r0 r1 r2 r3 r4 r5 r6 r7 r8 r9 r10 r11 r12 => ERow.rec (motive := fun _ => Bool) (fun x0 x1 x2 x3 x4 x5 x6 x7 x8 x9 x10 x11 => k x1) r11) e
theorem gt133 : GetOk t133 133 := fun e k => by cases e with | mk r0 r1 r2 r3 r4 r5 r6 r7 r8 r9 r10 r11 r12 => cases r11; rfl
noncomputable def p133 : Put := fun v e k => Env.rec (motive := fun _ => Bool) (fun r0 r1 r2 r3 r4 r5 r6 r7 r8 r9 r10 r11 r12 => ERow.rec (motive := fun _ => Bool) (fun x0 x1 x2 x3 x4 x5 x6 x7 x8 x9 x10 x11 => k (.mk r0 r1 r2 r3 r4 r5 r6 r7 r8 r9 r10 (.mk x0 v x2 x3 x4 x5 x6 x7 x8 x9 x10 x11) r12)) r11) e
theorem pt133 : PutOk p133 133 := fun v e k => by
  have h := put_ok eg11 ep11 ip1 (t := 133) rfl rfl v e k
  cases e with | mk r0 r1 r2 r3 r4 r5 r6 r7 r8 r9 r10 r11 r12 => cases r11; exact h
noncomputable def t134 : Get := fun e k => Env.rec (motive := fun _ => Bool) (fun r0 r1 r2 r3 r4 r5 r6 r7 r8 r9 r10 r11 r12 => ERow.rec (motive := fun _ => Bool) (fun x0 x1 x2 x3 x4 x5 x6 x7 x8 x9 x10 x11 => k x2) r11) e
theorem gt134 : GetOk t134 134 := fun e k => by cases e with | mk r0 r1 r2 r3 r4 r5 r6 r7 r8 r9 r10 r11 r12 => cases r11; rfl
noncomputable def p134 : Put := fun v e k => Env.rec (motive := fun _ => Bool) (fun r0 r1 r2 r3 r4 r5 r6 r7 r8 r9 r10 r11 r12 => ERow.rec (motive := fun _ => Bool) (fun x0 x1 x2 x3 x4 x5 x6 x7 x8 x9 x10 x11 => k (.mk r0 r1 r2 r3 r4 r5 r6 r7 r8 r9 r10 (.mk x0 x1 v x3 x4 x5 x6 x7 x8 x9 x10 x11) r12)) r11) e
theorem pt134 : PutOk p134 134 := fun v e k => by
  have h := put_ok eg11 ep11 ip2 (t := 134) rfl rfl v e k
  cases e with | mk r0 r1 r2 r3 r4 r5 r6 r7 r8 r9 r10 r11 r12 => cases r11; exact h
noncomputable def t135 : Get := fun e k => Env.rec (motive := fun _ => Bool) (fun r0 r1 r2 r3 r4 r5 r6 r7 r8 r9 r10 r11 r12 => ERow.rec (motive := fun _ => Bool) (fun x0 x1 x2 x3 x4 x5 x6 x7 x8 x9 x10 x11 => k x3) r11) e
theorem gt135 : GetOk t135 135 := fun e k => by cases e with | mk r0 r1 r2 r3 r4 r5 r6 r7 r8 r9 r10 r11 r12 => cases r11; rfl
noncomputable def p135 : Put := fun v e k => Env.rec (motive := fun _ => Bool) (fun r0 r1 r2 r3 r4 r5 r6 r7 r8 r9 r10 r11 r12 => ERow.rec (motive := fun _ => Bool) (fun x0 x1 x2 x3 x4 x5 x6 x7 x8 x9 x10 x11 => k (.mk r0 r1 r2 r3 r4 r5 r6 r7 r8 r9 r10 (.mk x0 x1 x2 v x4 x5 x6 x7 x8 x9 x10 x11) r12)) r11) e
theorem pt135 : PutOk p135 135 := fun v e k => by
  have h := put_ok eg11 ep11 ip3 (t := 135) rfl rfl v e k
  cases e with | mk r0 r1 r2 r3 r4 r5 r6 r7 r8 r9 r10 r11 r12 => cases r11; exact h
noncomputable def t136 : Get := fun e k => Env.rec (motive := fun _ => Bool) (fun r0 r1 r2 r3 r4 r5 r6 r7 r8 r9 r10 r11 r12 => ERow.rec (motive := fun _ => Bool) (fun x0 x1 x2 x3 x4 x5 x6 x7 x8 x9 x10 x11 => k x4) r11) e
theorem gt136 : GetOk t136 136 := fun e k => by cases e with | mk r0 r1 r2 r3 r4 r5 r6 r7 r8 r9 r10 r11 r12 => cases r11; rfl
noncomputable def p136 : Put := fun v e k => Env.rec (motive := fun _ => Bool) (fun r0 r1 r2 r3 r4 r5 r6 r7 r8 r9 r10 r11 r12 => ERow.rec (motive := fun _ => Bool) (fun x0 x1 x2 x3 x4 x5 x6 x7 x8 x9 x10 x11 => k (.mk r0 r1 r2 r3 r4 r5 r6 r7 r8 r9 r10 (.mk x0 x1 x2 x3 v x5 x6 x7 x8 x9 x10 x11) r12)) r11) e
theorem pt136 : PutOk p136 136 := fun v e k => by
  have h := put_ok eg11 ep11 ip4 (t := 136) rfl rfl v e k
  cases e with | mk r0 r1 r2 r3 r4 r5 r6 r7 r8 r9 r10 r11 r12 => cases r11; exact h
noncomputable def t137 : Get := fun e k => Env.rec (motive := fun _ => Bool) (fun r0 r1 r2 r3 r4 r5 r6 r7 r8 r9 r10 r11 r12 => ERow.rec (motive := fun _ => Bool) (fun x0 x1 x2 x3 x4 x5 x6 x7 x8 x9 x10 x11 => k x5) r11) e
theorem gt137 : GetOk t137 137 := fun e k => by cases e with | mk r0 r1 r2 r3 r4 r5 r6 r7 r8 r9 r10 r11 r12 => cases r11; rfl
noncomputable def p137 : Put := fun v e k => Env.rec (motive := fun _ => Bool) (fun r0 r1 r2 r3 r4 r5 r6 r7 r8 r9 r10 r11 r12 => ERow.rec (motive := fun _ => Bool) (fun x0 x1 x2 x3 x4 x5 x6 x7 x8 x9 x10 x11 => k (.mk r0 r1 r2 r3 r4 r5 r6 r7 r8 r9 r10 (.mk x0 x1 x2 x3 x4 v x6 x7 x8 x9 x10 x11) r12)) r11) e
theorem pt137 : PutOk p137 137 := fun v e k => by
  have h := put_ok eg11 ep11 ip5 (t := 137) rfl rfl v e k
  cases e with | mk r0 r1 r2 r3 r4 r5 r6 r7 r8 r9 r10 r11 r12 => cases r11; exact h
noncomputable def t138 : Get := fun e k => Env.rec (motive := fun _ => Bool) (fun r0 r1 r2 r3 r4 r5 r6 r7 r8 r9 r10 r11 r12 => ERow.rec (motive := fun _ => Bool) (fun x0 x1 x2 x3 x4 x5 x6 x7 x8 x9 x10 x11 => k x6) r11) e
theorem gt138 : GetOk t138 138 := fun e k => by cases e with | mk r0 r1 r2 r3 r4 r5 r6 r7 r8 r9 r10 r11 r12 => cases r11; rfl
noncomputable def p138 : Put := fun v e k => Env.rec (motive := fun _ => Bool) (fun r0 r1 r2 r3 r4 r5 r6 r7 r8 r9 r10 r11 r12 => ERow.rec (motive := fun _ => Bool) (fun x0 x1 x2 x3 x4 x5 x6 x7 x8 x9 x10 x11 => k (.mk r0 r1 r2 r3 r4 r5 r6 r7 r8 r9 r10 (.mk x0 x1 x2 x3 x4 x5 v x7 x8 x9 x10 x11) r12)) r11) e
theorem pt138 : PutOk p138 138 := fun v e k => by
  have h := put_ok eg11 ep11 ip6 (t := 138) rfl rfl v e k
  cases e with | mk r0 r1 r2 r3 r4 r5 r6 r7 r8 r9 r10 r11 r12 => cases r11; exact h
noncomputable def t139 : Get := fun e k => Env.rec (motive := fun _ => Bool) (fun r0 r1 r2 r3 r4 r5 r6 r7 r8 r9 r10 r11 r12 => ERow.rec (motive := fun _ => Bool) (fun x0 x1 x2 x3 x4 x5 x6 x7 x8 x9 x10 x11 => k x7) r11) e
theorem gt139 : GetOk t139 139 := fun e k => by cases e with | mk r0 r1 r2 r3 r4 r5 r6 r7 r8 r9 r10 r11 r12 => cases r11; rfl
noncomputable def p139 : Put := fun v e k => Env.rec (motive := fun _ => Bool) (fun r0 r1 r2 r3 r4 r5 r6 r7 r8 r9 r10 r11 r12 => ERow.rec (motive := fun _ => Bool) (fun x0 x1 x2 x3 x4 x5 x6 x7 x8 x9 x10 x11 => k (.mk r0 r1 r2 r3 r4 r5 r6 r7 r8 r9 r10 (.mk x0 x1 x2 x3 x4 x5 x6 v x8 x9 x10 x11) r12)) r11) e
theorem pt139 : PutOk p139 139 := fun v e k => by
  have h := put_ok eg11 ep11 ip7 (t := 139) rfl rfl v e k
  cases e with | mk r0 r1 r2 r3 r4 r5 r6 r7 r8 r9 r10 r11 r12 => cases r11; exact h
noncomputable def t140 : Get := fun e k => Env.rec (motive := fun _ => Bool) (fun r0 r1 r2 r3 r4 r5 r6 r7 r8 r9 r10 r11 r12 => ERow.rec (motive := fun _ => Bool) (fun x0 x1 x2 x3 x4 x5 x6 x7 x8 x9 x10 x11 => k x8) r11) e
theorem gt140 : GetOk t140 140 := fun e k => by cases e with | mk r0 r1 r2 r3 r4 r5 r6 r7 r8 r9 r10 r11 r12 => cases r11; rfl
noncomputable def p140 : Put := fun v e k => Env.rec (motive := fun _ => Bool) (fun r0 r1 r2 r3 r4 r5 r6 r7 r8 r9 r10 r11 r12 => ERow.rec (motive := fun _ => Bool) (fun x0 x1 x2 x3 x4 x5 x6 x7 x8 x9 x10 x11 => k (.mk r0 r1 r2 r3 r4 r5 r6 r7 r8 r9 r10 (.mk x0 x1 x2 x3 x4 x5 x6 x7 v x9 x10 x11) r12)) r11) e
theorem pt140 : PutOk p140 140 := fun v e k => by
  have h := put_ok eg11 ep11 ip8 (t := 140) rfl rfl v e k
  cases e with | mk r0 r1 r2 r3 r4 r5 r6 r7 r8 r9 r10 r11 r12 => cases r11; exact h
noncomputable def t141 : Get := fun e k => Env.rec (motive := fun _ => Bool) (fun r0 r1 r2 r3 r4 r5 r6 r7 r8 r9 r10 r11 r12 => ERow.rec (motive := fun _ => Bool) (fun x0 x1 x2 x3 x4 x5 x6 x7 x8 x9 x10 x11 => k x9) r11) e
theorem gt141 : GetOk t141 141 := fun e k => by cases e with | mk r0 r1 r2 r3 r4 r5 r6 r7 r8 r9 r10 r11 r12 => cases r11; rfl
noncomputable def p141 : Put := fun v e k => Env.rec (motive := fun _ => Bool) (fun r0 r1 r2 r3 r4 r5 r6 r7 r8 r9 r10 r11 r12 => ERow.rec (motive := fun _ => Bool) (fun x0 x1 x2 x3 x4 x5 x6 x7 x8 x9 x10 x11 => k (.mk r0 r1 r2 r3 r4 r5 r6 r7 r8 r9 r10 (.mk x0 x1 x2 x3 x4 x5 x6 x7 x8 v x10 x11) r12)) r11) e
theorem pt141 : PutOk p141 141 := fun v e k => by
  have h := put_ok eg11 ep11 ip9 (t := 141) rfl rfl v e k
  cases e with | mk r0 r1 r2 r3 r4 r5 r6 r7 r8 r9 r10 r11 r12 => cases r11; exact h
noncomputable def t142 : Get := fun e k => Env.rec (motive := fun _ => Bool) (fun r0 r1 r2 r3 r4 r5 r6 r7 r8 r9 r10 r11 r12 => ERow.rec (motive := fun _ => Bool) (fun x0 x1 x2 x3 x4 x5 x6 x7 x8 x9 x10 x11 => k x10) r11) e
theorem gt142 : GetOk t142 142 := fun e k => by cases e with | mk r0 r1 r2 r3 r4 r5 r6 r7 r8 r9 r10 r11 r12 => cases r11; rfl
noncomputable def p142 : Put := fun v e k => Env.rec (motive := fun _ => Bool) (fun r0 r1 r2 r3 r4 r5 r6 r7 r8 r9 r10 r11 r12 => ERow.rec (motive := fun _ => Bool) (fun x0 x1 x2 x3 x4 x5 x6 x7 x8 x9 x10 x11 => k (.mk r0 r1 r2 r3 r4 r5 r6 r7 r8 r9 r10 (.mk x0 x1 x2 x3 x4 x5 x6 x7 x8 x9 v x11) r12)) r11) e
theorem pt142 : PutOk p142 142 := fun v e k => by
  have h := put_ok eg11 ep11 ip10 (t := 142) rfl rfl v e k
  cases e with | mk r0 r1 r2 r3 r4 r5 r6 r7 r8 r9 r10 r11 r12 => cases r11; exact h
noncomputable def t143 : Get := fun e k => Env.rec (motive := fun _ => Bool) (fun r0 r1 r2 r3 r4 r5 r6 r7 r8 r9 r10 r11 r12 => ERow.rec (motive := fun _ => Bool) (fun x0 x1 x2 x3 x4 x5 x6 x7 x8 x9 x10 x11 => k x11) r11) e
theorem gt143 : GetOk t143 143 := fun e k => by cases e with | mk r0 r1 r2 r3 r4 r5 r6 r7 r8 r9 r10 r11 r12 => cases r11; rfl
noncomputable def p143 : Put := fun v e k => Env.rec (motive := fun _ => Bool) (fun r0 r1 r2 r3 r4 r5 r6 r7 r8 r9 r10 r11 r12 => ERow.rec (motive := fun _ => Bool) (fun x0 x1 x2 x3 x4 x5 x6 x7 x8 x9 x10 x11 => k (.mk r0 r1 r2 r3 r4 r5 r6 r7 r8 r9 r10 (.mk x0 x1 x2 x3 x4 x5 x6 x7 x8 x9 x10 v) r12)) r11) e
theorem pt143 : PutOk p143 143 := fun v e k => by
  have h := put_ok eg11 ep11 ip11 (t := 143) rfl rfl v e k
  cases e with | mk r0 r1 r2 r3 r4 r5 r6 r7 r8 r9 r10 r11 r12 => cases r11; exact h
noncomputable def t144 : Get := fun e k => Env.rec (motive := fun _ => Bool) (fun r0 r1 r2 r3 r4 r5 r6 r7 r8 r9 r10 r11 r12 => ERow.rec (motive := fun _ => Bool) (fun x0 x1 x2 x3 x4 x5 x6 x7 x8 x9 x10 x11 => k x0) r12) e
theorem gt144 : GetOk t144 144 := fun e k => by cases e with | mk r0 r1 r2 r3 r4 r5 r6 r7 r8 r9 r10 r11 r12 => cases r12; rfl
noncomputable def p144 : Put := fun v e k => Env.rec (motive := fun _ => Bool) (fun r0 r1 r2 r3 r4 r5 r6 r7 r8 r9 r10 r11 r12 => ERow.rec (motive := fun _ => Bool) (fun x0 x1 x2 x3 x4 x5 x6 x7 x8 x9 x10 x11 => k (.mk r0 r1 r2 r3 r4 r5 r6 r7 r8 r9 r10 r11 (.mk v x1 x2 x3 x4 x5 x6 x7 x8 x9 x10 x11))) r12) e
theorem pt144 : PutOk p144 144 := fun v e k => by
  have h := put_ok eg12 ep12 ip0 (t := 144) rfl rfl v e k
  cases e with | mk r0 r1 r2 r3 r4 r5 r6 r7 r8 r9 r10 r11 r12 => cases r12; exact h
noncomputable def t145 : Get := fun e k => Env.rec (motive := fun _ => Bool) (fun r0 r1 r2 r3 r4 r5 r6 r7 r8 r9 r10 r11 r12 => ERow.rec (motive := fun _ => Bool) (fun x0 x1 x2 x3 x4 x5 x6 x7 x8 x9 x10 x11 => k x1) r12) e
theorem gt145 : GetOk t145 145 := fun e k => by cases e with | mk r0 r1 r2 r3 r4 r5 r6 r7 r8 r9 r10 r11 r12 => cases r12; rfl
noncomputable def p145 : Put := fun v e k => Env.rec (motive := fun _ => Bool) (fun r0 r1 r2 r3 r4 r5 r6 r7 r8 r9 r10 r11 r12 => ERow.rec (motive := fun _ => Bool) (fun x0 x1 x2 x3 x4 x5 x6 x7 x8 x9 x10 x11 => k (.mk r0 r1 r2 r3 r4 r5 r6 r7 r8 r9 r10 r11 (.mk x0 v x2 x3 x4 x5 x6 x7 x8 x9 x10 x11))) r12) e
theorem pt145 : PutOk p145 145 := fun v e k => by
  have h := put_ok eg12 ep12 ip1 (t := 145) rfl rfl v e k
  cases e with | mk r0 r1 r2 r3 r4 r5 r6 r7 r8 r9 r10 r11 r12 => cases r12; exact h
noncomputable def t146 : Get := fun e k => Env.rec (motive := fun _ => Bool) (fun r0 r1 r2 r3 r4 r5 r6 r7 r8 r9 r10 r11 r12 => ERow.rec (motive := fun _ => Bool) (fun x0 x1 x2 x3 x4 x5 x6 x7 x8 x9 x10 x11 => k x2) r12) e
theorem gt146 : GetOk t146 146 := fun e k => by cases e with | mk r0 r1 r2 r3 r4 r5 r6 r7 r8 r9 r10 r11 r12 => cases r12; rfl
noncomputable def p146 : Put := fun v e k => Env.rec (motive := fun _ => Bool) (fun r0 r1 r2 r3 r4 r5 r6 r7 r8 r9 r10 r11 r12 => ERow.rec (motive := fun _ => Bool) (fun x0 x1 x2 x3 x4 x5 x6 x7 x8 x9 x10 x11 => k (.mk r0 r1 r2 r3 r4 r5 r6 r7 r8 r9 r10 r11 (.mk x0 x1 v x3 x4 x5 x6 x7 x8 x9 x10 x11))) r12) e
theorem pt146 : PutOk p146 146 := fun v e k => by
  have h := put_ok eg12 ep12 ip2 (t := 146) rfl rfl v e k
  cases e with | mk r0 r1 r2 r3 r4 r5 r6 r7 r8 r9 r10 r11 r12 => cases r12; exact h
noncomputable def t147 : Get := fun e k => Env.rec (motive := fun _ => Bool) (fun r0 r1 r2 r3 r4 r5 r6 r7 r8 r9 r10 r11 r12 => ERow.rec (motive := fun _ => Bool) (fun x0 x1 x2 x3 x4 x5 x6 x7 x8 x9 x10 x11 => k x3) r12) e
theorem gt147 : GetOk t147 147 := fun e k => by cases e with | mk r0 r1 r2 r3 r4 r5 r6 r7 r8 r9 r10 r11 r12 => cases r12; rfl
noncomputable def p147 : Put := fun v e k => Env.rec (motive := fun _ => Bool) (fun r0 r1 r2 r3 r4 r5 r6 r7 r8 r9 r10 r11 r12 => ERow.rec (motive := fun _ => Bool) (fun x0 x1 x2 x3 x4 x5 x6 x7 x8 x9 x10 x11 => k (.mk r0 r1 r2 r3 r4 r5 r6 r7 r8 r9 r10 r11 (.mk x0 x1 x2 v x4 x5 x6 x7 x8 x9 x10 x11))) r12) e
theorem pt147 : PutOk p147 147 := fun v e k => by
  have h := put_ok eg12 ep12 ip3 (t := 147) rfl rfl v e k
  cases e with | mk r0 r1 r2 r3 r4 r5 r6 r7 r8 r9 r10 r11 r12 => cases r12; exact h
noncomputable def t148 : Get := fun e k => Env.rec (motive := fun _ => Bool) (fun r0 r1 r2 r3 r4 r5 r6 r7 r8 r9 r10 r11 r12 => ERow.rec (motive := fun _ => Bool) (fun x0 x1 x2 x3 x4 x5 x6 x7 x8 x9 x10 x11 => k x4) r12) e
theorem gt148 : GetOk t148 148 := fun e k => by cases e with | mk r0 r1 r2 r3 r4 r5 r6 r7 r8 r9 r10 r11 r12 => cases r12; rfl
noncomputable def p148 : Put := fun v e k => Env.rec (motive := fun _ => Bool) (fun r0 r1 r2 r3 r4 r5 r6 r7 r8 r9 r10 r11 r12 => ERow.rec (motive := fun _ => Bool) (fun x0 x1 x2 x3 x4 x5 x6 x7 x8 x9 x10 x11 => k (.mk r0 r1 r2 r3 r4 r5 r6 r7 r8 r9 r10 r11 (.mk x0 x1 x2 x3 v x5 x6 x7 x8 x9 x10 x11))) r12) e
theorem pt148 : PutOk p148 148 := fun v e k => by
  have h := put_ok eg12 ep12 ip4 (t := 148) rfl rfl v e k
  cases e with | mk r0 r1 r2 r3 r4 r5 r6 r7 r8 r9 r10 r11 r12 => cases r12; exact h
noncomputable def t149 : Get := fun e k => Env.rec (motive := fun _ => Bool) (fun r0 r1 r2 r3 r4 r5 r6 r7 r8 r9 r10 r11 r12 => ERow.rec (motive := fun _ => Bool) (fun x0 x1 x2 x3 x4 x5 x6 x7 x8 x9 x10 x11 => k x5) r12) e
theorem gt149 : GetOk t149 149 := fun e k => by cases e with | mk r0 r1 r2 r3 r4 r5 r6 r7 r8 r9 r10 r11 r12 => cases r12; rfl
noncomputable def p149 : Put := fun v e k => Env.rec (motive := fun _ => Bool) (fun r0 r1 r2 r3 r4 r5 r6 r7 r8 r9 r10 r11 r12 => ERow.rec (motive := fun _ => Bool) (fun x0 x1 x2 x3 x4 x5 x6 x7 x8 x9 x10 x11 => k (.mk r0 r1 r2 r3 r4 r5 r6 r7 r8 r9 r10 r11 (.mk x0 x1 x2 x3 x4 v x6 x7 x8 x9 x10 x11))) r12) e
theorem pt149 : PutOk p149 149 := fun v e k => by
  have h := put_ok eg12 ep12 ip5 (t := 149) rfl rfl v e k
  cases e with | mk r0 r1 r2 r3 r4 r5 r6 r7 r8 r9 r10 r11 r12 => cases r12; exact h
noncomputable def t150 : Get := fun e k => Env.rec (motive := fun _ => Bool) (fun r0 r1 r2 r3 r4 r5 r6 r7 r8 r9 r10 r11 r12 => ERow.rec (motive := fun _ => Bool) (fun x0 x1 x2 x3 x4 x5 x6 x7 x8 x9 x10 x11 => k x6) r12) e
theorem gt150 : GetOk t150 150 := fun e k => by cases e with | mk r0 r1 r2 r3 r4 r5 r6 r7 r8 r9 r10 r11 r12 => cases r12; rfl
noncomputable def p150 : Put := fun v e k => Env.rec (motive := fun _ => Bool) (fun r0 r1 r2 r3 r4 r5 r6 r7 r8 r9 r10 r11 r12 => ERow.rec (motive := fun _ => Bool) (fun x0 x1 x2 x3 x4 x5 x6 x7 x8 x9 x10 x11 => k (.mk r0 r1 r2 r3 r4 r5 r6 r7 r8 r9 r10 r11 (.mk x0 x1 x2 x3 x4 x5 v x7 x8 x9 x10 x11))) r12) e
theorem pt150 : PutOk p150 150 := fun v e k => by
  have h := put_ok eg12 ep12 ip6 (t := 150) rfl rfl v e k
  cases e with | mk r0 r1 r2 r3 r4 r5 r6 r7 r8 r9 r10 r11 r12 => cases r12; exact h
noncomputable def t151 : Get := fun e k => Env.rec (motive := fun _ => Bool) (fun r0 r1 r2 r3 r4 r5 r6 r7 r8 r9 r10 r11 r12 => ERow.rec (motive := fun _ => Bool) (fun x0 x1 x2 x3 x4 x5 x6 x7 x8 x9 x10 x11 => k x7) r12) e
theorem gt151 : GetOk t151 151 := fun e k => by cases e with | mk r0 r1 r2 r3 r4 r5 r6 r7 r8 r9 r10 r11 r12 => cases r12; rfl
noncomputable def p151 : Put := fun v e k => Env.rec (motive := fun _ => Bool) (fun r0 r1 r2 r3 r4 r5 r6 r7 r8 r9 r10 r11 r12 => ERow.rec (motive := fun _ => Bool) (fun x0 x1 x2 x3 x4 x5 x6 x7 x8 x9 x10 x11 => k (.mk r0 r1 r2 r3 r4 r5 r6 r7 r8 r9 r10 r11 (.mk x0 x1 x2 x3 x4 x5 x6 v x8 x9 x10 x11))) r12) e
theorem pt151 : PutOk p151 151 := fun v e k => by
  have h := put_ok eg12 ep12 ip7 (t := 151) rfl rfl v e k
  cases e with | mk r0 r1 r2 r3 r4 r5 r6 r7 r8 r9 r10 r11 r12 => cases r12; exact h
noncomputable def t152 : Get := fun e k => Env.rec (motive := fun _ => Bool) (fun r0 r1 r2 r3 r4 r5 r6 r7 r8 r9 r10 r11 r12 => ERow.rec (motive := fun _ => Bool) (fun x0 x1 x2 x3 x4 x5 x6 x7 x8 x9 x10 x11 => k x8) r12) e
theorem gt152 : GetOk t152 152 := fun e k => by cases e with | mk r0 r1 r2 r3 r4 r5 r6 r7 r8 r9 r10 r11 r12 => cases r12; rfl
noncomputable def p152 : Put := fun v e k => Env.rec (motive := fun _ => Bool) (fun r0 r1 r2 r3 r4 r5 r6 r7 r8 r9 r10 r11 r12 => ERow.rec (motive := fun _ => Bool) (fun x0 x1 x2 x3 x4 x5 x6 x7 x8 x9 x10 x11 => k (.mk r0 r1 r2 r3 r4 r5 r6 r7 r8 r9 r10 r11 (.mk x0 x1 x2 x3 x4 x5 x6 x7 v x9 x10 x11))) r12) e
theorem pt152 : PutOk p152 152 := fun v e k => by
  have h := put_ok eg12 ep12 ip8 (t := 152) rfl rfl v e k
  cases e with | mk r0 r1 r2 r3 r4 r5 r6 r7 r8 r9 r10 r11 r12 => cases r12; exact h
noncomputable def t153 : Get := fun e k => Env.rec (motive := fun _ => Bool) (fun r0 r1 r2 r3 r4 r5 r6 r7 r8 r9 r10 r11 r12 => ERow.rec (motive := fun _ => Bool) (fun x0 x1 x2 x3 x4 x5 x6 x7 x8 x9 x10 x11 => k x9) r12) e
theorem gt153 : GetOk t153 153 := fun e k => by cases e with | mk r0 r1 r2 r3 r4 r5 r6 r7 r8 r9 r10 r11 r12 => cases r12; rfl
noncomputable def p153 : Put := fun v e k => Env.rec (motive := fun _ => Bool) (fun r0 r1 r2 r3 r4 r5 r6 r7 r8 r9 r10 r11 r12 => ERow.rec (motive := fun _ => Bool) (fun x0 x1 x2 x3 x4 x5 x6 x7 x8 x9 x10 x11 => k (.mk r0 r1 r2 r3 r4 r5 r6 r7 r8 r9 r10 r11 (.mk x0 x1 x2 x3 x4 x5 x6 x7 x8 v x10 x11))) r12) e
theorem pt153 : PutOk p153 153 := fun v e k => by
  have h := put_ok eg12 ep12 ip9 (t := 153) rfl rfl v e k
  cases e with | mk r0 r1 r2 r3 r4 r5 r6 r7 r8 r9 r10 r11 r12 => cases r12; exact h
noncomputable def t154 : Get := fun e k => Env.rec (motive := fun _ => Bool) (fun r0 r1 r2 r3 r4 r5 r6 r7 r8 r9 r10 r11 r12 => ERow.rec (motive := fun _ => Bool) (fun x0 x1 x2 x3 x4 x5 x6 x7 x8 x9 x10 x11 => k x10) r12) e
theorem gt154 : GetOk t154 154 := fun e k => by cases e with | mk r0 r1 r2 r3 r4 r5 r6 r7 r8 r9 r10 r11 r12 => cases r12; rfl
noncomputable def p154 : Put := fun v e k => Env.rec (motive := fun _ => Bool) (fun r0 r1 r2 r3 r4 r5 r6 r7 r8 r9 r10 r11 r12 => ERow.rec (motive := fun _ => Bool) (fun x0 x1 x2 x3 x4 x5 x6 x7 x8 x9 x10 x11 => k (.mk r0 r1 r2 r3 r4 r5 r6 r7 r8 r9 r10 r11 (.mk x0 x1 x2 x3 x4 x5 x6 x7 x8 x9 v x11))) r12) e
theorem pt154 : PutOk p154 154 := fun v e k => by
  have h := put_ok eg12 ep12 ip10 (t := 154) rfl rfl v e k
  cases e with | mk r0 r1 r2 r3 r4 r5 r6 r7 r8 r9 r10 r11 r12 => cases r12; exact h
noncomputable def t155 : Get := fun e k => Env.rec (motive := fun _ => Bool) (fun r0 r1 r2 r3 r4 r5 r6 r7 r8 r9 r10 r11 r12 => ERow.rec (motive := fun _ => Bool) (fun x0 x1 x2 x3 x4 x5 x6 x7 x8 x9 x10 x11 => k x11) r12) e
theorem gt155 : GetOk t155 155 := fun e k => by cases e with | mk r0 r1 r2 r3 r4 r5 r6 r7 r8 r9 r10 r11 r12 => cases r12; rfl
noncomputable def p155 : Put := fun v e k => Env.rec (motive := fun _ => Bool) (fun r0 r1 r2 r3 r4 r5 r6 r7 r8 r9 r10 r11 r12 => ERow.rec (motive := fun _ => Bool) (fun x0 x1 x2 x3 x4 x5 x6 x7 x8 x9 x10 x11 => k (.mk r0 r1 r2 r3 r4 r5 r6 r7 r8 r9 r10 r11 (.mk x0 x1 x2 x3 x4 x5 x6 x7 x8 x9 x10 v))) r12) e
theorem pt155 : PutOk p155 155 := fun v e k => by
  have h := put_ok eg12 ep12 ip11 (t := 155) rfl rfl v e k
  cases e with | mk r0 r1 r2 r3 r4 r5 r6 r7 r8 r9 r10 r11 r12 => cases r12; exact h
theorem eRow_at (i : Nat) : eRow.at i = .any := by rcases i with _|_|_|_|_|_|_|_|_|_|_|_|i <;> rfl
theorem eEnv_slot (t : Nat) : eEnv.slot t = .any := by
  have : ∀ i, eEnv.row i = eRow := fun i => by rcases i with _|_|_|_|_|_|_|_|_|_|_|_|_|i <;> rfl
  unfold Env.slot
  rw [this, eRow_at]
/-- A frame at its entry: the arguments, and nothing else. -/
noncomputable def entryK (l0 : List AV) (k : Env → Bool) : Bool := List.rec (motive := fun _ => Bool) (k (.mk eRow eRow eRow eRow eRow eRow eRow eRow eRow eRow eRow eRow eRow)) (fun x0 l1 _ => List.rec (motive := fun _ => Bool) (k (.mk (.mk x0 .any .any .any .any .any .any .any .any .any .any .any) eRow eRow eRow eRow eRow eRow eRow eRow eRow eRow eRow eRow)) (fun x1 l2 _ => List.rec (motive := fun _ => Bool) (k (.mk (.mk x0 x1 .any .any .any .any .any .any .any .any .any .any) eRow eRow eRow eRow eRow eRow eRow eRow eRow eRow eRow eRow)) (fun x2 l3 _ => List.rec (motive := fun _ => Bool) (k (.mk (.mk x0 x1 x2 .any .any .any .any .any .any .any .any .any) eRow eRow eRow eRow eRow eRow eRow eRow eRow eRow eRow eRow)) (fun x3 l4 _ => List.rec (motive := fun _ => Bool) (k (.mk (.mk x0 x1 x2 x3 .any .any .any .any .any .any .any .any) eRow eRow eRow eRow eRow eRow eRow eRow eRow eRow eRow eRow)) (fun x4 l5 _ => List.rec (motive := fun _ => Bool) (k (.mk (.mk x0 x1 x2 x3 x4 .any .any .any .any .any .any .any) eRow eRow eRow eRow eRow eRow eRow eRow eRow eRow eRow eRow)) (fun x5 l6 _ => List.rec (motive := fun _ => Bool) (k (.mk (.mk x0 x1 x2 x3 x4 x5 .any .any .any .any .any .any) eRow eRow eRow eRow eRow eRow eRow eRow eRow eRow eRow eRow)) (fun x6 l7 _ => List.rec (motive := fun _ => Bool) (k (.mk (.mk x0 x1 x2 x3 x4 x5 x6 .any .any .any .any .any) eRow eRow eRow eRow eRow eRow eRow eRow eRow eRow eRow eRow)) (fun x7 l8 _ => List.rec (motive := fun _ => Bool) (k (.mk (.mk x0 x1 x2 x3 x4 x5 x6 x7 .any .any .any .any) eRow eRow eRow eRow eRow eRow eRow eRow eRow eRow eRow eRow)) (fun x8 l9 _ => List.rec (motive := fun _ => Bool) (k (.mk (.mk x0 x1 x2 x3 x4 x5 x6 x7 x8 .any .any .any) eRow eRow eRow eRow eRow eRow eRow eRow eRow eRow eRow eRow)) (fun x9 l10 _ => List.rec (motive := fun _ => Bool) (k (.mk (.mk x0 x1 x2 x3 x4 x5 x6 x7 x8 x9 .any .any) eRow eRow eRow eRow eRow eRow eRow eRow eRow eRow eRow eRow)) (fun x10 l11 _ => List.rec (motive := fun _ => Bool) (k (.mk (.mk x0 x1 x2 x3 x4 x5 x6 x7 x8 x9 x10 .any) eRow eRow eRow eRow eRow eRow eRow eRow eRow eRow eRow eRow)) (fun x11 l12 _ => List.rec (motive := fun _ => Bool) (k (.mk (.mk x0 x1 x2 x3 x4 x5 x6 x7 x8 x9 x10 x11) eRow eRow eRow eRow eRow eRow eRow eRow eRow eRow eRow eRow)) (fun _ _ _ => false) l12) l11) l10) l9) l8) l7) l6) l5) l4) l3) l2) l1) l0
theorem entryK_sound {l : List AV} {k : Env → Bool} (h : entryK l k = true) : ∃ e : Env, k e = true ∧ ∀ t, e.slot t = (l[t]?).getD .any := by
  have row0 : ∀ (r : ERow) (t : Nat), (Env.mk r eRow eRow eRow eRow eRow eRow eRow eRow eRow eRow eRow eRow).slot t = if t < 12 then r.at t else .any := fun r t => by
    have h0 : ∀ i, (Env.mk r eRow eRow eRow eRow eRow eRow eRow eRow eRow eRow eRow eRow).row i = if i = 0 then r else eRow := fun i => by rcases i with _|_|_|_|_|_|_|_|_|_|_|_|_|i <;> rfl
    unfold Env.slot
    rw [h0]
    by_cases ht : t < 12
    · rw [if_pos (by omega), if_pos ht, Nat.mod_eq_of_lt ht]
    · rw [if_neg (by omega), if_neg ht, eRow_at]
  rcases l with _ | ⟨x0, l⟩
  · refine ⟨_, h, fun t => ?_⟩
    rw [row0]
    rcases t with _|_|_|_|_|_|_|_|_|_|_|_|t <;> first | rfl | (rw [if_neg (by omega)]; simp)
  rcases l with _ | ⟨x1, l⟩
  · refine ⟨_, h, fun t => ?_⟩
    rw [row0]
    rcases t with _|_|_|_|_|_|_|_|_|_|_|_|t <;> first | rfl | (rw [if_neg (by omega)]; simp)
  rcases l with _ | ⟨x2, l⟩
  · refine ⟨_, h, fun t => ?_⟩
    rw [row0]
    rcases t with _|_|_|_|_|_|_|_|_|_|_|_|t <;> first | rfl | (rw [if_neg (by omega)]; simp)
  rcases l with _ | ⟨x3, l⟩
  · refine ⟨_, h, fun t => ?_⟩
    rw [row0]
    rcases t with _|_|_|_|_|_|_|_|_|_|_|_|t <;> first | rfl | (rw [if_neg (by omega)]; simp)
  rcases l with _ | ⟨x4, l⟩
  · refine ⟨_, h, fun t => ?_⟩
    rw [row0]
    rcases t with _|_|_|_|_|_|_|_|_|_|_|_|t <;> first | rfl | (rw [if_neg (by omega)]; simp)
  rcases l with _ | ⟨x5, l⟩
  · refine ⟨_, h, fun t => ?_⟩
    rw [row0]
    rcases t with _|_|_|_|_|_|_|_|_|_|_|_|t <;> first | rfl | (rw [if_neg (by omega)]; simp)
  rcases l with _ | ⟨x6, l⟩
  · refine ⟨_, h, fun t => ?_⟩
    rw [row0]
    rcases t with _|_|_|_|_|_|_|_|_|_|_|_|t <;> first | rfl | (rw [if_neg (by omega)]; simp)
  rcases l with _ | ⟨x7, l⟩
  · refine ⟨_, h, fun t => ?_⟩
    rw [row0]
    rcases t with _|_|_|_|_|_|_|_|_|_|_|_|t <;> first | rfl | (rw [if_neg (by omega)]; simp)
  rcases l with _ | ⟨x8, l⟩
  · refine ⟨_, h, fun t => ?_⟩
    rw [row0]
    rcases t with _|_|_|_|_|_|_|_|_|_|_|_|t <;> first | rfl | (rw [if_neg (by omega)]; simp)
  rcases l with _ | ⟨x9, l⟩
  · refine ⟨_, h, fun t => ?_⟩
    rw [row0]
    rcases t with _|_|_|_|_|_|_|_|_|_|_|_|t <;> first | rfl | (rw [if_neg (by omega)]; simp)
  rcases l with _ | ⟨x10, l⟩
  · refine ⟨_, h, fun t => ?_⟩
    rw [row0]
    rcases t with _|_|_|_|_|_|_|_|_|_|_|_|t <;> first | rfl | (rw [if_neg (by omega)]; simp)
  rcases l with _ | ⟨x11, l⟩
  · refine ⟨_, h, fun t => ?_⟩
    rw [row0]
    rcases t with _|_|_|_|_|_|_|_|_|_|_|_|t <;> first | rfl | (rw [if_neg (by omega)]; simp)
  rcases l with _ | ⟨x12, l⟩
  · refine ⟨_, h, fun t => ?_⟩
    rw [row0]
    rcases t with _|_|_|_|_|_|_|_|_|_|_|_|t <;> first | rfl | (rw [if_neg (by omega)]; simp)
  · cases h
end Go.Proofs.YtddbhljljmijcaaGreat.V
