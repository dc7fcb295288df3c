/- What a text says of a plan, looked at. -/
import Derived.Test.YtddbhljljmijcaaGreatRv
namespace Go.Proofs.YtddbhljljmijcaaGreat.V
open Go.RowKit
set_option linter.unusedVariables false
set_option linter.unusedSimpArgs false
variable {P : Program}

def memB (t : Nat) : List Nat → Bool
  | [] => false
  | x :: l => Nat.beq t x || memB t l
theorem memB_of {t : Nat} : ∀ {l : List Nat}, t ∈ l → memB t l = true
  | x :: l, h => by
    cases h with
    | head => simp [memB]
    | tail _ h => simp [memB, memB_of h]
def seqB (p q : PEnt) : Bool :=
  !(Nat.beq p.i q.i) && (match p.dst with
    | none => true
    | some t => (match q.dst with | none => true | some t' => !(Nat.beq t t')) && (!(memB t q.ts) || q.anc.testBit p.i)) &&
  (match q.dst with
    | none => true
    | some t => !(memB t p.ts) || q.anc.testBit p.i)
theorem seqB_sound {p q : PEnt} (h : seqB p q = true) : Seq2 p.i p.dst p.ts q.i q.anc q.dst q.ts := by
  unfold seqB at h
  simp only [Bool.and_eq_true] at h
  obtain ⟨⟨h1, h2⟩, h3⟩ := h
  refine ⟨fun e => by rw [e] at h1; simp at h1, fun t ht hq => ?_, fun t ht hd => ?_, fun t ht hd => ?_⟩
  · rw [ht, hq] at h2
    simp at h2
  · rw [hd] at h2
    simp [memB_of ht] at h2
    exact h2.2
  · rw [hd] at h3
    simp [memB_of ht] at h3
    exact h3
def pairB : List PEnt → Bool
  | [] => true
  | p :: l => l.all (seqB p) && pairB l
theorem pairB_sound : ∀ {l : List PEnt}, pairB l = true → l.Pairwise fun p q => Seq2 p.i p.dst p.ts q.i q.anc q.dst q.ts
  | [], _ => .nil
  | p :: l, h => by
    simp only [pairB, Bool.and_eq_true, List.all_eq_true] at h
    exact .cons (fun q hq => seqB_sound (h.1 q hq)) (pairB_sound h.2)
def hasB (i : Nat) : List PEnt → Bool
  | [] => false
  | p :: l => Nat.beq p.i i || hasB i l
theorem hasB_sound {i : Nat} : ∀ {l : List PEnt}, hasB i l = true → ∃ p ∈ l, p.i = i
  | p :: l, h => by
    simp only [hasB, Bool.or_eq_true] at h
    rcases h with h | h
    · exact ⟨p, by simp, by simpa using h⟩
    · obtain ⟨q, h1, h2⟩ := hasB_sound h
      exact ⟨q, by simp [h1], h2⟩
def factB (ops : Array Oper) (n : Nat) (p : PEnt) : Bool :=
  match ops[p.i]? with
  | none => false
  | some o => (match o.dst, p.dst with
    | none, none => true
    | some d, some d' => Nat.beq d d' && Nat.blt d n
    | _, _ => false)
theorem factB_sound {ops : Array Oper} {n : Nat} {p : PEnt} (h : factB ops n p = true) : Fact ops n p.i p.anc p.dst p.ts := by
  unfold factB at h
  split at h
  · cases h
  · rename_i o ho
    split at h
    · rename_i h1 h2
      exact ⟨⟨o, ho, by rw [h1, h2]⟩, fun d hd => by rw [h2] at hd; cases hd⟩
    · rename_i d d' h1 h2
      simp only [Bool.and_eq_true] at h
      have e : d = d' := by simpa using h.1
      have hl : d < n := by simpa [Nat.blt_eq] using h.2
      subst e
      exact ⟨⟨o, ho, by rw [h1, h2]⟩, fun t ht => by rw [h2] at ht; cases ht; exact hl⟩
    · cases h
/-- The ancestors of an operation, by those of what it waits for. -/
def ancB (plan : List PEnt) (p : PEnt) (l : List Edge) (j : Nat) : Bool :=
  !(p.anc.testBit j) || l.any fun e => Region.binds .any e && (Nat.beq e.on j || plan.any fun q => Nat.beq q.i e.on && q.anc.testBit j)
def ancsB (ops : Array Oper) (plan : List PEnt) (p : PEnt) : Bool :=
  match ops[p.i]? with
  | none => false
  | some o => Nat.blt p.anc (2 ^ ops.size) && (List.range ops.size).all (ancB plan p o.after.toList)
def topoB (ops : Array Oper) : List PEnt → List PEnt → Bool
  | _, [] => true
  | seen, p :: l => (match ops[p.i]? with
    | none => false
    | some o => o.after.toList.all fun e => !(Region.binds .any e) || hasB e.on seen) && topoB ops (p :: seen) l
theorem topoB_sound {ops : Array Oper} : ∀ {l seen : List PEnt}, topoB ops seen l = true → ∀ l1 p l2, l = l1 ++ p :: l2 → ∀ o, ops[p.i]? = some o → ∀ e ∈ o.after, Region.binds .any e = true → ∃ q, (q ∈ l1 ∨ q ∈ seen) ∧ q.i = e.on
  | [], seen, h, l1, p, l2, he, _, _, _, _, _ => by simp at he
  | x :: l, seen, h, [], p, l2, he, o, ho, e, hm, hb => by
    simp at he
    obtain ⟨rfl, rfl⟩ := he
    simp only [topoB, ho, Bool.and_eq_true, List.all_eq_true] at h
    have := h.1 e (by simpa using hm)
    simp only [hb, Bool.not_true, Bool.false_or] at this
    obtain ⟨q, h1, h2⟩ := hasB_sound this
    exact ⟨q, .inr h1, h2⟩
  | x :: l, seen, h, y :: l1, p, l2, he, o, ho, e, hm, hb => by
    simp at he
    obtain ⟨rfl, he⟩ := he
    simp only [topoB, Bool.and_eq_true] at h
    obtain ⟨q, h1, h2⟩ := topoB_sound h.2 l1 p l2 he o ho e hm hb
    refine ⟨q, ?_, h2⟩
    rcases h1 with h1 | h1
    · exact .inl (by simp [h1])
    · cases h1 with
      | head => exact .inl (by simp)
      | tail _ h1 => exact .inr h1
def planB (ops : Array Oper) (n : Nat) (plan : List PEnt) : Bool :=
  pairB plan && plan.all (factB ops n) && (List.range ops.size).all (fun i => hasB i plan) && plan.all (ancsB ops plan) && topoB ops [] plan
theorem planB_sound {ops : Array Oper} {n : Nat} {plan : List PEnt} (h : planB ops n plan = true) : PlanOk ops n plan := by
  unfold planB at h
  simp only [Bool.and_eq_true, List.all_eq_true] at h
  obtain ⟨⟨⟨⟨h1, h2⟩, h3⟩, h4⟩, h5⟩ := h
  refine ⟨pairB_sound h1, fun p hp => factB_sound (h2 p hp), fun i hi => hasB_sound (h3 i (by simpa using hi)), fun p hp o ho j hj => ?_, fun l1 p l2 he o ho e hm hb => ?_⟩
  · have := h4 p hp
    simp only [ancsB, ho, Bool.and_eq_true, List.all_eq_true] at this
    obtain ⟨b1, b2⟩ := this
    have b1 : p.anc < 2 ^ ops.size := by simpa [Nat.blt_eq] using b1
    have hlt : j < ops.size := by
      rcases Nat.lt_or_ge j ops.size with q | q
      · exact q
      · have : p.anc < 2 ^ j := Nat.lt_of_lt_of_le b1 (Nat.pow_le_pow_right (by omega) q)
        rw [Nat.testBit_lt_two_pow this] at hj
        cases hj
    have := b2 j (by simpa using hlt)
    simp only [ancB, hj, Bool.not_true, Bool.false_or, List.any_eq_true, Bool.and_eq_true, Bool.or_eq_true] at this
    obtain ⟨e, he, hb, hc⟩ := this
    refine ⟨e, by simpa using he, hb, ?_⟩
    rcases hc with hc | ⟨q, hq, hc1, hc2⟩
    · exact .inl (by simpa using hc)
    · exact .inr ⟨q, hq, by simpa using hc1, hc2⟩
  · obtain ⟨q, h1, h2⟩ := topoB_sound h5 l1 p l2 he o ho e hm hb
    rcases h1 with h1 | h1
    · exact ⟨q, h1, h2⟩
    · cases h1
def isChain : DX → Bool
  | .chain _ => true
  | _ => false
def behindB : List DStep → Bool
  | [] => true
  | s :: l => (!(isChain s.X) || l.all fun q => q.anc.testBit s.i) && behindB l
theorem behindB_sound : ∀ {l : List DStep}, behindB l = true → Behind l
  | [], _ => trivial
  | s :: l, h => by
    simp only [behindB, Bool.and_eq_true] at h
    refine ⟨fun hx q hq => ?_, behindB_sound h.2⟩
    obtain ⟨X, hX⟩ := hx
    have := h.1
    rw [hX] at this
    simp only [isChain, Bool.not_true, Bool.false_or, List.all_eq_true] at this
    exact this q hq
end Go.Proofs.YtddbhljljmijcaaGreat.V
