/- Abstract values, abstract heaps, and the relation to the model's values and worlds. -/
import Derived.Test.YtddbhljljmijcaaGreatRa
namespace Go.Proofs.YtddbhljljmijcaaGreat.V
open Go.RowKit
set_option linter.unusedVariables false

/-- What one cell holds. -/
inductive At where
  | bool (b : Bool)
  | int (k : IntKind) (n : Int)
  | str (s : List Nat)
  | nilp
  | ptr (b o : Nat)
  | nils
  | emps
  | slc (b o n c sz : Nat) (ex : Bool)
  | nilm
  | mp (b : Nat)
  | nilf
  | fn (f : Nat) (first caps : List At)
inductive AV where
  | one (a : At)
  | agg (l : List At)
  | tup (l : List AV)
  | any
  | sym (b : Nat)
/-- Where an abstract block lies: nowhere yet, nowhere any more, or in a block, from a cell on; the block has so many cells, an element so many. -/
inductive Loc where
  | un
  | dead
  | loc (B base S : Nat)
  | val (V : Value)
abbrev Ren := Nat → Loc
def Loc.le : Loc → Loc → Prop
  | .un, _ => True
  | .dead, y => y = .dead
  | .loc B base S, y => y = .loc B base S ∨ y = .dead
  | .val V, y => y = .val V
/-- A block that lies somewhere, or did. -/
def Loc.Known : Loc → Prop
  | .loc _ _ _ => True
  | .dead => True
  | _ => False
theorem Loc.le_refl : ∀ x : Loc, x.le x
  | .un => trivial
  | .dead => rfl
  | .loc .. => .inl rfl
  | .val _ => rfl
theorem Loc.le_trans : ∀ {x y z : Loc}, x.le y → y.le z → x.le z
  | .un, _, _, _, _ => trivial
  | .dead, _, _, h, h' => by cases h; exact h'
  | .loc .., _, _, .inl h, h' => by cases h; exact h'
  | .loc .., _, _, .inr h, h' => by cases h; exact .inr h'
  | .val _, _, _, h, h' => by cases h; exact h'
def Ren.le (ρ ρ' : Ren) : Prop := ∀ b, (ρ b).le (ρ' b)
theorem Ren.le_refl (ρ : Ren) : Ren.le ρ ρ := fun _ => Loc.le_refl _
theorem Ren.le_trans {a b c : Ren} (h : Ren.le a b) (h' : Ren.le b c) : Ren.le a c := fun i => Loc.le_trans (h i) (h' i)

mutual
inductive ARel (ρ : Ren) : At → Value → Prop
  | bool (b : Bool) : ARel ρ (.bool b) (.bool b)
  | int (k : IntKind) (n : Int) : ARel ρ (.int k n) (.int k n)
  | str {s : List Nat} {bs : ByteArray} (h : bs.data.toList.map UInt8.toNat = s) : ARel ρ (.str s) (.string bs)
  | nilp : ARel ρ .nilp (.pointer none)
  | ptr {b o B base S : Nat} (h : ρ b = .loc B base S) : ARel ρ (.ptr b o) (.pointer (some ⟨B, base + o, none⟩))
  | ptrd {b o : Nat} {A : Addr} (h : ρ b = .dead) : ARel ρ (.ptr b o) (.pointer (some A))
  | nils : ARel ρ .nils (.slice none 0 0)
  | emps {A : Addr} {c : Nat} : ARel ρ .emps (.slice (some A) 0 c)
  | slc {b o n c B base S sz c' : Nat} {ex : Bool} (h : ρ b = .loc B base S) (hn : n ≤ c) (hc : c ≤ c') (hx : ex = true → c' = c) (hs : base + o + c' * sz ≤ S) : ARel ρ (.slc b o n c sz ex) (.slice (some ⟨B, base + o, none⟩) n c')
  | slcd {b o n c sz c' : Nat} {ex : Bool} {A : Addr} (h : ρ b = .dead) (hn : n ≤ c) (hc : c ≤ c') (hx : ex = true → c' = c) : ARel ρ (.slc b o n c sz ex) (.slice (some A) n c')
  | nilm : ARel ρ .nilm (.map none)
  | mp {b B base S : Nat} (h : ρ b = .loc B base S) : ARel ρ (.mp b) (.map (some B))
  | mpd {b B : Nat} (h : ρ b = .dead) : ARel ρ (.mp b) (.map (some B))
  | nilf : ARel ρ .nilf .nilFunc
  | fn {f : Nat} {first caps : List At} {F C : List Value} (hf : f < 1000000000) (h1 : ARels ρ first F) (h2 : ARels ρ caps C) : ARel ρ (.fn f first caps) (.func (.func f) F.toArray C.toArray)
  | yl {b L base S : Nat} (h : ρ b = .loc L base S) : ARel ρ (.fn (1000000000 + b) [] []) (.func (.yield L) #[] #[])
  | yld {b L : Nat} (h : ρ b = .dead) : ARel ρ (.fn (1000000000 + b) [] []) (.func (.yield L) #[] #[])
inductive ARels (ρ : Ren) : List At → List Value → Prop
  | nil : ARels ρ [] []
  | cons {a : At} {v : Value} {l : List At} {L : List Value} (h : ARel ρ a v) (t : ARels ρ l L) : ARels ρ (a :: l) (v :: L)
end
mutual
inductive VRel (ρ : Ren) : AV → Value → Prop
  | one {a : At} {v : Value} (h : ARel ρ a v) : VRel ρ (.one a) v
  | agg {l : List At} {L : Array Value} (h : ARels ρ l L.toList) : VRel ρ (.agg l) (.agg L)
  | tup {l : List AV} {L : Array Value} (h : VRels ρ l L.toList) : VRel ρ (.tup l) (.tuple L)
  | any {v : Value} : VRel ρ .any v
  | sym {b : Nat} {v : Value} (h : ρ b = .val v) : VRel ρ (.sym b) v
inductive VRels (ρ : Ren) : List AV → List Value → Prop
  | nil : VRels ρ [] []
  | cons {a : AV} {v : Value} {l : List AV} {L : List Value} (h : VRel ρ a v) (t : VRels ρ l L) : VRels ρ (a :: l) (v :: L)
end
mutual
theorem ARel.mono {ρ ρ' : Ren} (hl : Ren.le ρ ρ') : ∀ {a : At} {v : Value}, ARel ρ a v → ARel ρ' a v
  | _, _, .bool b => .bool b
  | _, _, .int k n => .int k n
  | _, _, .str h => .str h
  | _, _, .nilp => .nilp
  | _, _, .ptr (b := b) h => by
    have := hl b
    rw [h] at this
    rcases this with h' | h'
    · exact .ptr h'
    · exact .ptrd h'
  | _, _, .ptrd (b := b) h => .ptrd (by have := hl b; rw [h] at this; exact this)
  | _, _, .nils => .nils
  | _, _, .emps => .emps
  | _, _, .slc (b := b) h hn hc hx hs => by
    have := hl b
    rw [h] at this
    rcases this with h' | h'
    · exact .slc h' hn hc hx hs
    · exact .slcd h' hn hc hx
  | _, _, .slcd (b := b) h hn hc hx => .slcd (by have := hl b; rw [h] at this; exact this) hn hc hx
  | _, _, .nilm => .nilm
  | _, _, .mp (b := b) h => by
    have := hl b
    rw [h] at this
    rcases this with h' | h'
    · exact .mp h'
    · exact .mpd h'
  | _, _, .mpd (b := b) h => .mpd (by have := hl b; rw [h] at this; exact this)
  | _, _, .nilf => .nilf
  | _, _, .fn hf h1 h2 => .fn hf (ARels.mono hl h1) (ARels.mono hl h2)
  | _, _, .yl (b := b) h => by
    have := hl b
    rw [h] at this
    rcases this with h' | h'
    · exact .yl h'
    · exact .yld h'
  | _, _, .yld (b := b) h => .yld (by have := hl b; rw [h] at this; exact this)
theorem ARels.mono {ρ ρ' : Ren} (hl : Ren.le ρ ρ') : ∀ {a : List At} {v : List Value}, ARels ρ a v → ARels ρ' a v
  | _, _, .nil => .nil
  | _, _, .cons h t => .cons (ARel.mono hl h) (ARels.mono hl t)
end
mutual
theorem VRel.mono {ρ ρ' : Ren} (hl : Ren.le ρ ρ') : ∀ {a : AV} {v : Value}, VRel ρ a v → VRel ρ' a v
  | _, _, .one h => .one (h.mono hl)
  | _, _, .agg h => .agg (h.mono hl)
  | _, _, .tup h => .tup (VRels.mono hl h)
  | _, _, .any => .any
  | _, _, .sym (b := b) h => .sym (by have := hl b; rw [h] at this; exact this)
theorem VRels.mono {ρ ρ' : Ren} (hl : Ren.le ρ ρ') : ∀ {a : List AV} {v : List Value}, VRels ρ a v → VRels ρ' a v
  | _, _, .nil => .nil
  | _, _, .cons h t => .cons (VRel.mono hl h) (VRels.mono hl t)
end
theorem VRel.undef (ρ : Ren) : VRel ρ (.tup []) Go.undef := .tup .nil

theorem ARels.length {ρ : Ren} : ∀ {l : List At} {L : List Value}, ARels ρ l L → l.length = L.length
  | _, _, .nil => rfl
  | _, _, .cons _ t => by simp [t.length]
theorem ARels.get {ρ : Ren} : ∀ {l : List At} {L : List Value}, ARels ρ l L → ∀ (i : Nat) a, l[i]? = some a → ∃ v, L[i]? = some v ∧ ARel ρ a v
  | _, _, .nil, i, a, h => by simp at h
  | _, _, .cons h t, 0, a, e => by simp at e; subst e; exact ⟨_, rfl, h⟩
  | _, _, .cons h t, i + 1, a, e => by simpa using t.get i a (by simpa using e)
theorem ARels.append {ρ : Ren} : ∀ {l : List At} {L : List Value} {m : List At} {M : List Value}, ARels ρ l L → ARels ρ m M → ARels ρ (l ++ m) (L ++ M)
  | _, _, _, _, .nil, h => h
  | _, _, _, _, .cons h t, h' => .cons h (t.append h')
theorem ARels.of_get {ρ : Ren} : ∀ {l : List At} {L : List Value}, l.length = L.length → (∀ (i : Nat) a v, l[i]? = some a → L[i]? = some v → ARel ρ a v) → ARels ρ l L
  | [], [], _, _ => .nil
  | a :: l, v :: L, hl, h => .cons (h 0 a v rfl rfl) (ARels.of_get (by simpa using hl) (fun i a v h1 h2 => h (i + 1) a v (by simpa using h1) (by simpa using h2)))
  | [], _ :: _, h, _ => by simp at h
  | _ :: _, [], h, _ => by simp at h
/-- One cell's value is no row. -/
theorem ARel.one {ρ : Ren} {a : At} {v : Value} (h : ARel ρ a v) : v.oneCell' = true := by
  cases h <;> rfl
theorem ARel.cells {ρ : Ren} {a : At} {v : Value} (h : ARel ρ a v) : v.cells = #[v] := by
  cases h <;> rfl
theorem ARels.one {ρ : Ren} : ∀ {l : List At} {L : List Value}, ARels ρ l L → ∀ v ∈ L, v.oneCell' = true
  | _, _, .nil, v, h => by cases h
  | _, _, .cons h t, v, hv => by
    cases hv with
    | head => exact h.one
    | tail _ hv => exact t.one v hv
def AV.cells : AV → Option (List At)
  | .one a => some [a]
  | .agg l => some l
  | .tup _ => none
  | .any => none
  | .sym _ => none
theorem VRel.cells {ρ : Ren} {a : AV} {v : Value} {l : List At} (h : VRel ρ a v) (hl : a.cells = some l) : ARels ρ l v.cells.toList := by
  cases h with
  | one h => cases hl; rw [h.cells]; exact .cons h .nil
  | agg h => cases hl; exact h
  | tup h => cases hl
  | any => cases hl
  | sym _ => cases hl

/-! ### The abstract frame: thirteen rows of twelve slots -/
inductive ERow where
  | mk (x0 x1 x2 x3 x4 x5 x6 x7 x8 x9 x10 x11 : AV)
inductive Env where
  | mk (r0 r1 r2 r3 r4 r5 r6 r7 r8 r9 r10 r11 r12 : ERow)
def eRow : ERow := .mk .any .any .any .any .any .any .any .any .any .any .any .any
def eEnv : Env := .mk eRow eRow eRow eRow eRow eRow eRow eRow eRow eRow eRow eRow eRow
def ERow.at : ERow → Nat → AV
  | .mk x0 _ _ _ _ _ _ _ _ _ _ _, 0 => x0
  | .mk _ x1 _ _ _ _ _ _ _ _ _ _, 1 => x1
  | .mk _ _ x2 _ _ _ _ _ _ _ _ _, 2 => x2
  | .mk _ _ _ x3 _ _ _ _ _ _ _ _, 3 => x3
  | .mk _ _ _ _ x4 _ _ _ _ _ _ _, 4 => x4
  | .mk _ _ _ _ _ x5 _ _ _ _ _ _, 5 => x5
  | .mk _ _ _ _ _ _ x6 _ _ _ _ _, 6 => x6
  | .mk _ _ _ _ _ _ _ x7 _ _ _ _, 7 => x7
  | .mk _ _ _ _ _ _ _ _ x8 _ _ _, 8 => x8
  | .mk _ _ _ _ _ _ _ _ _ x9 _ _, 9 => x9
  | .mk _ _ _ _ _ _ _ _ _ _ x10 _, 10 => x10
  | .mk _ _ _ _ _ _ _ _ _ _ _ x11, 11 => x11
  | _, _ => .any
def Env.row : Env → Nat → ERow
  | .mk r0 _ _ _ _ _ _ _ _ _ _ _ _, 0 => r0
  | .mk _ r1 _ _ _ _ _ _ _ _ _ _ _, 1 => r1
  | .mk _ _ r2 _ _ _ _ _ _ _ _ _ _, 2 => r2
  | .mk _ _ _ r3 _ _ _ _ _ _ _ _ _, 3 => r3
  | .mk _ _ _ _ r4 _ _ _ _ _ _ _ _, 4 => r4
  | .mk _ _ _ _ _ r5 _ _ _ _ _ _ _, 5 => r5
  | .mk _ _ _ _ _ _ r6 _ _ _ _ _ _, 6 => r6
  | .mk _ _ _ _ _ _ _ r7 _ _ _ _ _, 7 => r7
  | .mk _ _ _ _ _ _ _ _ r8 _ _ _ _, 8 => r8
  | .mk _ _ _ _ _ _ _ _ _ r9 _ _ _, 9 => r9
  | .mk _ _ _ _ _ _ _ _ _ _ r10 _ _, 10 => r10
  | .mk _ _ _ _ _ _ _ _ _ _ _ r11 _, 11 => r11
  | .mk _ _ _ _ _ _ _ _ _ _ _ _ r12, 12 => r12
  | _, _ => eRow
def Env.slot (e : Env) (t : Nat) : AV := (e.row (t / 12)).at (t % 12)
def AV.isAny : AV → Bool
  | .any => true
  | _ => false
/-- What the frame's temporaries are. -/
def TmpsR (ρ : Ren) (n : Nat) (env : Env) (tmps : Array Value) : Prop := tmps.size = n ∧ ∀ t, (env.slot t).isAny = false → ∃ V, tmps[t]? = some V ∧ VRel ρ (env.slot t) V
theorem TmpsR.mono {ρ ρ' : Ren} {n : Nat} {env : Env} {tmps : Array Value} (h : TmpsR ρ n env tmps) (hl : Ren.le ρ ρ') : TmpsR ρ' n env tmps := ⟨h.1, fun t e => let ⟨V, h1, h2⟩ := h.2 t e; ⟨V, h1, h2.mono hl⟩⟩
/-- The first range over a function in a code: its variables, its assignments, its body. -/
def rangeIn : Code → Option (Array Tmp × Code × Code)
  | .rangeFunc _ ps a c => some (ps, a, c)
  | .seq a b => match rangeIn a with
    | some x => some x
    | none => rangeIn b
  | .block _ a => rangeIn a
  | .loop a => rangeIn a
  | .scope a => rangeIn a
  | .cond _ a b => match rangeIn a with
    | some x => some x
    | none => rangeIn b
  | _ => none
noncomputable def roundsOf (f : Nat) : Option (Array Tmp × Code × Code) := ((Go.Proofs.Tryz.prog.funcs[f]?).bind (·.body)).bind rangeIn

/-! ### Heaps -/
inductive Ob where
  | cells (c : List At) (fz : Nat) (byte : Bool) (bd : Nat)
  | map (es : List (AV × AV))
  | gone
  | loop (env : Env) (n rid : Nat)
structure Heap where
  m : T Ob
  next : Nat
def ObRel (ρ : Ren) (w : World) (B base S : Nat) : Ob → Prop
  | .cells c fz byte bd => ∃ CS e fr, w.heap[B]? = some (.cells CS e fr) ∧ CS.size = S ∧ (∀ (i : Nat) a, c[i]? = some a → ∃ v, CS[base + i]? = some v ∧ ARel ρ a v) ∧ (∀ i, fz ≤ i → base + i < S → w.frozen? ⟨B, base + i, none⟩ = false) ∧
      (byte = true → e = 5 ∧ fr.1 ≤ fr.2 ∧ fr.2 ≤ base + fz) ∧ (bd ≠ 0 → e = bd ∧ base = 0 ∧ S = Go.Proofs.Tryz.prog.cellsOf bd)
  | .map es => ∃ E clock, w.heap[B]? = some (.map E clock) ∧ base = 0 ∧ es.length = E.size ∧ (∀ (i : Nat) k x, es[i]? = some (k, x) → ∃ en, E[i]? = some en ∧ VRel ρ k en.key ∧ VRel ρ x en.val)
  | .gone => ∃ r, w.heap[B]? = some (.loop r)
  | .loop env n rid => ∃ r, w.heap[B]? = some (.loop r) ∧ (rid ≠ 0 → r.state = .ready ∧ r.pending = none ∧ roundsOf rid = some (r.params, r.assign, r.body) ∧ TmpsR ρ n env r.tmps)
/-- What operations let be: the records of loops, and the calls that rounds have deferred. -/
def Quiet : Obj → Prop
  | .loop _ => True
  | .deferred _ => True
  | _ => False
structure Rel (H : Nat) (W0 : World) (ρ : Ren) (h : Heap) (w : World) : Prop where
  base : H ≤ W0.heap.size
  below : Below H W0 w
  live : ∀ b B base S, ρ b = .loc B base S → ∃ ob, h.m.get b = some ob ∧ H ≤ B ∧ ObRel ρ w B base S ob
  dead : ∀ b ob, ρ b = .dead → h.m.get b = some ob → ob = .gone
  fresh : ∀ b, h.next ≤ b → ρ b = .un
  inj : ∀ b b' B base S base' S', ρ b = .loc B base S → ρ b' = .loc B base' S' → b = b'
  keep : ∀ (k : Nat) (o : Obj), W0.heap[k]? = some o → Quiet o → w.heap[k]? = some o
structure Ext (ρ : Ren) (h : Heap) (ρ' : Ren) (h' : Heap) : Prop where
  le : Ren.le ρ ρ'
  next : h.next ≤ h'.next
  keep : ∀ b, b < h.next → ρ b = .un → ρ' b = .un ∧ h'.m.get b = h.m.get b
theorem Ext.refl (ρ : Ren) (h : Heap) : Ext ρ h ρ h := ⟨Ren.le_refl _, Nat.le_refl _, fun _ _ e => ⟨e, rfl⟩⟩
theorem Ext.trans {ρ ρ1 ρ2 : Ren} {h h1 h2 : Heap} (a : Ext ρ h ρ1 h1) (b : Ext ρ1 h1 ρ2 h2) : Ext ρ h ρ2 h2 :=
  ⟨Ren.le_trans a.le b.le, Nat.le_trans a.next b.next, fun i hi hu => by
    obtain ⟨u1, g1⟩ := a.keep i hi hu
    obtain ⟨u2, g2⟩ := b.keep i (Nat.lt_of_lt_of_le hi a.next) u1
    exact ⟨u2, g2.trans g1⟩⟩
theorem ObRel.mono {ρ ρ' : Ren} {w : World} {B base S : Nat} {ob : Ob} (hl : Ren.le ρ ρ') (h : ObRel ρ w B base S ob) : ObRel ρ' w B base S ob := by
  cases ob with
  | cells c fz byte bd =>
    obtain ⟨CS, e, fr, h1, h2, h3, h4⟩ := h
    exact ⟨CS, e, fr, h1, h2, fun i a ha => let ⟨v, hv, hr⟩ := h3 i a ha; ⟨v, hv, hr.mono hl⟩, h4⟩
  | map es =>
    obtain ⟨E, clock, h1, h0, h2, h3⟩ := h
    exact ⟨E, clock, h1, h0, h2, fun i k x hx => let ⟨en, he, a, b⟩ := h3 i k x hx; ⟨en, he, a.mono hl, b.mono hl⟩⟩
  | gone => exact h
  | loop env n rid => obtain ⟨r, h1, h2⟩ := h; exact ⟨r, h1, fun q => let ⟨a, b, c, d⟩ := h2 q; ⟨a, b, c, d.mono hl⟩⟩
theorem ObRel.same {ρ : Ren} {w w' : World} {B base S : Nat} {ob : Ob} (h : ObRel ρ w B base S ob) (hB : w'.heap[B]? = w.heap[B]?) : ObRel ρ w' B base S ob := by
  cases ob with
  | cells c fz byte bd =>
    obtain ⟨CS, e, fr, h1, h2, h3, h4, h5⟩ := h
    refine ⟨CS, e, fr, hB.trans h1, h2, h3, fun i hi hs => ?_, h5⟩
    rw [World.frozen?_of_block (w := w) hB]
    exact h4 i hi hs
  | map es =>
    obtain ⟨E, clock, h1, r⟩ := h
    exact ⟨E, clock, hB.trans h1, r⟩
  | gone => obtain ⟨r, h⟩ := h; exact ⟨r, hB.trans h⟩
  | loop env n rid => obtain ⟨r, h1, h2⟩ := h; exact ⟨r, hB.trans h1, h2⟩
theorem ObRel.lt {ρ : Ren} {w : World} {B base S : Nat} {ob : Ob} (h : ObRel ρ w B base S ob) : B < w.heap.size := by
  rcases Nat.lt_or_ge B w.heap.size with hlt | hge
  · exact hlt
  · cases ob with
    | cells c fz byte bd => obtain ⟨CS, e, fr, h1, _⟩ := h; rw [Array.getElem?_eq_none hge] at h1; cases h1
    | map es => obtain ⟨E, clock, h1, _⟩ := h; rw [Array.getElem?_eq_none hge] at h1; cases h1
    | gone => obtain ⟨r, h1⟩ := h; rw [Array.getElem?_eq_none hge] at h1; cases h1
    | loop env n rid => obtain ⟨r, h1, _⟩ := h; rw [Array.getElem?_eq_none hge] at h1; cases h1
theorem Rel.size {H : Nat} {W0 : World} {ρ : Ren} {h : Heap} {w : World} (r : Rel H W0 ρ h w) : H ≤ w.heap.size := Nat.le_trans r.base r.below.size
/-- A draw turns nothing. -/
theorem Rel.drawn {H : Nat} {W0 : World} {ρ : Ren} {h : Heap} {w w' : World} (r : Rel H W0 ρ h w) (hh : w'.heap = w.heap) (ho : w'.os = w.os) (ht : w'.tape = w.tape) (hp : w'.output = w.output) : Rel H W0 ρ h w' :=
  ⟨r.base, ⟨ho.trans r.below.os, ht.trans r.below.tape, hp.trans r.below.output, by rw [hh]; exact r.below.size, fun k hk => by rw [hh]; exact r.below.block k hk⟩,
    fun b B base S e => let ⟨ob, g, hB, o⟩ := r.live b B base S e; ⟨ob, g, hB, o.same (by rw [hh])⟩, r.dead, r.fresh, r.inj, fun k o h q => by rw [hh]; exact r.keep k o h q⟩
/-- What is not mapped may be anything. -/
theorem Rel.more {H : Nat} {W0 : World} {ρ : Ren} {h h' : Heap} {w : World} (r : Rel H W0 ρ h w) (hn : h.next ≤ h'.next) (hs : ∀ b, ρ b ≠ .un → h'.m.get b = h.m.get b) : Rel H W0 ρ h' w :=
  ⟨r.base, r.below, fun b B base S e => let ⟨ob, g, x⟩ := r.live b B base S e; ⟨ob, (hs b (by rw [e]; exact fun h => by cases h)).trans g, x⟩,
    fun b ob e g => r.dead b ob e ((hs b (by rw [e]; exact fun h => by cases h)).symm.trans g), fun b hb => r.fresh b (Nat.le_trans hn hb), r.inj, r.keep⟩
def Ren.set (ρ : Ren) (b : Nat) (l : Loc) : Ren := fun i => if i = b then l else ρ i
theorem Ren.set_le {ρ : Ren} {b : Nat} {l : Loc} (h : (ρ b).le l) : Ren.le ρ (ρ.set b l) := by
  intro i
  unfold Ren.set
  split
  · rename_i e; subst e; exact h
  · exact Loc.le_refl _
/-- An abstract block that was not mapped yet gets a new block. -/
theorem Rel.map {H : Nat} {W0 : World} {ρ : Ren} {h : Heap} {w : World} (r : Rel H W0 ρ h w) (b : Nat) (hb : ρ b = .un) (hn : b < h.next) (ob : Ob) (hg : h.m.get b = some ob) (o : Obj) (S : Nat)
    (ho : ObRel (ρ.set b (.loc w.heap.size 0 S)) (w.alloc o) w.heap.size 0 S ob) : Rel H W0 (ρ.set b (.loc w.heap.size 0 S)) h (w.alloc o) := by
  have hH : H ≤ w.heap.size := r.size
  have hle : Ren.le ρ (ρ.set b (.loc w.heap.size 0 S)) := Ren.set_le (by rw [hb]; trivial)
  have hlt : ∀ b' B base S', ρ b' = .loc B base S' → B < w.heap.size := fun b' B base S' e => let ⟨ob, _, _, x⟩ := r.live b' B base S' e; x.lt
  refine ⟨r.base, r.below.alloc hH o, ?_, ?_, ?_, ?_, fun k o' h q => (Below.heap_alloc w o k (Array.getElem?_eq_some_iff.1 (r.keep k o' h q)).1).trans (r.keep k o' h q)⟩
  · intro b' B base S' e
    unfold Ren.set at e
    split at e
    · rename_i eb
      subst eb
      injection e with e1 e2 e3
      subst e1; subst e2; subst e3
      exact ⟨ob, hg, hH, ho⟩
    · obtain ⟨ob', g, hB, x⟩ := r.live b' B base S' e
      exact ⟨ob', g, hB, (x.mono hle).same (Below.heap_alloc w o B x.lt)⟩
  · intro b' ob' e g
    unfold Ren.set at e
    split at e
    · cases e
    · exact r.dead b' ob' e g
  · intro b' hb'
    unfold Ren.set
    rw [if_neg (by omega)]
    exact r.fresh b' hb'
  · intro b1 b2 B base S1 base' S2 e1 e2
    unfold Ren.set at e1 e2
    split at e1 <;> split at e2
    · omega
    · injection e1 with q; have := hlt _ _ _ _ e2; omega
    · injection e2 with q; have := hlt _ _ _ _ e1; omega
    · exact r.inj _ _ _ _ _ _ _ e1 e2
/-- A block that the abstract heap makes. -/
theorem Rel.new {H : Nat} {W0 : World} {ρ : Ren} {h h' : Heap} {w : World} (r : Rel H W0 ρ h w) (ob : Ob) (hn : h'.next = h.next + 1) (hg : ∀ j, h'.m.get j = if h.next = j then some ob else h.m.get j) (o : Obj) (S : Nat)
    (ho : ObRel (ρ.set h.next (.loc w.heap.size 0 S)) (w.alloc o) w.heap.size 0 S ob) : Rel H W0 (ρ.set h.next (.loc w.heap.size 0 S)) h' (w.alloc o) ∧ Ext ρ h (ρ.set h.next (.loc w.heap.size 0 S)) h' := by
  have hu := r.fresh h.next (Nat.le_refl _)
  have r' : Rel H W0 ρ h' w := r.more (by omega) (fun b hb => by
    rw [hg b, if_neg]
    intro e
    subst e
    exact hb hu)
  refine ⟨r'.map h.next hu (by omega) ob (by rw [hg, if_pos rfl]) o S ho, ⟨Ren.set_le (by rw [hu]; trivial), by omega, fun b hb e => ?_⟩⟩
  refine ⟨?_, by rw [hg, if_neg (by omega)]⟩
  unfold Ren.set
  rw [if_neg (by omega)]
  exact e
end Go.Proofs.YtddbhljljmijcaaGreat.V
