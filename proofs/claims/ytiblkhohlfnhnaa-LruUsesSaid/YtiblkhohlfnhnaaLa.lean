/- Slices that read as lists; where the first element is that meets a test; what package slices finds. -/
import Derived.Test.YtiblkhohlfnhnaaProg
import Derived.WalkKit
import Derived.Below
import Derived.KernelRfl
import Derived.LoopTactic
import Derived.LoopN
import Derived.Outline
import Derived.Deep.RegionHeld3
import Derived.Lib.Hide
import Derived.Laws.Tables
import Derived.Laws.Rows
import Derived.Maps.AppendAt
import Derived.Deep.AppendLies
import Derived.RegionTactic
import Derived.OwnWalk
namespace Go.Proofs.Ytiblkhohlfnhnaa.La
open Go.RowKit
set_option linter.unusedVariables false

/-- A slice reads as a list. -/
def Sv {α : Type} (mk : α → Value) (w : World) (A : Option Addr) (n c : Nat) (xs : List α) : Prop :=
  n = xs.length ∧ n ≤ c ∧ n ≤ 65536 ∧ (n = 0 ∨ ∃ b off, A = some ⟨b, off, none⟩ ∧ b < w.heap.size ∧ ∀ (k : Nat) x, xs[k]? = some x → w.cell? ⟨b, off + k, none⟩ = some (mk x))
theorem Sv.below {α : Type} {mk : α → Value} {w w' : World} {A : Option Addr} {n c : Nat} {xs : List α} (h : Sv mk w A n c xs) (hb : Below w.heap.size w w') : Sv mk w' A n c xs := by
  obtain ⟨h1, h2, h3, h4⟩ := h
  refine ⟨h1, h2, h3, ?_⟩
  rcases h4 with h4 | ⟨b, off, rfl, hlt, hr⟩
  · exact .inl h4
  · exact .inr ⟨b, off, rfl, Nat.lt_of_lt_of_le hlt hb.size, fun k x hx => (hb.cell (p := ⟨b, off + k, none⟩) hlt).trans (hr k x hx)⟩
theorem bcell {W w1 : World} (hb : Below W.heap.size W w1) : (∀ b o, b < W.heap.size → w1.cell? ⟨b, o, none⟩ = W.cell? ⟨b, o, none⟩) ∧ (∀ b o, b < W.heap.size → w1.frozen? ⟨b, o, none⟩ = W.frozen? ⟨b, o, none⟩) :=
  ⟨fun b o h => hb.cell (p := ⟨b, o, none⟩) h, fun b o h => hb.frozen (p := ⟨b, o, none⟩) h⟩
/-- The first place at which the test holds; -1: none. -/
def Ix {α : Type} (p : α → Bool) : List α → Int
  | [] => -1
  | x :: l => if p x = true then 0 else if Ix p l < 0 then -1 else Ix p l + 1
section
variable {α : Type} {p : α → Bool}
theorem Ix_ge : ∀ l, -1 ≤ Ix p l ∧ Ix p l < l.length
  | [] => by simp [Ix]
  | x :: l => by
    have := Ix_ge l
    simp only [Ix, List.length_cons]
    (repeat' split) <;> omega
theorem Ix_at : ∀ (l : List α) (k : Nat) x, l[k]? = some x → p x = true → (∀ (j : Nat) y, j < k → l[j]? = some y → p y = false) → Ix p l = k
  | [], k, x, h, _, _ => by simp at h
  | y :: l, 0, x, h, hp, _ => by simp at h; subst h; simp [Ix, hp]
  | y :: l, k + 1, x, h, hp, hn => by
    have h0 : p y = false := hn 0 y (by omega) rfl
    have := Ix_at l k x (by simpa using h) hp (fun j z hj hz => hn (j + 1) z (by omega) (by simpa using hz))
    simp only [Ix, h0, this]
    rw [if_neg (by simp), if_neg (by omega)]
    omega
theorem Ix_none : ∀ (l : List α), (∀ (j : Nat) y, l[j]? = some y → p y = false) → Ix p l = -1
  | [], _ => rfl
  | y :: l, hn => by
    have h0 : p y = false := hn 0 y rfl
    have := Ix_none l (fun j z hz => hn (j + 1) z (by simpa using hz))
    simp [Ix, h0, this]
theorem Ix_get : ∀ (l : List α), 0 ≤ Ix p l → ∃ x, l[(Ix p l).toNat]? = some x ∧ p x = true
  | [], h => by simp [Ix] at h
  | y :: l, h => by
    simp only [Ix] at h ⊢
    by_cases h0 : p y = true
    · rw [if_pos h0]; exact ⟨y, rfl, h0⟩
    · rw [if_neg h0] at h ⊢
      by_cases h1 : Ix p l < 0
      · rw [if_pos h1] at h; omega
      · rw [if_neg h1]
        obtain ⟨x, hx, hp⟩ := Ix_get l (by omega)
        refine ⟨x, ?_, hp⟩
        rw [show (Ix p l + 1).toNat = (Ix p l).toNat + 1 by omega]
        simpa using hx
theorem Ix_lt : ∀ (l : List α) (j : Nat) y, (j : Int) < Ix p l → l[j]? = some y → p y = false
  | [], j, y, _, h => by simp at h
  | z :: l, j, y, hj, h => by
    simp only [Ix] at hj
    by_cases h0 : p z = true
    · rw [if_pos h0] at hj; omega
    · rw [if_neg h0] at hj
      by_cases h1 : Ix p l < 0
      · rw [if_pos h1] at hj; omega
      · rw [if_neg h1] at hj
        match j, h with
        | 0, h => simp at h; subst h; simpa using h0
        | j + 1, h => exact Ix_lt l j y (by omega) (by simpa using h)
theorem Ix_neg : ∀ (l : List α), Ix p l < 0 → ∀ (j : Nat) y, l[j]? = some y → p y = false
  | [], _, j, y, h => by simp at h
  | z :: l, hi, j, y, h => by
    simp only [Ix] at hi
    by_cases h0 : p z = true
    · rw [if_pos h0] at hi; omega
    · rw [if_neg h0] at hi
      by_cases h1 : Ix p l < 0
      · match j, h with
        | 0, h => simp at h; subst h; simpa using h0
        | j + 1, h => exact Ix_neg l h1 j y (by simpa using h)
      · rw [if_neg h1] at hi; omega
end
def Blk (w : World) (g : Nat) (t : TypeId) (cs : Array Value) : Prop := w.heap[g]? = some (.cells cs t (0, 0))
theorem Blk.lt {w : World} {g : Nat} {t : TypeId} {cs : Array Value} (h : Blk w g t cs) : g < w.heap.size := by
  rcases Nat.lt_or_ge g w.heap.size with hlt | hge
  · exact hlt
  · unfold Blk at h; rw [Array.getElem?_eq_none hge] at h; cases h
theorem Blk.new (w : World) (t : TypeId) (cs : Array Value) : Blk (w.alloc (.cells cs t)) w.heap.size t cs := heap_alloc_new w _
theorem Blk.alloc {w : World} {g : Nat} {t : TypeId} {cs : Array Value} (h : Blk w g t cs) (o : Obj) : Blk (w.alloc o) g t cs := (Below.heap_alloc w o g h.lt).trans h
theorem Blk.below {B : Nat} {w w' : World} {g : Nat} {t : TypeId} {cs : Array Value} (h : Blk w g t cs) (hb : Below B w w') (hg : g < B) : Blk w' g t cs := (hb.block g hg).trans h
theorem Blk.cell {w : World} {g : Nat} {t : TypeId} {cs : Array Value} (h : Blk w g t cs) (i : Nat) : w.cell? ⟨g, i, none⟩ = cs[i]? := cell_of_row w g i cs t (0, 0) h
theorem Blk.frozen {w : World} {g : Nat} {t : TypeId} {cs : Array Value} (h : Blk w g t cs) (i : Nat) : w.frozen? ⟨g, i, none⟩ = false := by
  unfold Blk at h
  simp [World.frozen?, h]
theorem Blk.far {w : World} {g : Nat} {t : TypeId} {cs : Array Value} (h : Blk w g t cs) {p : Addr} (hp : g ≠ p.block) (u : Value) : Blk (w.setCell p u) g t cs := (Below.heap_setCell w p u g hp).trans h
theorem Blk.put {w : World} {g : Nat} {t : TypeId} {cs : Array Value} (h : Blk w g t cs) (i : Nat) (u : Value) : Blk (w.setCell ⟨g, i, none⟩ u) g t (cs.setIfInBounds i u) := by
  unfold Blk at h ⊢
  simp [World.setCell, Array.getElem?_modify, h]
theorem Blk.puts {g : Nat} {t : TypeId} {B : Nat} (hg : B ≤ g) : ∀ (vs : List Value) (o : Nat) (w : World) (cs : Array Value), Blk w g t cs → ∃ cs', Blk (w.setCells g o vs) g t cs' ∧ cs'.size = cs.size ∧ (∀ k, k < o → cs'[k]? = cs[k]?) ∧ Below B w (w.setCells g o vs)
  | [], o, w, cs, h => ⟨cs, h, rfl, fun _ _ => rfl, Below.refl _ _⟩
  | v :: vs, o, w, cs, h => by
    obtain ⟨cs', h1, h2, h3, h4⟩ := Blk.puts hg vs (o + 1) _ _ (h.put o v)
    refine ⟨cs', h1, by simpa using h2, fun k hk => ?_, ?_⟩
    · rw [h3 k (by omega), Array.getElem?_setIfInBounds_ne (by omega)]
    · exact ((Below.refl B w).setCell (p := ⟨g, o, none⟩) hg v).trans h4
theorem addr_add (b off i : Nat) : Addr.add ⟨b, off, none⟩ i = ⟨b, off + i, none⟩ := by
  unfold Addr.add
  split <;> simp_all
/-- A row of the call's own, as a slice that reads as a list. -/
theorem sv_own {α : Type} {mk : α → Value} {w : World} {base n : Nat} {e : TypeId} {v : Value} {xs : List α} (h : w.ownsRow base e 1 v n (xs.map mk)) (hb : n ≤ 65536) : ∃ A c, v = .slice A n c ∧ Sv mk w A n c xs := by
  have hl : n = xs.length := by have := h.1; simp at this; omega
  have hc : ∀ g, v.ownBlock = some g → ∀ j u, (xs.map mk)[j]? = some u → w.cell? ((⟨g, 0, none⟩ : Addr).add j) = some u := fun g hg => h.cells hg
  rcases h.2 with ⟨rfl, h0⟩ | ⟨g, cap, cur, rfl, hg, hh, hnc, _⟩
  · exact ⟨none, 0, by rw [h0], hl, by omega, hb, .inl h0⟩
  · refine ⟨_, cap, rfl, hl, hnc, hb, .inr ⟨g, 0, rfl, ?_, ?_⟩⟩
    · rcases Nat.lt_or_ge g w.heap.size with h1 | h1
      · exact h1
      · rw [Array.getElem?_eq_none h1] at hh; cases hh
    · intro k x hx
      have := hc g rfl k (mk x) (by rw [List.getElem?_map, hx]; rfl)
      rw [addr_add] at this
      exact this
/-- A row that the call lays itself. -/
theorem sv_new {α : Type} (mk : α → Value) (w : World) (e : TypeId) (xs : List α) (hn : xs.length ≤ 65536) : Sv mk (w.alloc (.cells (xs.map mk).toArray e)) (some ⟨w.heap.size, 0, none⟩) xs.length xs.length xs := by
  refine ⟨rfl, Nat.le_refl _, hn, .inr ⟨w.heap.size, 0, rfl, by simp, fun k x hx => ?_⟩⟩
  rw [(Blk.new w e _).cell]
  simp [hx]

theorem toList_beq (x k : ByteArray) : (x.toList == k.toList) = decide (x = k) := by
  by_cases h : x = k
  · subst h; simp
  · have : x.toList ≠ k.toList := fun e => h (by
      rw [ByteArray.toList_eq, ByteArray.toList_eq] at e
      cases x; cases k
      congr 1
      exact Array.toList_inj.1 e)
    simp [h, this]

def mki (x : Int) : Value := .int .i64 x
theorem eq_i (x k : Int) : (x == k) = decide (x = k) := by rfl
theorem clo_i (x k : Int) (g : Nat) (w : World) (h : w.cell? ⟨g, 0, none⟩ = some (.int .i64 k)) : Calls Try.prog 28 #[.int .i64 x, .pointer (some ⟨g, 0, none⟩)] w fun e w' => e = .returned (.bool (decide (x = k))) ∧ w = w' := by
  rw [← eq_i]
  go_enter Try.func28, Try.ntmps28
  go_wp2_with fail
  go_ret
  exact ⟨rfl, rfl⟩

theorem idxf_some_i (b off n c : Nat) (k : Int) (g : Nat) (xs : List Int) (HN : Hid (n = xs.length)) (hn : n ≤ 65536) (w : World) (hlt : b < w.heap.size) (HR : Hid (∀ (j : Nat) x, xs[j]? = some x → w.cell? ⟨b, off + j, none⟩ = some (.int .i64 x))) (HK : Hid (w.cell? ⟨g, 0, none⟩ = some (.int .i64 k))) :
    Calls Try.prog 34 #[.slice (some ⟨b, off, none⟩) n c, .func (.func 28) #[] #[.pointer (some ⟨g, 0, none⟩)]] w fun e w' => e = .returned (.int .i64 (Ix (fun x => decide (x = k)) xs)) ∧ w = w' := by
  go_enter Try.func34, Try.ntmps34
  go_wp2
  go_loopw [5, 8] (fun _ t wr => ∃ i : Nat, i ≤ n ∧ t = .int .i64 (i : Int) ∧ Hid (∀ (j : Nat) x, j < i → xs[j]? = some x → decide (x = k) = false) ∧ w = wr) (fun _ t _ => n - (intOf t).toNat)
  case atStart => exact ⟨0, Nat.zero_le _, rfl, Lib.hid (fun j r h => by omega), rfl⟩
  case round =>
    obtain ⟨i, hi, rfl, hno, rfl⟩ := hrel
    by_cases hlk : i < n
    · obtain ⟨r, hr⟩ : ∃ r, xs[i]? = some r := ⟨xs[i]'(by have := HN.out; omega), List.getElem?_eq_getElem _⟩
      have c0 := HR.out i r hr
      have hr' := Lib.hid hr
      clear hr
      have O := clo_i r k g w HK.out
      by_cases ht : decide (r = k) = true
      · have hx := Lib.hid (Ix_at xs i r hr'.out ht hno.out)
        rw [ht] at O
        clear ht
        go_wp2_with fail
        refine O.mono ?_
        rintro e x1 ⟨rfl, rfl⟩
        go_wp2_with fail
        go_ret
        exact ⟨congrArg (fun n => Ending.returned (.int .i64 n)) hx.out.symm, rfl⟩
      · have hf : decide (r = k) = false := by simpa using ht
        have hno' : Hid (∀ (j : Nat) x, j < i + 1 → xs[j]? = some x → decide (x = k) = false) := Lib.hid (fun j x hj hx => by
          by_cases hjk : j = i
          · subst hjk
            have := hr'.out.symm.trans hx
            injection this with this
            rw [← this]; exact hf
          · exact hno.out j x (by omega) hx)
        rw [hf] at O
        clear hf ht
        go_wp2_with fail
        refine O.mono ?_
        rintro e x1 ⟨rfl, rfl⟩
        go_wp2_with fail
        go_roundw
        case rel => exact ⟨i + 1, by omega, by go_num, hno', trivial⟩
        case measure => simp [intOf]; omega
    · have hx := Lib.hid (Ix_none (p := fun x => decide (x = k)) xs (fun j r hr => hno.out j r (by
        have := (List.getElem?_eq_some_iff.1 hr).1
        have := HN.out
        omega) hr))
      go_wp2_with fail
      go_ret
      exact ⟨congrArg (fun n => Ending.returned (.int .i64 n)) hx.out.symm, rfl⟩
theorem idxf_nil_i (A : Option Addr) (c g : Nat) (w : World) : Calls Try.prog 34 #[.slice A 0 c, .func (.func 28) #[] #[.pointer (some ⟨g, 0, none⟩)]] w fun e w' => e = .returned (.int .i64 (-1)) ∧ w = w' := by
  go_enter Try.func34, Try.ntmps34
  go_wp2
  refine wp_loop_rounds 1 ?_
  rw [rounds_succ]
  go_wp2
  go_ret
  exact ⟨rfl, rfl⟩
theorem idxf_i {A : Option Addr} {n c : Nat} {xs : List Int} {w : World} (k : Int) (g : Nat) (h : Sv mki w A n c xs) (hk : w.cell? ⟨g, 0, none⟩ = some (.int .i64 k)) :
    Calls Try.prog 34 #[.slice A n c, .func (.func 28) #[] #[.pointer (some ⟨g, 0, none⟩)]] w fun e w' => e = .returned (.int .i64 (Ix (fun x => decide (x = k)) xs)) ∧ w = w' := by
  obtain ⟨h1, h2, h3, h4⟩ := h
  rcases h4 with rfl | ⟨b, off, rfl, hlt, hr⟩
  · obtain rfl : xs = [] := List.eq_nil_of_length_eq_zero h1.symm
    exact idxf_nil_i A c g w
  · exact idxf_some_i b off n c k g xs (Lib.hid h1) h3 w hlt (Lib.hid hr) (Lib.hid hk)

theorem idx_some_i (b off n c : Nat) (k : Int) (xs : List Int) (HN : Hid (n = xs.length)) (hn : n ≤ 65536) (w : World) (hlt : b < w.heap.size) (HR : Hid (∀ (j : Nat) x, xs[j]? = some x → w.cell? ⟨b, off + j, none⟩ = some (.int .i64 x))) :
    Calls Try.prog 35 #[.slice (some ⟨b, off, none⟩) n c, .int .i64 k] w fun e w' => e = .returned (.int .i64 (Ix (fun x => decide (x = k)) xs)) ∧ w = w' := by
  go_enter Try.func35, Try.ntmps35
  go_wp2
  go_loopw [5, 8] (fun _ t wr => ∃ i : Nat, i ≤ n ∧ t = .int .i64 (i : Int) ∧ Hid (∀ (j : Nat) x, j < i → xs[j]? = some x → decide (x = k) = false) ∧ w = wr) (fun _ t _ => n - (intOf t).toNat)
  case atStart => exact ⟨0, Nat.zero_le _, rfl, Lib.hid (fun j r h => by omega), rfl⟩
  case round =>
    obtain ⟨i, hi, rfl, hno, rfl⟩ := hrel
    by_cases hlk : i < n
    · obtain ⟨r, hr⟩ : ∃ r, xs[i]? = some r := ⟨xs[i]'(by have := HN.out; omega), List.getElem?_eq_getElem _⟩
      have c0 := HR.out i r hr
      have hr' := Lib.hid hr
      clear hr
      by_cases ht : decide (r = k) = true
      · have hx := Lib.hid (Ix_at xs i r hr'.out ht hno.out)
        have he : (k == r) = true := by have := of_decide_eq_true ht; subst this; simp
        clear ht
        go_wp2_with fail
        go_ret
        exact ⟨congrArg (fun n => Ending.returned (.int .i64 n)) hx.out.symm, rfl⟩
      · have hf : decide (r = k) = false := by simpa using ht
        have he : (k == r) = false := by have := of_decide_eq_false hf; simpa using fun h => this h.symm
        have hno' : Hid (∀ (j : Nat) x, j < i + 1 → xs[j]? = some x → decide (x = k) = false) := Lib.hid (fun j x hj hx => by
          by_cases hjk : j = i
          · subst hjk
            have := hr'.out.symm.trans hx
            injection this with this
            rw [← this]; exact hf
          · exact hno.out j x (by omega) hx)
        clear hf ht
        go_wp2_with fail
        go_roundw
        case rel => exact ⟨i + 1, by omega, by go_num, hno', trivial⟩
        case measure => simp [intOf]; omega
    · have hx := Lib.hid (Ix_none (p := fun x => decide (x = k)) xs (fun j r hr => hno.out j r (by
        have := (List.getElem?_eq_some_iff.1 hr).1
        have := HN.out
        omega) hr))
      go_wp2_with fail
      go_ret
      exact ⟨congrArg (fun n => Ending.returned (.int .i64 n)) hx.out.symm, rfl⟩
theorem idx_nil_i (A : Option Addr) (c : Nat) (k : Int) (w : World) : Calls Try.prog 35 #[.slice A 0 c, .int .i64 k] w fun e w' => e = .returned (.int .i64 (-1)) ∧ w = w' := by
  go_enter Try.func35, Try.ntmps35
  go_wp2
  refine wp_loop_rounds 1 ?_
  rw [rounds_succ]
  go_wp2
  go_ret
  exact ⟨rfl, rfl⟩
theorem idx_i {A : Option Addr} {n c : Nat} {xs : List Int} {w : World} (k : Int) (h : Sv mki w A n c xs) :
    Calls Try.prog 35 #[.slice A n c, .int .i64 k] w fun e w' => e = .returned (.int .i64 (Ix (fun x => decide (x = k)) xs)) ∧ w = w' := by
  obtain ⟨h1, h2, h3, h4⟩ := h
  rcases h4 with rfl | ⟨b, off, rfl, hlt, hr⟩
  · obtain rfl : xs = [] := List.eq_nil_of_length_eq_zero h1.symm
    exact idx_nil_i A c k w
  · exact idx_some_i b off n c k xs (Lib.hid h1) h3 w hlt (Lib.hid hr)
theorem cont_i {A : Option Addr} {n c : Nat} {xs : List Int} {w : World} (k : Int) (h : Sv mki w A n c xs) :
    Calls Try.prog 29 #[.slice A n c, .int .i64 k] w fun e w' => e = .returned (.bool (decide (0 ≤ Ix (fun x => decide (x = k)) xs))) ∧ w = w' := by
  have I := idx_i k h
  clear h
  generalize Ix (fun x => decide (x = k)) xs = i at *
  go_enter Try.func29, Try.ntmps29
  go_wp2_with fail
  refine I.mono ?_
  rintro e w1 ⟨rfl, rfl⟩
  go_wp2_with fail
  go_ret
  exact ⟨rfl, rfl⟩

def mks (x : ByteArray) : Value := .string x
theorem eq_s (x k : ByteArray) : (x.toList == k.toList) = decide (x = k) := by exact toList_beq x k
theorem clo_s (x k : ByteArray) (g : Nat) (w : World) (h : w.cell? ⟨g, 0, none⟩ = some (.string k)) : Calls Try.prog 33 #[.string x, .pointer (some ⟨g, 0, none⟩)] w fun e w' => e = .returned (.bool (decide (x = k))) ∧ w = w' := by
  rw [← eq_s]
  go_enter Try.func33, Try.ntmps33
  go_wp2_with fail
  go_ret
  exact ⟨rfl, rfl⟩

theorem idxf_some_s (b off n c : Nat) (k : ByteArray) (g : Nat) (xs : List ByteArray) (HN : Hid (n = xs.length)) (hn : n ≤ 65536) (w : World) (hlt : b < w.heap.size) (HR : Hid (∀ (j : Nat) x, xs[j]? = some x → w.cell? ⟨b, off + j, none⟩ = some (.string x))) (HK : Hid (w.cell? ⟨g, 0, none⟩ = some (.string k))) :
    Calls Try.prog 37 #[.slice (some ⟨b, off, none⟩) n c, .func (.func 33) #[] #[.pointer (some ⟨g, 0, none⟩)]] w fun e w' => e = .returned (.int .i64 (Ix (fun x => decide (x = k)) xs)) ∧ w = w' := by
  go_enter Try.func37, Try.ntmps37
  go_wp2
  go_loopw [5, 8] (fun _ t wr => ∃ i : Nat, i ≤ n ∧ t = .int .i64 (i : Int) ∧ Hid (∀ (j : Nat) x, j < i → xs[j]? = some x → decide (x = k) = false) ∧ w = wr) (fun _ t _ => n - (intOf t).toNat)
  case atStart => exact ⟨0, Nat.zero_le _, rfl, Lib.hid (fun j r h => by omega), rfl⟩
  case round =>
    obtain ⟨i, hi, rfl, hno, rfl⟩ := hrel
    by_cases hlk : i < n
    · obtain ⟨r, hr⟩ : ∃ r, xs[i]? = some r := ⟨xs[i]'(by have := HN.out; omega), List.getElem?_eq_getElem _⟩
      have c0 := HR.out i r hr
      have hr' := Lib.hid hr
      clear hr
      have O := clo_s r k g w HK.out
      by_cases ht : decide (r = k) = true
      · have hx := Lib.hid (Ix_at xs i r hr'.out ht hno.out)
        rw [ht] at O
        clear ht
        go_wp2_with fail
        refine O.mono ?_
        rintro e x1 ⟨rfl, rfl⟩
        go_wp2_with fail
        go_ret
        exact ⟨congrArg (fun n => Ending.returned (.int .i64 n)) hx.out.symm, rfl⟩
      · have hf : decide (r = k) = false := by simpa using ht
        have hno' : Hid (∀ (j : Nat) x, j < i + 1 → xs[j]? = some x → decide (x = k) = false) := Lib.hid (fun j x hj hx => by
          by_cases hjk : j = i
          · subst hjk
            have := hr'.out.symm.trans hx
            injection this with this
            rw [← this]; exact hf
          · exact hno.out j x (by omega) hx)
        rw [hf] at O
        clear hf ht
        go_wp2_with fail
        refine O.mono ?_
        rintro e x1 ⟨rfl, rfl⟩
        go_wp2_with fail
        go_roundw
        case rel => exact ⟨i + 1, by omega, by go_num, hno', trivial⟩
        case measure => simp [intOf]; omega
    · have hx := Lib.hid (Ix_none (p := fun x => decide (x = k)) xs (fun j r hr => hno.out j r (by
        have := (List.getElem?_eq_some_iff.1 hr).1
        have := HN.out
        omega) hr))
      go_wp2_with fail
      go_ret
      exact ⟨congrArg (fun n => Ending.returned (.int .i64 n)) hx.out.symm, rfl⟩
theorem idxf_nil_s (A : Option Addr) (c g : Nat) (w : World) : Calls Try.prog 37 #[.slice A 0 c, .func (.func 33) #[] #[.pointer (some ⟨g, 0, none⟩)]] w fun e w' => e = .returned (.int .i64 (-1)) ∧ w = w' := by
  go_enter Try.func37, Try.ntmps37
  go_wp2
  refine wp_loop_rounds 1 ?_
  rw [rounds_succ]
  go_wp2
  go_ret
  exact ⟨rfl, rfl⟩
theorem idxf_s {A : Option Addr} {n c : Nat} {xs : List ByteArray} {w : World} (k : ByteArray) (g : Nat) (h : Sv mks w A n c xs) (hk : w.cell? ⟨g, 0, none⟩ = some (.string k)) :
    Calls Try.prog 37 #[.slice A n c, .func (.func 33) #[] #[.pointer (some ⟨g, 0, none⟩)]] w fun e w' => e = .returned (.int .i64 (Ix (fun x => decide (x = k)) xs)) ∧ w = w' := by
  obtain ⟨h1, h2, h3, h4⟩ := h
  rcases h4 with rfl | ⟨b, off, rfl, hlt, hr⟩
  · obtain rfl : xs = [] := List.eq_nil_of_length_eq_zero h1.symm
    exact idxf_nil_s A c g w
  · exact idxf_some_s b off n c k g xs (Lib.hid h1) h3 w hlt (Lib.hid hr) (Lib.hid hk)

theorem idx_some_s (b off n c : Nat) (k : ByteArray) (xs : List ByteArray) (HN : Hid (n = xs.length)) (hn : n ≤ 65536) (w : World) (hlt : b < w.heap.size) (HR : Hid (∀ (j : Nat) x, xs[j]? = some x → w.cell? ⟨b, off + j, none⟩ = some (.string x))) :
    Calls Try.prog 36 #[.slice (some ⟨b, off, none⟩) n c, .string k] w fun e w' => e = .returned (.int .i64 (Ix (fun x => decide (x = k)) xs)) ∧ w = w' := by
  go_enter Try.func36, Try.ntmps36
  go_wp2
  go_loopw [5, 8] (fun _ t wr => ∃ i : Nat, i ≤ n ∧ t = .int .i64 (i : Int) ∧ Hid (∀ (j : Nat) x, j < i → xs[j]? = some x → decide (x = k) = false) ∧ w = wr) (fun _ t _ => n - (intOf t).toNat)
  case atStart => exact ⟨0, Nat.zero_le _, rfl, Lib.hid (fun j r h => by omega), rfl⟩
  case round =>
    obtain ⟨i, hi, rfl, hno, rfl⟩ := hrel
    by_cases hlk : i < n
    · obtain ⟨r, hr⟩ : ∃ r, xs[i]? = some r := ⟨xs[i]'(by have := HN.out; omega), List.getElem?_eq_getElem _⟩
      have c0 := HR.out i r hr
      have hr' := Lib.hid hr
      clear hr
      by_cases ht : decide (r = k) = true
      · have hx := Lib.hid (Ix_at xs i r hr'.out ht hno.out)
        have he : (k.toList == r.toList) = true := by have := of_decide_eq_true ht; subst this; simp
        clear ht
        go_wp2_with fail
        go_ret
        exact ⟨congrArg (fun n => Ending.returned (.int .i64 n)) hx.out.symm, rfl⟩
      · have hf : decide (r = k) = false := by simpa using ht
        have he : (k.toList == r.toList) = false := by rw [toList_beq]; have := of_decide_eq_false hf; simpa using fun h => this h.symm
        have hno' : Hid (∀ (j : Nat) x, j < i + 1 → xs[j]? = some x → decide (x = k) = false) := Lib.hid (fun j x hj hx => by
          by_cases hjk : j = i
          · subst hjk
            have := hr'.out.symm.trans hx
            injection this with this
            rw [← this]; exact hf
          · exact hno.out j x (by omega) hx)
        clear hf ht
        go_wp2_with fail
        go_roundw
        case rel => exact ⟨i + 1, by omega, by go_num, hno', trivial⟩
        case measure => simp [intOf]; omega
    · have hx := Lib.hid (Ix_none (p := fun x => decide (x = k)) xs (fun j r hr => hno.out j r (by
        have := (List.getElem?_eq_some_iff.1 hr).1
        have := HN.out
        omega) hr))
      go_wp2_with fail
      go_ret
      exact ⟨congrArg (fun n => Ending.returned (.int .i64 n)) hx.out.symm, rfl⟩
theorem idx_nil_s (A : Option Addr) (c : Nat) (k : ByteArray) (w : World) : Calls Try.prog 36 #[.slice A 0 c, .string k] w fun e w' => e = .returned (.int .i64 (-1)) ∧ w = w' := by
  go_enter Try.func36, Try.ntmps36
  go_wp2
  refine wp_loop_rounds 1 ?_
  rw [rounds_succ]
  go_wp2
  go_ret
  exact ⟨rfl, rfl⟩
theorem idx_s {A : Option Addr} {n c : Nat} {xs : List ByteArray} {w : World} (k : ByteArray) (h : Sv mks w A n c xs) :
    Calls Try.prog 36 #[.slice A n c, .string k] w fun e w' => e = .returned (.int .i64 (Ix (fun x => decide (x = k)) xs)) ∧ w = w' := by
  obtain ⟨h1, h2, h3, h4⟩ := h
  rcases h4 with rfl | ⟨b, off, rfl, hlt, hr⟩
  · obtain rfl : xs = [] := List.eq_nil_of_length_eq_zero h1.symm
    exact idx_nil_s A c k w
  · exact idx_some_s b off n c k xs (Lib.hid h1) h3 w hlt (Lib.hid hr)
theorem cont_s {A : Option Addr} {n c : Nat} {xs : List ByteArray} {w : World} (k : ByteArray) (h : Sv mks w A n c xs) :
    Calls Try.prog 30 #[.slice A n c, .string k] w fun e w' => e = .returned (.bool (decide (0 ≤ Ix (fun x => decide (x = k)) xs))) ∧ w = w' := by
  have I := idx_s k h
  clear h
  generalize Ix (fun x => decide (x = k)) xs = i at *
  go_enter Try.func30, Try.ntmps30
  go_wp2_with fail
  refine I.mono ?_
  rintro e w1 ⟨rfl, rfl⟩
  go_wp2_with fail
  go_ret
  exact ⟨rfl, rfl⟩

end Go.Proofs.Ytiblkhohlfnhnaa.La
