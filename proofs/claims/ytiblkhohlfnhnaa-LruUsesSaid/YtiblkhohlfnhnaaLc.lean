/- Package lru's Drop, Touch, Oldest and Check. -/
import Derived.Test.YtiblkhohlfnhnaaLb
namespace Go.Proofs.Ytiblkhohlfnhnaa.Lc
open Go.RowKit
open Go.Proofs.Ytiblkhohlfnhnaa.La
open Go.Proofs.Ytiblkhohlfnhnaa.Lb
set_option linter.unusedVariables false

theorem own_below {w w' : World} {b : Nat} {e : TypeId} {s : Nat} {v : Value} {n : Nat} {xs : List Value} (h : w.ownsRow b e s v n xs) (hb : Below w.heap.size w w') : w'.ownsRow b e s v n xs := by
  obtain ⟨h1, h2⟩ := h
  refine ⟨h1, ?_⟩
  rcases h2 with h | ⟨g, cap, cur, e1, hg, hh, r⟩
  · exact .inl h
  · have hlt : g < w.heap.size := by
      rcases Nat.lt_or_ge g w.heap.size with h | h
      · exact h
      · rw [Array.getElem?_eq_none h] at hh; cases hh
    exact .inr ⟨g, cap, cur, e1, hg, (hb.block g hlt).trans hh, r⟩
theorem own_base {w : World} {b : Nat} {e : TypeId} {s : Nat} {v : Value} {n : Nat} {xs : List Value} (h : w.ownsRow b e s v n xs) : ∀ k, v.ownBlock = some k → b ≤ k := by
  intro k hk
  rcases h.2 with ⟨rfl, _⟩ | ⟨g, cap, cur, rfl, hg, _⟩
  · simp [Value.ownBlock] at hk
  · simp [Value.ownBlock] at hk; omega
def Nd {α : Type} (m : Nat) (xs : List α) : Prop := ∀ (i j : Nat) x y, j < i → i < m → xs[i]? = some x → xs[j]? = some y → x ≠ y
theorem nd_iff {α : Type} (xs : List α) : xs.Nodup ↔ Nd xs.length xs := by
  unfold List.Nodup
  rw [List.pairwise_iff_getElem]
  constructor
  · intro h i j x y hj hi hx hy e
    subst e
    obtain ⟨hi1, e1⟩ := List.getElem?_eq_some_iff.1 hx
    obtain ⟨hj1, e2⟩ := List.getElem?_eq_some_iff.1 hy
    exact h j i hj1 hi1 hj (e2.trans e1.symm)
  · intro h i j hi hj hij e
    exact h j i _ _ hij hj (List.getElem?_eq_getElem hj) (List.getElem?_eq_getElem hi) e.symm
theorem sv_take {α : Type} {mk : α → Value} {w : World} {A : Option Addr} {n c : Nat} {xs : List α} (h : Sv mk w A n c xs) (i : Nat) (hi : i ≤ n) : Sv mk w A i c (xs.take i) := by
  obtain ⟨h1, h2, h3, h4⟩ := h
  refine ⟨by rw [List.length_take]; omega, by omega, by omega, ?_⟩
  rcases h4 with h | ⟨b, off, rfl, hlt, hr⟩
  · exact .inl (by omega)
  · refine .inr ⟨b, off, rfl, hlt, fun k x hx => ?_⟩
    by_cases hk : k < i
    · rw [List.getElem?_take_of_lt hk] at hx; exact hr k x hx
    · rw [List.getElem?_take_eq_none (by omega)] at hx; cases hx

theorem drop_i {A : Option Addr} {n c : Nat} {xs : List Int} {w : World} (k : Int) (h : Sv mki w A n c xs) :
    Calls Try.prog 14 #[.slice A n c, .int .i64 k] w fun e w' => ∃ v, e = .returned v ∧ w'.ownsRow w.heap.size 3 1 v (xs.filter (fun x => !decide (x = k))).length ((xs.filter (fun x => !decide (x = k))).map mki) ∧ Below w.heap.size w w' := by
  have hmf : ∀ (fn : Fn) (first cap : Array Value) (w : World), (Instr.makeFunc fn first cap).run Try.prog w = .ok (.func fn first cap) w := fun _ _ _ _ => rfl
  have b0 : Below w.heap.size w (w.alloc (.cells #[.int .i64 k] 3)) := (Below.refl _ _).alloc (Nat.le_refl _) _
  have hz : (w.alloc (.cells #[.int .i64 k] 3)).heap.size = w.heap.size + 1 := by simp
  have hn := h.2.2.1
  have C1 := clone_i (h.below b0)
  rw [hz] at C1
  have hc : (w.alloc (.cells #[.int .i64 k] 3)).cell? ⟨w.heap.size, 0, none⟩ = some (.int .i64 k) := by simp
  have hc := Lib.hid hc
  have hz := Lib.hid hz
  clear h
  go_enter Try.func14, Try.ntmps14
  go_wp2_with fail
  refine C1.mono ?_
  clear C1
  rintro e w1 ⟨v, rfl, own, hb⟩
  have D := delf_i (w.heap.size + 1) n v xs w1 own hn k w.heap.size (Nat.lt_succ_self _) ((hb.cell (p := ⟨w.heap.size, 0, none⟩) (Nat.lt_succ_self _)).trans hc.out)
  have own := Lib.hid own
  go_wp2_with fail
  refine D.mono ?_
  clear D
  rintro e w2 ⟨v2, rfl, own2, hb2⟩
  have own2 := Lib.hid own2
  go_wp2_with fail
  go_ret
  exact ⟨_, rfl, own_weak own2.out (Nat.le_succ _), (b0.trans (hb.mono (Nat.le_succ _))).trans (hb2.mono (Nat.le_succ _))⟩

theorem touch_i {A : Option Addr} {n c : Nat} {xs : List Int} {w : World} (k : Int) (h : Sv mki w A n c xs) (hn : n ≤ 60000) :
    Calls Try.prog 12 #[.slice A n c, .int .i64 k] w fun e w' => ∃ v, e = .returned v ∧ w'.ownsRow w.heap.size 3 1 v (xs.filter (fun x => !decide (x = k)) ++ [k]).length ((xs.filter (fun x => !decide (x = k)) ++ [k]).map mki) ∧ Below w.heap.size w w' := by
  have hl : (xs.filter (fun x => !decide (x = k))).length ≤ 60000 := by have := List.length_filter_le (fun x => !decide (x = k)) xs; have := h.1; omega
  have D := drop_i k h
  clear h
  generalize xs.filter (fun x => !decide (x = k)) = ys at *
  go_enter Try.func12, Try.ntmps12
  go_wp2_with fail
  refine D.mono ?_
  clear D
  rintro e w1 ⟨v, rfl, own, hb⟩
  have hb1 := hb.alloc hb.size (.cells #[.int .i64 k] 3)
  have own1 := Lib.hid (own_below own ((Below.refl w1.heap.size w1).alloc (Nat.le_refl _) (.cells #[.int .i64 k] 3)))
  have S1 : Hid (Sv mki (w1.alloc (.cells #[.int .i64 k] 3)) (some ⟨w1.heap.size, 0, none⟩) 1 1 [k]) := Lib.hid (sv_new mki w1 3 [k] (by simp))
  have OB := Lib.hid (own_base own)
  clear own
  have hl := Lib.hid hl
  go_wp2_with (first
    | (at_builtin
       refine wp_app_i _ rfl (.tmp 7) (.tmp 9) rfl w.heap.size v ys.length ys rfl own1.out (some ⟨w1.heap.size, 0, none⟩) 1 1 [k] rfl S1.out (by have := hl.out; omega) hb1.size ?_
       intro v' w' own2 g1 at1
       have hb2 : Below w.heap.size w w' := hb1.grown g1 hb1.size OB.out
       have own2 := Lib.hid own2
       clear g1 at1))
  go_ret
  refine ⟨_, rfl, ?_, hb2⟩
  have := own2.out
  simpa using this

theorem oldest_nil_i (A : Option Addr) (c : Nat) (w : World) : Calls Try.prog 10 #[.slice A 0 c] w fun e w' => e = .returned (.tuple #[.int .i64 0, .bool false]) ∧ w = w' := by
  go_enter Try.func10, Try.ntmps10
  go_wp2
  exact bodyPost_ret (v := .tuple #[.int .i64 0, .bool false]) (by simp [results, Try.results10, go_sem, *]) rfl ⟨rfl, rfl⟩
theorem oldest_i {b off n c : Nat} {x : Int} {w : World} (hn : 0 < n) (hm : n ≤ 65536) (h : w.cell? ⟨b, off, none⟩ = some (.int .i64 x)) :
    Calls Try.prog 10 #[.slice (some ⟨b, off, none⟩) n c] w fun e w' => e = .returned (.tuple #[.int .i64 x, .bool true]) ∧ w = w' := by
  have d0 : decide (0 < (n : Int)) = true := by simpa using hn
  go_enter Try.func10, Try.ntmps10
  go_wp2
  exact bodyPost_ret (v := .tuple #[.int .i64 x, .bool true]) (by simp [results, Try.results10, go_sem, *]) rfl ⟨rfl, rfl⟩

set_option maxHeartbeats 1000000 in
theorem check_some_i (b off n c : Nat) (xs : List Int) (HN : Hid (n = xs.length)) (hn : n ≤ 65536) (hcap : n ≤ c) (w : World) (hlt : b < w.heap.size) (HS : Hid (Sv mki w (some ⟨b, off, none⟩) n c xs)) (HR : Hid (∀ (j : Nat) x, xs[j]? = some x → w.cell? ⟨b, off + j, none⟩ = some (.int .i64 x))) :
    Calls Try.prog 16 #[.slice (some ⟨b, off, none⟩) n c] w fun e w' => e = .returned (.bool (decide xs.Nodup)) ∧ w = w' := by
  go_enter Try.func16, Try.ntmps16
  go_wp2
  go_loopw [3, 7] (fun _ t wr => ∃ i : Nat, i ≤ n ∧ t = .int .i64 (i : Int) ∧ Hid (Nd i xs) ∧ w = wr) (fun _ t _ => n - (intOf t).toNat)
  case atStart => exact ⟨0, Nat.zero_le _, rfl, Lib.hid (fun i j x y hj hi => by omega), rfl⟩
  case round =>
    obtain ⟨i, hi, rfl, hno, rfl⟩ := hrel
    by_cases hlk : i < n
    · obtain ⟨r, hr⟩ : ∃ r, xs[i]? = some r := ⟨xs[i]'(by have := HN.out; omega), List.getElem?_eq_getElem _⟩
      have c0 := HR.out i r hr
      have hr' := Lib.hid hr
      clear hr
      have O := cont_i r (sv_take HS.out i hi)
      have hic : i ≤ c := by omega
      by_cases ht : 0 ≤ Ix (fun x => decide (x = r)) (xs.take i)
      · have hx : Hid (decide xs.Nodup = false) := Lib.hid (by
          apply decide_eq_false
          rw [nd_iff]
          intro hnd
          obtain ⟨y, hy, hpy⟩ := Ix_get _ ht
          have hjl : (Ix (fun x => decide (x = r)) (xs.take i)).toNat < i := by
            have := (List.getElem?_eq_some_iff.1 hy).1
            rw [List.length_take] at this; omega
          rw [List.getElem?_take_of_lt hjl] at hy
          exact hnd i _ r y hjl (by have := HN.out; omega) hr'.out hy (of_decide_eq_true hpy).symm)
        rw [decide_eq_true ht] at O
        clear ht
        go_wp2_with fail
        refine O.mono ?_
        rintro e x1 ⟨rfl, rfl⟩
        go_wp2_with fail
        go_ret
        exact ⟨congrArg (fun n => Ending.returned (.bool n)) hx.out.symm, rfl⟩
      · have hno' : Hid (Nd (i + 1) xs) := Lib.hid (fun i' j x y hj hi' hx hy e => by
          by_cases hji : i' = i
          · subst hji
            have h1 := hr'.out.symm.trans hx
            injection h1 with h1
            subst h1 e
            have := Ix_neg (p := fun x => decide (x = r)) (xs.take i') (by omega) j r (by rw [List.getElem?_take_of_lt hj]; exact hy)
            simp at this
          · exact hno.out i' j x y hj (by omega) hx hy e)
        rw [decide_eq_false ht] at O
        clear ht
        go_wp2_with fail
        refine O.mono ?_
        rintro e x1 ⟨rfl, rfl⟩
        go_wp2_with fail
        go_roundw
        case rel => exact ⟨i + 1, by omega, by go_num, hno', trivial⟩
        case measure => simp [intOf]; omega
    · have hx : Hid (decide xs.Nodup = true) := Lib.hid (decide_eq_true ((nd_iff xs).2 (by have := HN.out; rw [show xs.length = i by omega]; exact hno.out)))
      go_wp2_with fail
      go_ret
      exact ⟨congrArg (fun n => Ending.returned (.bool n)) hx.out.symm, rfl⟩
theorem check_nil_i (A : Option Addr) (c : Nat) (w : World) : Calls Try.prog 16 #[.slice A 0 c] w fun e w' => e = .returned (.bool true) ∧ w = w' := by
  go_enter Try.func16, Try.ntmps16
  go_wp2
  refine wp_loop_rounds 1 ?_
  rw [rounds_succ]
  go_wp2
  go_ret
  exact ⟨rfl, rfl⟩
theorem check_i {A : Option Addr} {n c : Nat} {xs : List Int} {w : World} (h : Sv mki w A n c xs) : Calls Try.prog 16 #[.slice A n c] w fun e w' => e = .returned (.bool (decide xs.Nodup)) ∧ w = w' := by
  have h' := h
  obtain ⟨h1, h2, h3, h4⟩ := h
  rcases h4 with rfl | ⟨b, off, rfl, hlt, hr⟩
  · obtain rfl : xs = [] := List.eq_nil_of_length_eq_zero h1.symm
    exact check_nil_i A c w
  · exact check_some_i b off n c xs (Lib.hid h1) h3 h2 w hlt (Lib.hid h') (Lib.hid hr)

theorem drop_s {A : Option Addr} {n c : Nat} {xs : List ByteArray} {w : World} (k : ByteArray) (h : Sv mks w A n c xs) :
    Calls Try.prog 24 #[.slice A n c, .string k] w fun e w' => ∃ v, e = .returned v ∧ w'.ownsRow w.heap.size 9 1 v (xs.filter (fun x => !decide (x = k))).length ((xs.filter (fun x => !decide (x = k))).map mks) ∧ Below w.heap.size w w' := by
  have hmf : ∀ (fn : Fn) (first cap : Array Value) (w : World), (Instr.makeFunc fn first cap).run Try.prog w = .ok (.func fn first cap) w := fun _ _ _ _ => rfl
  have b0 : Below w.heap.size w (w.alloc (.cells #[.string k] 9)) := (Below.refl _ _).alloc (Nat.le_refl _) _
  have hz : (w.alloc (.cells #[.string k] 9)).heap.size = w.heap.size + 1 := by simp
  have hn := h.2.2.1
  have C1 := clone_s (h.below b0)
  rw [hz] at C1
  have hc : (w.alloc (.cells #[.string k] 9)).cell? ⟨w.heap.size, 0, none⟩ = some (.string k) := by simp
  have hc := Lib.hid hc
  have hz := Lib.hid hz
  clear h
  go_enter Try.func24, Try.ntmps24
  go_wp2_with fail
  refine C1.mono ?_
  clear C1
  rintro e w1 ⟨v, rfl, own, hb⟩
  have D := delf_s (w.heap.size + 1) n v xs w1 own hn k w.heap.size (Nat.lt_succ_self _) ((hb.cell (p := ⟨w.heap.size, 0, none⟩) (Nat.lt_succ_self _)).trans hc.out)
  have own := Lib.hid own
  go_wp2_with fail
  refine D.mono ?_
  clear D
  rintro e w2 ⟨v2, rfl, own2, hb2⟩
  have own2 := Lib.hid own2
  go_wp2_with fail
  go_ret
  exact ⟨_, rfl, own_weak own2.out (Nat.le_succ _), (b0.trans (hb.mono (Nat.le_succ _))).trans (hb2.mono (Nat.le_succ _))⟩

theorem touch_s {A : Option Addr} {n c : Nat} {xs : List ByteArray} {w : World} (k : ByteArray) (h : Sv mks w A n c xs) (hn : n ≤ 60000) :
    Calls Try.prog 21 #[.slice A n c, .string k] w fun e w' => ∃ v, e = .returned v ∧ w'.ownsRow w.heap.size 9 1 v (xs.filter (fun x => !decide (x = k)) ++ [k]).length ((xs.filter (fun x => !decide (x = k)) ++ [k]).map mks) ∧ Below w.heap.size w w' := by
  have hl : (xs.filter (fun x => !decide (x = k))).length ≤ 60000 := by have := List.length_filter_le (fun x => !decide (x = k)) xs; have := h.1; omega
  have D := drop_s k h
  clear h
  generalize xs.filter (fun x => !decide (x = k)) = ys at *
  go_enter Try.func21, Try.ntmps21
  go_wp2_with fail
  refine D.mono ?_
  clear D
  rintro e w1 ⟨v, rfl, own, hb⟩
  have hb1 := hb.alloc hb.size (.cells #[.string k] 9)
  have own1 := Lib.hid (own_below own ((Below.refl w1.heap.size w1).alloc (Nat.le_refl _) (.cells #[.string k] 9)))
  have S1 : Hid (Sv mks (w1.alloc (.cells #[.string k] 9)) (some ⟨w1.heap.size, 0, none⟩) 1 1 [k]) := Lib.hid (sv_new mks w1 9 [k] (by simp))
  have OB := Lib.hid (own_base own)
  clear own
  have hl := Lib.hid hl
  go_wp2_with (first
    | (at_builtin
       refine wp_app_s _ rfl (.tmp 7) (.tmp 9) rfl w.heap.size v ys.length ys rfl own1.out (some ⟨w1.heap.size, 0, none⟩) 1 1 [k] rfl S1.out (by have := hl.out; omega) hb1.size ?_
       intro v' w' own2 g1 at1
       have hb2 : Below w.heap.size w w' := hb1.grown g1 hb1.size OB.out
       have own2 := Lib.hid own2
       clear g1 at1))
  go_ret
  refine ⟨_, rfl, ?_, hb2⟩
  have := own2.out
  simpa using this

theorem oldest_nil_s (A : Option Addr) (c : Nat) (w : World) : Calls Try.prog 25 #[.slice A 0 c] w fun e w' => e = .returned (.tuple #[.string ⟨#[]⟩, .bool false]) ∧ w = w' := by
  go_enter Try.func25, Try.ntmps25
  go_wp2
  exact bodyPost_ret (v := .tuple #[.string ⟨#[]⟩, .bool false]) (by simp [results, Try.results25, go_sem, *]) rfl ⟨rfl, rfl⟩
theorem oldest_s {b off n c : Nat} {x : ByteArray} {w : World} (hn : 0 < n) (hm : n ≤ 65536) (h : w.cell? ⟨b, off, none⟩ = some (.string x)) :
    Calls Try.prog 25 #[.slice (some ⟨b, off, none⟩) n c] w fun e w' => e = .returned (.tuple #[.string x, .bool true]) ∧ w = w' := by
  have d0 : decide (0 < (n : Int)) = true := by simpa using hn
  go_enter Try.func25, Try.ntmps25
  go_wp2
  exact bodyPost_ret (v := .tuple #[.string x, .bool true]) (by simp [results, Try.results25, go_sem, *]) rfl ⟨rfl, rfl⟩

set_option maxHeartbeats 1000000 in
theorem check_some_s (b off n c : Nat) (xs : List ByteArray) (HN : Hid (n = xs.length)) (hn : n ≤ 65536) (hcap : n ≤ c) (w : World) (hlt : b < w.heap.size) (HS : Hid (Sv mks w (some ⟨b, off, none⟩) n c xs)) (HR : Hid (∀ (j : Nat) x, xs[j]? = some x → w.cell? ⟨b, off + j, none⟩ = some (.string x))) :
    Calls Try.prog 18 #[.slice (some ⟨b, off, none⟩) n c] w fun e w' => e = .returned (.bool (decide xs.Nodup)) ∧ w = w' := by
  go_enter Try.func18, Try.ntmps18
  go_wp2
  go_loopw [3, 7] (fun _ t wr => ∃ i : Nat, i ≤ n ∧ t = .int .i64 (i : Int) ∧ Hid (Nd i xs) ∧ w = wr) (fun _ t _ => n - (intOf t).toNat)
  case atStart => exact ⟨0, Nat.zero_le _, rfl, Lib.hid (fun i j x y hj hi => by omega), rfl⟩
  case round =>
    obtain ⟨i, hi, rfl, hno, rfl⟩ := hrel
    by_cases hlk : i < n
    · obtain ⟨r, hr⟩ : ∃ r, xs[i]? = some r := ⟨xs[i]'(by have := HN.out; omega), List.getElem?_eq_getElem _⟩
      have c0 := HR.out i r hr
      have hr' := Lib.hid hr
      clear hr
      have O := cont_s r (sv_take HS.out i hi)
      have hic : i ≤ c := by omega
      by_cases ht : 0 ≤ Ix (fun x => decide (x = r)) (xs.take i)
      · have hx : Hid (decide xs.Nodup = false) := Lib.hid (by
          apply decide_eq_false
          rw [nd_iff]
          intro hnd
          obtain ⟨y, hy, hpy⟩ := Ix_get _ ht
          have hjl : (Ix (fun x => decide (x = r)) (xs.take i)).toNat < i := by
            have := (List.getElem?_eq_some_iff.1 hy).1
            rw [List.length_take] at this; omega
          rw [List.getElem?_take_of_lt hjl] at hy
          exact hnd i _ r y hjl (by have := HN.out; omega) hr'.out hy (of_decide_eq_true hpy).symm)
        rw [decide_eq_true ht] at O
        clear ht
        go_wp2_with fail
        refine O.mono ?_
        rintro e x1 ⟨rfl, rfl⟩
        go_wp2_with fail
        go_ret
        exact ⟨congrArg (fun n => Ending.returned (.bool n)) hx.out.symm, rfl⟩
      · have hno' : Hid (Nd (i + 1) xs) := Lib.hid (fun i' j x y hj hi' hx hy e => by
          by_cases hji : i' = i
          · subst hji
            have h1 := hr'.out.symm.trans hx
            injection h1 with h1
            subst h1 e
            have := Ix_neg (p := fun x => decide (x = r)) (xs.take i') (by omega) j r (by rw [List.getElem?_take_of_lt hj]; exact hy)
            simp at this
          · exact hno.out i' j x y hj (by omega) hx hy e)
        rw [decide_eq_false ht] at O
        clear ht
        go_wp2_with fail
        refine O.mono ?_
        rintro e x1 ⟨rfl, rfl⟩
        go_wp2_with fail
        go_roundw
        case rel => exact ⟨i + 1, by omega, by go_num, hno', trivial⟩
        case measure => simp [intOf]; omega
    · have hx : Hid (decide xs.Nodup = true) := Lib.hid (decide_eq_true ((nd_iff xs).2 (by have := HN.out; rw [show xs.length = i by omega]; exact hno.out)))
      go_wp2_with fail
      go_ret
      exact ⟨congrArg (fun n => Ending.returned (.bool n)) hx.out.symm, rfl⟩
theorem check_nil_s (A : Option Addr) (c : Nat) (w : World) : Calls Try.prog 18 #[.slice A 0 c] w fun e w' => e = .returned (.bool true) ∧ w = w' := by
  go_enter Try.func18, Try.ntmps18
  go_wp2
  refine wp_loop_rounds 1 ?_
  rw [rounds_succ]
  go_wp2
  go_ret
  exact ⟨rfl, rfl⟩
theorem check_s {A : Option Addr} {n c : Nat} {xs : List ByteArray} {w : World} (h : Sv mks w A n c xs) : Calls Try.prog 18 #[.slice A n c] w fun e w' => e = .returned (.bool (decide xs.Nodup)) ∧ w = w' := by
  have h' := h
  obtain ⟨h1, h2, h3, h4⟩ := h
  rcases h4 with rfl | ⟨b, off, rfl, hlt, hr⟩
  · obtain rfl : xs = [] := List.eq_nil_of_length_eq_zero h1.symm
    exact check_nil_s A c w
  · exact check_some_s b off n c xs (Lib.hid h1) h3 h2 w hlt (Lib.hid h') (Lib.hid hr)

end Go.Proofs.Ytiblkhohlfnhnaa.Lc
