/- Cut at any number; the reference's Cut. -/
import Derived.Test.YtiblkhohlfnhnaaLf
namespace Go.Proofs.Ytiblkhohlfnhnaa.Lg
open Go.RowKit
open Go.Proofs.Ytiblkhohlfnhnaa.La
open Go.Proofs.Ytiblkhohlfnhnaa.Lb
open Go.Proofs.Ytiblkhohlfnhnaa.Lc
open Go.Proofs.Ytiblkhohlfnhnaa.Ld
open Go.Proofs.Ytiblkhohlfnhnaa.Le
open Go.Proofs.Ytiblkhohlfnhnaa.Lf
set_option linter.unusedVariables false

/-- Where a list is cut. -/
def cutAt (n : Nat) (m : Int) : Nat := if m < 0 then n else if (n : Int) < m then 0 else n - m.toNat
theorem cutAt_le (n : Nat) (m : Int) : cutAt n m ≤ n := by
  unfold cutAt
  (repeat' split) <;> omega
theorem cut_any {A : Option Addr} {n c : Nat} {xs : List Int} {w : World} (m : Int) (h : Sv mki w A n c xs) :
    Calls Try.prog 8 #[.slice A n c, .int .i64 m] w fun e w' => ∃ v1 v2, e = .returned (.tuple #[v1, v2]) ∧ w'.ownsRow w.heap.size 3 1 v1 (n - cutAt n m) ((xs.drop (cutAt n m)).map mki) ∧ w'.ownsRow w.heap.size 3 1 v2 (cutAt n m) ((xs.take (cutAt n m)).map mki) ∧ Below w.heap.size w w' := by
  have hn := h.2.2.1
  have hc := h.2.1
  have hle := cutAt_le n m
  have C : ∀ {X : Option Addr} {l d : Nat} {ys : List Int} (W : World), Sv mki W X l d ys → Calls Try.prog 26 #[.slice X l d] W fun e w' => ∃ v, e = .returned v ∧ Hid (w'.ownsRow W.heap.size 3 1 v l (ys.map mki)) ∧ Below W.heap.size W w' := fun W hs => (clone_i hs).mono (fun e w' ⟨v, he, ho, hb⟩ => ⟨v, he, Lib.hid ho, hb⟩)
  have hD : ∀ W, Below w.heap.size w W → Sv mki W (if c = cutAt n m then A else Option.map (fun x => x.add (cutAt n m)) A) (n - cutAt n m) (c - cutAt n m) (xs.drop (cutAt n m)) := fun W hb => sv_drop (h.below hb) _ hle
  have hT : ∀ W, Below w.heap.size w W → Sv mki W A (cutAt n m) c (xs.take (cutAt n m)) := fun W hb => sv_take (h.below hb) _ hle
  by_cases h1 : m < 0
  · have e : cutAt n m = n := by unfold cutAt; rw [if_pos h1]
    rw [e] at hD hT ⊢
    by_cases h2 : c = n
    · subst h2
      refine cut_nege A c m w hn h1 xs (fun W hb => ?_) (fun W hb => C W (hT W hb))
      have := hD W hb
      rw [if_pos rfl, Nat.sub_self] at this
      rw [Nat.sub_self]
      exact C W this
    · refine cut_neg A n c m w hn hc h1 h2 xs (fun W hb => ?_) (fun W hb => C W (hT W hb))
      have := hD W hb
      rw [if_neg h2, Nat.sub_self] at this
      rw [Nat.sub_self]
      exact C W this
  · by_cases h2 : (n : Int) < m
    · have e : cutAt n m = 0 := by unfold cutAt; rw [if_neg h1, if_pos h2]
      rw [e] at hD hT ⊢
      refine cut_hi A n c m w hn hc h2 xs (fun W hb => ?_) (fun W hb => C W (hT W hb))
      exact C W (by rw [List.drop_zero]; exact h.below hb)
    · have e : (cutAt n m : Int) = n - m := by unfold cutAt; rw [if_neg h1, if_neg h2]; omega
      by_cases h3 : c = cutAt n m
      · have hm0 : m = 0 := by omega
        have hcn : c = n := by omega
        subst hm0
        subst hcn
        rw [← h3] at hD hT ⊢
        refine cut_zeroe A c w hn xs (fun W hb => ?_) (fun W hb => C W (hT W hb))
        have := hD W hb
        rw [if_pos rfl, Nat.sub_self] at this
        rw [Nat.sub_self]
        exact C W this
      · refine cut_mid A n c (cutAt n m) m w hn hc (by omega) (by omega) e.symm h3 hle xs (fun W hb => ?_) (fun W hb => C W (hT W hb))
        have := hD W hb
        rw [if_neg h3] at this
        exact C W this

theorem own_lt {w : World} {b : Nat} {e : TypeId} {s : Nat} {v : Value} {n : Nat} {xs : List Value} (h : w.ownsRow b e s v n xs) : ∀ k, v.ownBlock = some k → k < w.heap.size := by
  intro k hk
  rcases h.2 with ⟨rfl, _⟩ | ⟨g, cap, cur, rfl, hg, hh, _⟩
  · simp [Value.ownBlock] at hk
  · simp [Value.ownBlock] at hk
    subst hk
    rcases Nat.lt_or_ge g w.heap.size with h | h
    · exact h
    · rw [Array.getElem?_eq_none h] at hh; cases hh
theorem own_grown {w w' : World} {b : Nat} {e : TypeId} {s : Nat} {v : Value} {n : Nat} {xs : List Value} {row : Option Nat} (h : w.ownsRow b e s v n xs) (hg : w.grownBy w' row) (hr : ∀ k, v.ownBlock = some k → row ≠ some k) : w'.ownsRow b e s v n xs := by
  have hlt := own_lt h
  obtain ⟨h1, h2⟩ := h
  refine ⟨h1, ?_⟩
  rcases h2 with h | ⟨g, cap, cur, rfl, hb, hh, r⟩
  · exact .inl h
  · exact .inr ⟨g, cap, cur, rfl, hb, (hg.block g (hlt g rfl) (fun e => hr g rfl e.symm)).trans hh, r⟩
theorem take_drop_snoc (xs : List Int) (i at_ : Nat) (x : Int) (h : xs[i]? = some x) (hi : at_ ≤ i) : (xs.take (i + 1)).drop at_ = (xs.take i).drop at_ ++ [x] ∧ (xs.take (i + 1)).take at_ = (xs.take i).take at_ := by
  have hl := (List.getElem?_eq_some_iff.1 h).1
  rw [List.take_add_one, h]
  refine ⟨?_, ?_⟩
  · rw [List.drop_append_of_le_length (by rw [List.length_take]; omega)]; rfl
  · rw [List.take_append_of_le_length (by rw [List.length_take]; omega)]
theorem take_take_snoc (xs : List Int) (i at_ : Nat) (x : Int) (h : xs[i]? = some x) (hi : i < at_) : (xs.take (i + 1)).take at_ = (xs.take i).take at_ ++ [x] ∧ (xs.take (i + 1)).drop at_ = (xs.take i).drop at_ := by
  have hl := (List.getElem?_eq_some_iff.1 h).1
  refine ⟨?_, ?_⟩
  · rw [List.take_take, List.take_take, Nat.min_eq_right (by omega), Nat.min_eq_right (by omega), List.take_add_one, h]; rfl
  · rw [List.drop_eq_nil_of_le (by rw [List.length_take]; omega), List.drop_eq_nil_of_le (by rw [List.length_take]; omega)]

set_option maxHeartbeats 2000000 in
theorem rcut_mid (b off n c at_ : Nat) (m : Int) (xs : List Int) (HN : Hid (n = xs.length)) (hn : n ≤ 60000) (hm : 0 ≤ m) (hmn : m ≤ n) (q : (n : Int) - m = (at_ : Int)) (w : World) (hlt : b < w.heap.size) (HR : Hid (∀ (j : Nat) x, xs[j]? = some x → w.cell? ⟨b, off + j, none⟩ = some (.int .i64 x))) :
    Calls Try.prog 9 #[.slice (some ⟨b, off, none⟩) n c, .int .i64 m] w fun e w' => ∃ v1 v2, e = .returned (.tuple #[v1, v2]) ∧ w'.ownsRow w.heap.size 3 1 v1 (xs.drop at_).length ((xs.drop at_).map mki) ∧ w'.ownsRow w.heap.size 3 1 v2 (xs.take at_).length ((xs.take at_).map mki) ∧ Below w.heap.size w w' := by
  go_enter Try.func9, Try.ntmps9
  go_wp2
  go_loopw [6, 7, 8] (fun s6 s7 t wr => ∃ (v1 v2 : Value) (i : Nat), v1 = s6 ∧ v2 = s7 ∧ i ≤ n ∧ t = .int .i64 (i : Int) ∧ Hid (wr.ownsRow w.heap.size 3 1 v1 ((xs.take i).drop at_).length (((xs.take i).drop at_).map mki)) ∧ Hid (wr.ownsRow w.heap.size 3 1 v2 ((xs.take i).take at_).length (((xs.take i).take at_).map mki)) ∧ Hid (∀ k, v1.ownBlock = some k → v2.ownBlock ≠ some k) ∧ Below w.heap.size w wr) (fun _ _ t _ => n - (intOf t).toNat)
  case atStart => exact ⟨_, _, 0, rfl, rfl, Nat.zero_le _, rfl, Lib.hid ⟨by simp, .inl ⟨rfl, by simp⟩⟩, Lib.hid ⟨by simp, .inl ⟨rfl, by simp⟩⟩, Lib.hid (by simp [Value.ownBlock]), Below.refl _ _⟩
  case round =>
    obtain ⟨v1, v2, i, rfl, rfl, hi, rfl, own1, own2, hne, hbr⟩ := hrel
    by_cases hlk : i < n
    · obtain ⟨x, hx⟩ : ∃ x, xs[i]? = some x := ⟨xs[i]'(by have := HN.out; omega), List.getElem?_eq_getElem _⟩
      have c0 := (hbr.cell (p := ⟨b, off + i, none⟩) hlt).trans (HR.out i x hx)
      have hx := Lib.hid hx
      have bA := (Below.refl wr.heap.size wr).alloc (Nat.le_refl _) (.cells #[.int .i64 x] 3)
      have hb1 := hbr.alloc hbr.size (.cells #[.int .i64 x] 3)
      have p1 := Lib.hid (own_below own1.out bA)
      have p2 := Lib.hid (own_below own2.out bA)
      have S1 : Hid (Sv mki (wr.alloc (.cells #[.int .i64 x] 3)) (some ⟨wr.heap.size, 0, none⟩) 1 1 [x]) := Lib.hid (sv_new mki wr 3 [x] (by simp))
      have l1 := Lib.hid (own_lt p1.out)
      have l2 := Lib.hid (own_lt p2.out)
      have B1 := Lib.hid (own_base p1.out)
      have B2 := Lib.hid (own_base p2.out)
      have z1 : Hid (((xs.take i).drop at_).length ≤ 60000) := Lib.hid (by rw [List.length_drop, List.length_take]; omega)
      have z2 : Hid (((xs.take i).take at_).length ≤ 60000) := Lib.hid (by rw [List.length_take, List.length_take]; omega)
      clear own1 own2 hbr bA
      by_cases hai : at_ ≤ i
      · have E := Lib.hid (take_drop_snoc xs i at_ x hx.out hai)
        have d0 : decide ((at_ : Int) ≤ (i : Int)) = true := by simpa using hai
        go_wp2_with (first
          | (at_builtin
             refine wp_app_i _ rfl (.tmp 25) (.tmp 30) rfl w.heap.size v1 _ _ rfl p1.out (some ⟨wr.heap.size, 0, none⟩) 1 1 [x] rfl S1.out (by have := z1.out; omega) hb1.size ?_
             intro v' w' own3 g1 at1
             have hb2 : Below w.heap.size w w' := hb1.grown g1 hb1.size B1.out
             have own3 := Lib.hid own3
             have own4 := Lib.hid (own_grown p2.out g1 (fun k hk => fun e => hne.out k e hk))
             have hne' : Hid (∀ k, v'.ownBlock = some k → v2.ownBlock ≠ some k) := Lib.hid (fun k hk hk' => by
               rcases at1 with e | e
               · rw [e] at hk; exact hne.out k hk hk'
               · rw [e] at hk
                 have := l2.out k hk'
                 injection hk with hk
                 omega)
             clear g1 at1))
        go_roundw
        case rel =>
          refine ⟨_, _, i + 1, rfl, rfl, by omega, by go_num, ?_, ?_, hne', hb2⟩
          · rw [(E.out).1]
            exact Lib.hid (by have := own3.out; simpa using this)
          · rw [(E.out).2]
            exact own4
        case measure => simp [intOf]; omega
      · have E := Lib.hid (take_take_snoc xs i at_ x hx.out (by omega))
        have d0 : decide ((at_ : Int) ≤ (i : Int)) = false := by simpa using hai
        have d1 : (i : Int) < (at_ : Int) := by omega
        go_wp2_with (first
          | (at_builtin
             refine wp_app_i _ rfl (.tmp 32) (.tmp 37) rfl w.heap.size v2 _ _ rfl p2.out (some ⟨wr.heap.size, 0, none⟩) 1 1 [x] rfl S1.out (by have := z2.out; omega) hb1.size ?_
             intro v' w' own3 g1 at1
             have hb2 : Below w.heap.size w w' := hb1.grown g1 hb1.size B2.out
             have own3 := Lib.hid own3
             have own4 := Lib.hid (own_grown p1.out g1 (fun k hk => hne.out k hk))
             have hne' : Hid (∀ k, v1.ownBlock = some k → v'.ownBlock ≠ some k) := Lib.hid (fun k hk hk' => by
               rcases at1 with e | e
               · rw [e] at hk'; exact hne.out k hk hk'
               · rw [e] at hk'
                 have := l1.out k hk
                 injection hk' with hk
                 omega)
             clear g1 at1))
        go_roundw
        case rel =>
          refine ⟨_, _, i + 1, rfl, rfl, by omega, by go_num, ?_, ?_, hne', hb2⟩
          · rw [(E.out).2]
            exact own4
          · rw [(E.out).1]
            exact Lib.hid (by have := own3.out; simpa using this)
        case measure => simp [intOf]; omega
    · have e1 : xs.take i = xs := List.take_of_length_le (by have := HN.out; omega)
      rw [e1] at own1 own2
      clear e1
      go_wp2
      exact bodyPost_ret (v := .tuple #[v1, v2]) (by simp [results, Try.results9, go_sem]) rfl ⟨v1, v2, rfl, own1.out, own2.out, hbr⟩

set_option maxHeartbeats 2000000 in
theorem rcut_neg (b off n c : Nat) (m : Int) (xs : List Int) (HN : Hid (n = xs.length)) (hn : n ≤ 60000) (hm : m < 0) (w : World) (hlt : b < w.heap.size) (HR : Hid (∀ (j : Nat) x, xs[j]? = some x → w.cell? ⟨b, off + j, none⟩ = some (.int .i64 x))) :
    Calls Try.prog 9 #[.slice (some ⟨b, off, none⟩) n c, .int .i64 m] w fun e w' => ∃ v1 v2, e = .returned (.tuple #[v1, v2]) ∧ w'.ownsRow w.heap.size 3 1 v1 (xs.drop n).length ((xs.drop n).map mki) ∧ w'.ownsRow w.heap.size 3 1 v2 (xs.take n).length ((xs.take n).map mki) ∧ Below w.heap.size w w' := by
  go_enter Try.func9, Try.ntmps9
  go_wp2
  go_loopw [6, 7, 8] (fun s6 s7 t wr => ∃ (v1 v2 : Value) (i : Nat), v1 = s6 ∧ v2 = s7 ∧ i ≤ n ∧ t = .int .i64 (i : Int) ∧ Hid (wr.ownsRow w.heap.size 3 1 v1 ((xs.take i).drop n).length (((xs.take i).drop n).map mki)) ∧ Hid (wr.ownsRow w.heap.size 3 1 v2 ((xs.take i).take n).length (((xs.take i).take n).map mki)) ∧ Hid (∀ k, v1.ownBlock = some k → v2.ownBlock ≠ some k) ∧ Below w.heap.size w wr) (fun _ _ t _ => n - (intOf t).toNat)
  case atStart => exact ⟨_, _, 0, rfl, rfl, Nat.zero_le _, rfl, Lib.hid ⟨by simp, .inl ⟨rfl, by simp⟩⟩, Lib.hid ⟨by simp, .inl ⟨rfl, by simp⟩⟩, Lib.hid (by simp [Value.ownBlock]), Below.refl _ _⟩
  case round =>
    obtain ⟨v1, v2, i, rfl, rfl, hi, rfl, own1, own2, hne, hbr⟩ := hrel
    by_cases hlk : i < n
    · obtain ⟨x, hx⟩ : ∃ x, xs[i]? = some x := ⟨xs[i]'(by have := HN.out; omega), List.getElem?_eq_getElem _⟩
      have c0 := (hbr.cell (p := ⟨b, off + i, none⟩) hlt).trans (HR.out i x hx)
      have hx := Lib.hid hx
      have bA := (Below.refl wr.heap.size wr).alloc (Nat.le_refl _) (.cells #[.int .i64 x] 3)
      have hb1 := hbr.alloc hbr.size (.cells #[.int .i64 x] 3)
      have p1 := Lib.hid (own_below own1.out bA)
      have p2 := Lib.hid (own_below own2.out bA)
      have S1 : Hid (Sv mki (wr.alloc (.cells #[.int .i64 x] 3)) (some ⟨wr.heap.size, 0, none⟩) 1 1 [x]) := Lib.hid (sv_new mki wr 3 [x] (by simp))
      have l1 := Lib.hid (own_lt p1.out)
      have l2 := Lib.hid (own_lt p2.out)
      have B1 := Lib.hid (own_base p1.out)
      have B2 := Lib.hid (own_base p2.out)
      have z1 : Hid (((xs.take i).drop n).length ≤ 60000) := Lib.hid (by rw [List.length_drop, List.length_take]; omega)
      have z2 : Hid (((xs.take i).take n).length ≤ 60000) := Lib.hid (by rw [List.length_take, List.length_take]; omega)
      clear own1 own2 hbr bA
      have E := Lib.hid (take_take_snoc xs i n x hx.out hlk)
      have d0 : decide ((n : Int) ≤ (i : Int)) = false := by simpa using hlk
      go_wp2_with (first
        | (at_builtin
           refine wp_app_i _ rfl (.tmp 32) (.tmp 37) rfl w.heap.size v2 _ _ rfl p2.out (some ⟨wr.heap.size, 0, none⟩) 1 1 [x] rfl S1.out (by have := z2.out; omega) hb1.size ?_
           intro v' w' own3 g1 at1
           have hb2 : Below w.heap.size w w' := hb1.grown g1 hb1.size B2.out
           have own3 := Lib.hid own3
           have own4 := Lib.hid (own_grown p1.out g1 (fun k hk => hne.out k hk))
           have hne' : Hid (∀ k, v1.ownBlock = some k → v'.ownBlock ≠ some k) := Lib.hid (fun k hk hk' => by
             rcases at1 with e | e
             · rw [e] at hk'; exact hne.out k hk hk'
             · rw [e] at hk'
               have := l1.out k hk
               injection hk' with hk
               omega)
           clear g1 at1))
      go_roundw
      case rel =>
        refine ⟨_, _, i + 1, rfl, rfl, by omega, by go_num, ?_, ?_, hne', hb2⟩
        · rw [(E.out).2]
          exact own4
        · rw [(E.out).1]
          exact Lib.hid (by have := own3.out; simpa using this)
      case measure => simp [intOf]; omega
    · have e1 : xs.take i = xs := List.take_of_length_le (by have := HN.out; omega)
      rw [e1] at own1 own2
      clear e1
      go_wp2
      exact bodyPost_ret (v := .tuple #[v1, v2]) (by simp [results, Try.results9, go_sem]) rfl ⟨v1, v2, rfl, own1.out, own2.out, hbr⟩

set_option maxHeartbeats 2000000 in
theorem rcut_hi (b off n c : Nat) (m : Int) (xs : List Int) (HN : Hid (n = xs.length)) (hn : n ≤ 60000) (hm : (n : Int) < m) (w : World) (hlt : b < w.heap.size) (HR : Hid (∀ (j : Nat) x, xs[j]? = some x → w.cell? ⟨b, off + j, none⟩ = some (.int .i64 x))) :
    Calls Try.prog 9 #[.slice (some ⟨b, off, none⟩) n c, .int .i64 m] w fun e w' => ∃ v1 v2, e = .returned (.tuple #[v1, v2]) ∧ w'.ownsRow w.heap.size 3 1 v1 (xs.drop 0).length ((xs.drop 0).map mki) ∧ w'.ownsRow w.heap.size 3 1 v2 (xs.take 0).length ((xs.take 0).map mki) ∧ Below w.heap.size w w' := by
  go_enter Try.func9, Try.ntmps9
  go_wp2
  go_loopw [6, 7, 8] (fun s6 s7 t wr => ∃ (v1 v2 : Value) (i : Nat), v1 = s6 ∧ v2 = s7 ∧ i ≤ n ∧ t = .int .i64 (i : Int) ∧ Hid (wr.ownsRow w.heap.size 3 1 v1 ((xs.take i).drop 0).length (((xs.take i).drop 0).map mki)) ∧ Hid (wr.ownsRow w.heap.size 3 1 v2 ((xs.take i).take 0).length (((xs.take i).take 0).map mki)) ∧ Hid (∀ k, v1.ownBlock = some k → v2.ownBlock ≠ some k) ∧ Below w.heap.size w wr) (fun _ _ t _ => n - (intOf t).toNat)
  case atStart => exact ⟨_, _, 0, rfl, rfl, Nat.zero_le _, rfl, Lib.hid ⟨by simp, .inl ⟨rfl, by simp⟩⟩, Lib.hid ⟨by simp, .inl ⟨rfl, by simp⟩⟩, Lib.hid (by simp [Value.ownBlock]), Below.refl _ _⟩
  case round =>
    obtain ⟨v1, v2, i, rfl, rfl, hi, rfl, own1, own2, hne, hbr⟩ := hrel
    by_cases hlk : i < n
    · obtain ⟨x, hx⟩ : ∃ x, xs[i]? = some x := ⟨xs[i]'(by have := HN.out; omega), List.getElem?_eq_getElem _⟩
      have c0 := (hbr.cell (p := ⟨b, off + i, none⟩) hlt).trans (HR.out i x hx)
      have hx := Lib.hid hx
      have bA := (Below.refl wr.heap.size wr).alloc (Nat.le_refl _) (.cells #[.int .i64 x] 3)
      have hb1 := hbr.alloc hbr.size (.cells #[.int .i64 x] 3)
      have p1 := Lib.hid (own_below own1.out bA)
      have p2 := Lib.hid (own_below own2.out bA)
      have S1 : Hid (Sv mki (wr.alloc (.cells #[.int .i64 x] 3)) (some ⟨wr.heap.size, 0, none⟩) 1 1 [x]) := Lib.hid (sv_new mki wr 3 [x] (by simp))
      have l1 := Lib.hid (own_lt p1.out)
      have l2 := Lib.hid (own_lt p2.out)
      have B1 := Lib.hid (own_base p1.out)
      have B2 := Lib.hid (own_base p2.out)
      have z1 : Hid (((xs.take i).drop 0).length ≤ 60000) := Lib.hid (by rw [List.length_drop, List.length_take]; omega)
      have z2 : Hid (((xs.take i).take 0).length ≤ 60000) := Lib.hid (by rw [List.length_take, List.length_take]; omega)
      clear own1 own2 hbr bA
      have E := Lib.hid (take_drop_snoc xs i 0 x hx.out (Nat.zero_le _))
      go_wp2_with (first
        | (at_builtin
           refine wp_app_i _ rfl (.tmp 25) (.tmp 30) rfl w.heap.size v1 _ _ rfl p1.out (some ⟨wr.heap.size, 0, none⟩) 1 1 [x] rfl S1.out (by have := z1.out; omega) hb1.size ?_
           intro v' w' own3 g1 at1
           have hb2 : Below w.heap.size w w' := hb1.grown g1 hb1.size B1.out
           have own3 := Lib.hid own3
           have own4 := Lib.hid (own_grown p2.out g1 (fun k hk => fun e => hne.out k e hk))
           have hne' : Hid (∀ k, v'.ownBlock = some k → v2.ownBlock ≠ some k) := Lib.hid (fun k hk hk' => by
             rcases at1 with e | e
             · rw [e] at hk; exact hne.out k hk hk'
             · rw [e] at hk
               have := l2.out k hk'
               injection hk with hk
               omega)
           clear g1 at1))
      go_roundw
      case rel =>
        refine ⟨_, _, i + 1, rfl, rfl, by omega, by go_num, ?_, ?_, hne', hb2⟩
        · rw [(E.out).1]
          exact Lib.hid (by have := own3.out; simpa using this)
        · rw [(E.out).2]
          exact own4
      case measure => simp [intOf]; omega
    · have e1 : xs.take i = xs := List.take_of_length_le (by have := HN.out; omega)
      rw [e1] at own1 own2
      clear e1
      go_wp2
      exact bodyPost_ret (v := .tuple #[v1, v2]) (by simp [results, Try.results9, go_sem]) rfl ⟨v1, v2, rfl, own1.out, own2.out, hbr⟩

end Go.Proofs.Ytiblkhohlfnhnaa.Lg
