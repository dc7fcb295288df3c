/- The reference's Drop, Touch and TouchTexts. -/
import Derived.Test.YtiblkhohlfnhnaaLc
namespace Go.Proofs.Ytiblkhohlfnhnaa.Ld
open Go.RowKit
open Go.Proofs.Ytiblkhohlfnhnaa.La
open Go.Proofs.Ytiblkhohlfnhnaa.Lb
open Go.Proofs.Ytiblkhohlfnhnaa.Lc
set_option linter.unusedVariables false

set_option maxHeartbeats 2000000 in
theorem rdrop_i_some (b off n c : Nat) (k : Int) (xs : List Int) (HN : Hid (n = xs.length)) (hn : n ≤ 60000) (w : World) (hlt : b < w.heap.size) (HR : Hid (∀ (j : Nat) x, xs[j]? = some x → w.cell? ⟨b, off + j, none⟩ = some (.int .i64 x))) :
    Calls Try.prog 15 #[.slice (some ⟨b, off, none⟩) n c, .int .i64 k] w fun e w' => ∃ v, e = .returned v ∧ w'.ownsRow w.heap.size 3 1 v (xs.filter (fun x => !decide (x = k))).length ((xs.filter (fun x => !decide (x = k))).map mki) ∧ Below w.heap.size w w' := by
  go_enter Try.func15, Try.ntmps15
  go_wp2
  go_loopw [5, 6] (fun s5 t wr => ∃ (v : Value) (i : Nat), v = s5 ∧ i ≤ n ∧ t = .int .i64 (i : Int) ∧ Hid (wr.ownsRow w.heap.size 3 1 v ((xs.take i).filter (fun x => !decide (x = k))).length (((xs.take i).filter (fun x => !decide (x = k))).map mki)) ∧ Below w.heap.size w wr) (fun _ t _ => n - (intOf t).toNat)
  case atStart => exact ⟨_, 0, rfl, Nat.zero_le _, rfl, Lib.hid ⟨by simp, .inl ⟨rfl, rfl⟩⟩, Below.refl _ _⟩
  case round =>
    obtain ⟨v, i, rfl, hi, rfl, own, hbr⟩ := hrel
    by_cases hlk : i < n
    · obtain ⟨x, hx⟩ : ∃ x, xs[i]? = some x := ⟨xs[i]'(by have := HN.out; omega), List.getElem?_eq_getElem _⟩
      have c0 := (hbr.cell (p := ⟨b, off + i, none⟩) hlt).trans (HR.out i x hx)
      have hx := Lib.hid hx
      by_cases ht : decide (x = k) = true
      · have e1 : (xs.take (i + 1)).filter (fun x => !decide (x = k)) = (xs.take i).filter (fun x => !decide (x = k)) := by rw [kept_take _ xs i x hx.out]; simp [ht]
        rw [← e1] at own
        clear e1
        have q0 : (x == k) = true := by simpa using ht
        have q1 : (x != k) = false := by simpa using ht
        clear ht
        go_wp2_with fail
        go_roundw
        case rel => exact ⟨v, i + 1, rfl, by omega, by go_num, own, hbr⟩
        case measure => simp [intOf]; omega
      · have hf : decide (x = k) = false := by simpa using ht
        clear ht
        have e1 : Hid ((xs.take (i + 1)).filter (fun x => !decide (x = k)) = (xs.take i).filter (fun x => !decide (x = k)) ++ [x]) := Lib.hid (by rw [kept_take _ xs i x hx.out]; simp [hf])
        have q0 : (x == k) = false := by simpa using hf
        have q1 : (x != k) = true := by simpa using hf
        clear hf
        have hl : Hid (((xs.take i).filter (fun x => !decide (x = k))).length ≤ 60000) := Lib.hid (by have := kept_len (fun x => !decide (x = k)) xs i; omega)
        have hb1 := hbr.alloc hbr.size (.cells #[.int .i64 x] 3)
        have own1 := Lib.hid (own_below own.out ((Below.refl wr.heap.size wr).alloc (Nat.le_refl _) (.cells #[.int .i64 x] 3)))
        have S1 : Hid (Sv mki (wr.alloc (.cells #[.int .i64 x] 3)) (some ⟨wr.heap.size, 0, none⟩) 1 1 [x]) := Lib.hid (sv_new mki wr 3 [x] (by simp))
        have OB := Lib.hid (own_base own.out)
        clear own hbr
        go_wp2_with (first
          | (at_builtin
             refine wp_app_i _ rfl (.tmp 19) (.tmp 24) rfl w.heap.size v _ _ rfl own1.out (some ⟨wr.heap.size, 0, none⟩) 1 1 [x] rfl S1.out (by have := hl.out; omega) hb1.size ?_
             intro v' w' own2 g1 at1
             have hb2 : Below w.heap.size w w' := hb1.grown g1 hb1.size OB.out
             have own2 := Lib.hid own2
             clear g1 at1))
        go_roundw
        case rel =>
          refine ⟨_, i + 1, rfl, by omega, by go_num, ?_, hb2⟩
          rw [e1.out]
          exact Lib.hid (by have := own2.out; simpa using this)
        case measure => simp [intOf]; omega
    · have hfin : Hid (wr.ownsRow w.heap.size 3 1 v (xs.filter (fun x => !decide (x = k))).length ((xs.filter (fun x => !decide (x = k))).map mki)) := by
        have e1 : xs.take i = xs := List.take_of_length_le (by have := HN.out; omega)
        rw [e1] at own; exact own
      clear own
      go_wp2_with fail
      go_ret
      exact ⟨_, rfl, hfin.out, hbr⟩

theorem rdrop_i_nil (A : Option Addr) (c : Nat) (k : Int) (w : World) : Calls Try.prog 15 #[.slice A 0 c, .int .i64 k] w fun e w' => ∃ v, e = .returned v ∧ w'.ownsRow w.heap.size 3 1 v (([] : List Int).filter (fun x => !decide (x = k))).length ((([] : List Int).filter (fun x => !decide (x = k))).map mki) ∧ Below w.heap.size w w' := by
  go_enter Try.func15, Try.ntmps15
  go_wp2
  refine wp_loop_rounds 1 ?_
  rw [rounds_succ]
  go_wp2
  go_ret
  exact ⟨_, rfl, ⟨by simp, .inl ⟨rfl, rfl⟩⟩, Below.refl _ _⟩

theorem rdrop_i {A : Option Addr} {n c : Nat} {xs : List Int} {w : World} (k : Int) (h : Sv mki w A n c xs) (hn : n ≤ 60000) : Calls Try.prog 15 #[.slice A n c, .int .i64 k] w fun e w' => ∃ v, e = .returned v ∧ w'.ownsRow w.heap.size 3 1 v (xs.filter (fun x => !decide (x = k))).length ((xs.filter (fun x => !decide (x = k))).map mki) ∧ Below w.heap.size w w' := by
  obtain ⟨h1, h2, h3, h4⟩ := h
  rcases h4 with rfl | ⟨b, off, rfl, hlt, hr⟩
  · obtain rfl : xs = [] := List.eq_nil_of_length_eq_zero h1.symm
    exact rdrop_i_nil A c k w
  · exact rdrop_i_some b off n c k xs (Lib.hid h1) hn w hlt (Lib.hid hr)

set_option maxHeartbeats 2000000 in
theorem rtouch_s_some (b off n c : Nat) (k : ByteArray) (xs : List ByteArray) (HN : Hid (n = xs.length)) (hn : n ≤ 60000) (w : World) (hlt : b < w.heap.size) (HR : Hid (∀ (j : Nat) x, xs[j]? = some x → w.cell? ⟨b, off + j, none⟩ = some (.string x))) :
    Calls Try.prog 22 #[.slice (some ⟨b, off, none⟩) n c, .string k] w fun e w' => ∃ v, e = .returned v ∧ w'.ownsRow w.heap.size 9 1 v (xs.filter (fun x => !decide (x = k)) ++ [k]).length ((xs.filter (fun x => !decide (x = k)) ++ [k]).map mks) ∧ Below w.heap.size w w' := by
  go_enter Try.func22, Try.ntmps22
  go_wp2
  go_loopw [5, 6] (fun s5 t wr => ∃ (v : Value) (i : Nat), v = s5 ∧ i ≤ n ∧ t = .int .i64 (i : Int) ∧ Hid (wr.ownsRow w.heap.size 9 1 v ((xs.take i).filter (fun x => !decide (x = k))).length (((xs.take i).filter (fun x => !decide (x = k))).map mks)) ∧ Below w.heap.size w wr) (fun _ t _ => n - (intOf t).toNat)
  case atStart => exact ⟨_, 0, rfl, Nat.zero_le _, rfl, Lib.hid ⟨by simp, .inl ⟨rfl, rfl⟩⟩, Below.refl _ _⟩
  case round =>
    obtain ⟨v, i, rfl, hi, rfl, own, hbr⟩ := hrel
    by_cases hlk : i < n
    · obtain ⟨x, hx⟩ : ∃ x, xs[i]? = some x := ⟨xs[i]'(by have := HN.out; omega), List.getElem?_eq_getElem _⟩
      have c0 := (hbr.cell (p := ⟨b, off + i, none⟩) hlt).trans (HR.out i x hx)
      have hx := Lib.hid hx
      by_cases ht : decide (x = k) = true
      · have e1 : (xs.take (i + 1)).filter (fun x => !decide (x = k)) = (xs.take i).filter (fun x => !decide (x = k)) := by rw [kept_take _ xs i x hx.out]; simp [ht]
        rw [← e1] at own
        clear e1
        have q0 : (x.toList == k.toList) = true := by rw [toList_beq]; exact ht
        have q1 : (x.toList != k.toList) = false := by rw [bne, q0]; rfl
        clear ht
        go_wp2_with fail
        go_roundw
        case rel => exact ⟨v, i + 1, rfl, by omega, by go_num, own, hbr⟩
        case measure => simp [intOf]; omega
      · have hf : decide (x = k) = false := by simpa using ht
        clear ht
        have e1 : Hid ((xs.take (i + 1)).filter (fun x => !decide (x = k)) = (xs.take i).filter (fun x => !decide (x = k)) ++ [x]) := Lib.hid (by rw [kept_take _ xs i x hx.out]; simp [hf])
        have q0 : (x.toList == k.toList) = false := by rw [toList_beq]; exact hf
        have q1 : (x.toList != k.toList) = true := by rw [bne, q0]; rfl
        clear hf
        have hl : Hid (((xs.take i).filter (fun x => !decide (x = k))).length ≤ 60000) := Lib.hid (by have := kept_len (fun x => !decide (x = k)) xs i; omega)
        have hb1 := hbr.alloc hbr.size (.cells #[.string x] 9)
        have own1 := Lib.hid (own_below own.out ((Below.refl wr.heap.size wr).alloc (Nat.le_refl _) (.cells #[.string x] 9)))
        have S1 : Hid (Sv mks (wr.alloc (.cells #[.string x] 9)) (some ⟨wr.heap.size, 0, none⟩) 1 1 [x]) := Lib.hid (sv_new mks wr 9 [x] (by simp))
        have OB := Lib.hid (own_base own.out)
        clear own hbr
        go_wp2_with (first
          | (at_builtin
             refine wp_app_s _ rfl (.tmp 19) (.tmp 24) rfl w.heap.size v _ _ rfl own1.out (some ⟨wr.heap.size, 0, none⟩) 1 1 [x] rfl S1.out (by have := hl.out; omega) hb1.size ?_
             intro v' w' own2 g1 at1
             have hb2 : Below w.heap.size w w' := hb1.grown g1 hb1.size OB.out
             have own2 := Lib.hid own2
             clear g1 at1))
        go_roundw
        case rel =>
          refine ⟨_, i + 1, rfl, by omega, by go_num, ?_, hb2⟩
          rw [e1.out]
          exact Lib.hid (by have := own2.out; simpa using this)
        case measure => simp [intOf]; omega
    · have hfin : Hid (wr.ownsRow w.heap.size 9 1 v (xs.filter (fun x => !decide (x = k))).length ((xs.filter (fun x => !decide (x = k))).map mks)) := by
        have e1 : xs.take i = xs := List.take_of_length_le (by have := HN.out; omega)
        rw [e1] at own; exact own
      clear own
      have hb1 := hbr.alloc hbr.size (.cells #[.string k] 9)
      have own1 := Lib.hid (own_below hfin.out ((Below.refl wr.heap.size wr).alloc (Nat.le_refl _) (.cells #[.string k] 9)))
      have S1 : Hid (Sv mks (wr.alloc (.cells #[.string k] 9)) (some ⟨wr.heap.size, 0, none⟩) 1 1 [k]) := Lib.hid (sv_new mks wr 9 [k] (by simp))
      have OB := Lib.hid (own_base hfin.out)
      have hl : Hid ((xs.filter (fun x => !decide (x = k))).length ≤ 60000) := Lib.hid (by have := List.length_filter_le (fun x => !decide (x = k)) xs; have := HN.out; omega)
      clear hfin hbr
      go_wp2_with (first
        | (at_builtin
           refine wp_app_s _ rfl (.tmp 26) (.tmp 28) rfl w.heap.size v _ _ rfl own1.out (some ⟨wr.heap.size, 0, none⟩) 1 1 [k] rfl S1.out (by have := hl.out; omega) hb1.size ?_
           intro v' w' own2 g1 at1
           have hb2 : Below w.heap.size w w' := hb1.grown g1 hb1.size OB.out
           have own2 := Lib.hid own2
           clear g1 at1))
      go_ret
      refine ⟨_, rfl, ?_, hb2⟩
      have := own2.out
      simpa using this

theorem rtouch_s_nil (A : Option Addr) (c : Nat) (k : ByteArray) (w : World) : Calls Try.prog 22 #[.slice A 0 c, .string k] w fun e w' => ∃ v, e = .returned v ∧ w'.ownsRow w.heap.size 9 1 v (([] : List ByteArray).filter (fun x => !decide (x = k)) ++ [k]).length ((([] : List ByteArray).filter (fun x => !decide (x = k)) ++ [k]).map mks) ∧ Below w.heap.size w w' := by
  go_enter Try.func22, Try.ntmps22
  go_wp2
  refine wp_loop_rounds 1 ?_
  rw [rounds_succ]
  have hb1 : Below w.heap.size w (w.alloc (.cells #[.string k] 9)) := (Below.refl _ _).alloc (Nat.le_refl _) _
  have S1 : Hid (Sv mks (w.alloc (.cells #[.string k] 9)) (some ⟨w.heap.size, 0, none⟩) 1 1 [k]) := Lib.hid (sv_new mks w 9 [k] (by simp))
  go_wp2_with (first
    | (at_builtin
       refine wp_app_s _ rfl (.tmp 26) (.tmp 28) rfl w.heap.size (.slice none 0 0) 0 [] rfl ⟨by simp, .inl ⟨rfl, rfl⟩⟩ (some ⟨w.heap.size, 0, none⟩) 1 1 [k] rfl S1.out (by omega) hb1.size ?_
       intro v' w' own2 g1 at1
       have hb2 : Below w.heap.size w w' := hb1.grown g1 hb1.size (by simp [Value.ownBlock])
       have own2 := Lib.hid own2
       clear g1 at1))
  go_ret
  refine ⟨_, rfl, ?_, hb2⟩
  have := own2.out
  simpa using this

theorem rtouch_s {A : Option Addr} {n c : Nat} {xs : List ByteArray} {w : World} (k : ByteArray) (h : Sv mks w A n c xs) (hn : n ≤ 60000) : Calls Try.prog 22 #[.slice A n c, .string k] w fun e w' => ∃ v, e = .returned v ∧ w'.ownsRow w.heap.size 9 1 v (xs.filter (fun x => !decide (x = k)) ++ [k]).length ((xs.filter (fun x => !decide (x = k)) ++ [k]).map mks) ∧ Below w.heap.size w w' := by
  obtain ⟨h1, h2, h3, h4⟩ := h
  rcases h4 with rfl | ⟨b, off, rfl, hlt, hr⟩
  · obtain rfl : xs = [] := List.eq_nil_of_length_eq_zero h1.symm
    exact rtouch_s_nil A c k w
  · exact rtouch_s_some b off n c k xs (Lib.hid h1) hn w hlt (Lib.hid hr)

theorem rtouch_i {A : Option Addr} {n c : Nat} {xs : List Int} {w : World} (k : Int) (h : Sv mki w A n c xs) (hn : n ≤ 60000) :
    Calls Try.prog 13 #[.slice A n c, .int .i64 k] w fun e w' => ∃ v, e = .returned v ∧ w'.ownsRow w.heap.size 3 1 v (xs.filter (fun x => !decide (x = k)) ++ [k]).length ((xs.filter (fun x => !decide (x = k)) ++ [k]).map mki) ∧ Below w.heap.size w w' := by
  have hl : (xs.filter (fun x => !decide (x = k))).length ≤ 60000 := by have := List.length_filter_le (fun x => !decide (x = k)) xs; have := h.1; omega
  have D := rdrop_i k h hn
  clear h
  generalize xs.filter (fun x => !decide (x = k)) = ys at *
  go_enter Try.func13, Try.ntmps13
  go_wp2_with fail
  refine D.mono ?_
  clear D
  rintro e w1 ⟨v, rfl, own, hb⟩
  have hb1 := hb.alloc hb.size (.cells #[.int .i64 k] 3)
  have own1 := Lib.hid (own_below own ((Below.refl w1.heap.size w1).alloc (Nat.le_refl _) (.cells #[.int .i64 k] 3)))
  have S1 : Hid (Sv mki (w1.alloc (.cells #[.int .i64 k] 3)) (some ⟨w1.heap.size, 0, none⟩) 1 1 [k]) := Lib.hid (sv_new mki w1 3 [k] (by simp))
  have OB := Lib.hid (own_base own)
  clear own
  have hl := Lib.hid hl
  go_wp2_with (first
    | (at_builtin
       refine wp_app_i _ rfl (.tmp 9) (.tmp 11) rfl w.heap.size v ys.length ys rfl own1.out (some ⟨w1.heap.size, 0, none⟩) 1 1 [k] rfl S1.out (by have := hl.out; omega) hb1.size ?_
       intro v' w' own2 g1 at1
       have hb2 : Below w.heap.size w w' := hb1.grown g1 hb1.size OB.out
       have own2 := Lib.hid own2
       clear g1 at1))
  go_ret
  refine ⟨_, rfl, ?_, hb2⟩
  have := own2.out
  simpa using this

end Go.Proofs.Ytiblkhohlfnhnaa.Ld
