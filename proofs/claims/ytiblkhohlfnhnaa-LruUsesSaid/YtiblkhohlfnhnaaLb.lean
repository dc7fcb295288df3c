/- Package slices' Clone and DeleteFunc. -/
import Derived.Test.YtiblkhohlfnhnaaLa
import Derived.Lib.SliceRun
namespace Go.Proofs.Ytiblkhohlfnhnaa.Lb
open Go.RowKit
open Go.Proofs.Ytiblkhohlfnhnaa.La
set_option linter.unusedVariables false

theorem own_weak {w : World} {b b' : Nat} {e : TypeId} {s : Nat} {v : Value} {n : Nat} {xs : List Value} (h : w.ownsRow b e s v n xs) (hb : b' ≤ b) : w.ownsRow b' e s v n xs := by
  obtain ⟨h1, h2⟩ := h
  refine ⟨h1, ?_⟩
  rcases h2 with h | ⟨g, cap, cur, e1, hg, r⟩
  · exact .inl h
  · exact .inr ⟨g, cap, cur, e1, Nat.le_trans hb hg, r⟩
theorem kept_take {α : Type} (q : α → Bool) (xs : List α) (j : Nat) (x : α) (h : xs[j]? = some x) : (xs.take (j + 1)).filter q = (xs.take j).filter q ++ (if q x = true then [x] else []) := by
  rw [List.take_add_one, h, List.filter_append]
  by_cases hq : q x = true <;> simp [hq]
theorem kept_all {α : Type} (q : α → Bool) (xs : List α) (h : ∀ (j : Nat) y, xs[j]? = some y → q y = true) : xs.filter q = xs := by
  rw [List.filter_eq_self]
  intro a ha
  obtain ⟨j, hj⟩ := List.getElem?_of_mem ha
  exact h j a hj
theorem kept_pre {α : Type} (q : α → Bool) (xs : List α) (i : Nat) (h : ∀ (j : Nat) y, j < i → xs[j]? = some y → q y = true) : (xs.take i).filter q = xs.take i := by
  apply kept_all
  intro j y hy
  by_cases hj : j < i
  · exact h j y hj (by rwa [List.getElem?_take_of_lt hj] at hy)
  · rw [List.getElem?_take_eq_none (by omega)] at hy; cases hy
theorem kept_len {α : Type} (q : α → Bool) (xs : List α) (j : Nat) : ((xs.take j).filter q).length ≤ j := Nat.le_trans (List.length_filter_le _ _) (List.length_take_le _ _)
/-- What lies in the row while it is rewritten. -/
structure Kp {α : Type} (mk : α → Value) (q : α → Bool) (xs : List α) (cap i j : Nat) (dk : Array Value) : Prop where
  size : dk.size = cap
  len : ((xs.take j).filter q).length = i
  low : ∀ (m : Nat) x, ((xs.take j).filter q)[m]? = some x → dk[m]? = some (mk x)
  high : ∀ (m : Nat) x, j ≤ m → xs[m]? = some x → dk[m]? = some (mk x)
section
variable {α : Type} {mk : α → Value} {q : α → Bool} {xs : List α} {cap i j : Nat} {dk : Array Value}
theorem Kp.skip (h : Kp mk q xs cap i j dk) (x : α) (hx : xs[j]? = some x) (hq : q x = false) : Kp mk q xs cap i (j + 1) dk := by
  have e : (xs.take (j + 1)).filter q = (xs.take j).filter q := by rw [kept_take q xs j x hx]; simp [hq]
  exact ⟨h.size, by rw [e]; exact h.len, by rw [e]; exact h.low, fun m y hm hy => h.high m y (by omega) hy⟩
theorem Kp.keep (h : Kp mk q xs cap i j dk) (x : α) (hx : xs[j]? = some x) (hq : q x = true) (hij : i < j + 1) (hc : i < cap) : Kp mk q xs cap (i + 1) (j + 1) (dk.setIfInBounds i (mk x)) := by
  have e : (xs.take (j + 1)).filter q = (xs.take j).filter q ++ [x] := by rw [kept_take q xs j x hx]; simp [hq]
  refine ⟨by simpa using h.size, by rw [e]; simp [h.len], ?_, ?_⟩
  · intro m y hm
    rw [e] at hm
    by_cases hmi : m < i
    · rw [List.getElem?_append_left (by rw [h.len]; exact hmi)] at hm
      rw [Array.getElem?_setIfInBounds_ne (by omega)]
      exact h.low m y hm
    · rw [List.getElem?_append_right (by rw [h.len]; omega), h.len] at hm
      by_cases hme : m = i
      · subst hme
        simp at hm
        subst hm
        rw [Array.getElem?_setIfInBounds_self_of_lt (by rw [h.size]; exact hc)]
      · rw [List.getElem?_eq_none (by simp; omega)] at hm
        cases hm
  · intro m y hm hy
    rw [Array.getElem?_setIfInBounds_ne (by omega)]
    exact h.high m y (by omega) hy
end
theorem take_map {α : Type} (mk : α → Value) (dk : Array Value) (ys : List α) (n : Nat) (hn : ys.length = n) (h : ∀ (m : Nat) x, ys[m]? = some x → dk[m]? = some (mk x)) : dk.toList.take (n * 1) = ys.map mk := by
  apply List.ext_getElem?
  intro m
  rw [List.getElem?_map, Nat.mul_one]
  by_cases hm : m < n
  · rw [List.getElem?_take_of_lt hm]
    have hx : ys[m]? = some (ys[m]'(by omega)) := List.getElem?_eq_getElem _
    rw [hx]
    simpa using h m _ hx
  · rw [List.getElem?_take_eq_none (by omega), List.getElem?_eq_none (by omega)]
    rfl

theorem info_i : (Try.prog.info? 3).map (fun i => (i.zero, i.size, i.bytes)) = some (some (.int .i64 0), 1, 8) := by kernel_rfl
theorem run_app_i (w : World) (ty base : Nat) (v : Value) (n : Nat) (ys : List Int) (hown : w.ownsRow base 3 1 v n (ys.map mki)) (A : Option Addr) (m c : Nat) (xs : List Int) (sl : Sv mki w A m c xs) (hb : n + m ≤ 65536) (hbase : base ≤ w.heap.size) :
    ∃ v' w', (Builtin.append_ #[22, 22] ty #[v, .slice A m c]).run Try.prog w = .ok v' w' ∧ w'.ownsRow base 3 1 v' (n + m) ((ys ++ xs).map mki) ∧ w.grownBy w' v.ownBlock ∧ (v'.ownBlock = v.ownBlock ∨ v'.ownBlock = some w.heap.size) := by
  obtain ⟨i0, hi0, hz0, hz1, hz2⟩ := info_parts info_i
  obtain ⟨h1, h2, h3, h4⟩ := sl
  rw [List.map_append]
  rcases A with _ | ad
  · have hm : m = 0 := by
      rcases h4 with h | ⟨b, off, h, _⟩
      · exact h
      · cases h
    subst hm
    obtain rfl : xs = [] := List.eq_nil_of_length_eq_zero h1.symm
    refine ⟨v, w, ?_, by simpa using hown, World.grownBy.refl w _, .inl rfl⟩
    rcases hown.2 with ⟨rfl, rfl⟩ | ⟨g, cap, cur, rfl, _, _, hnc, _⟩
    · simp [Builtin.append_, run_underlying Try.underlying22, sizeOf, typeInfo, hi0, Builtin.lenOf, Builtin.firstCells]
    · simp [Builtin.append_, run_underlying Try.underlying22, sizeOf, typeInfo, hi0, Builtin.lenOf, Builtin.firstCells, hnc, storeCells]
  · obtain ⟨v', w', hrun, k2, k3, _, k5⟩ := run_append_own_at (P := Try.prog) w base 22 ty 3 i0 _ 1 8 Try.underlying22 hi0 hz0 hz1 hz2 rfl (by omega) v n _ hown ad m c (xs.map mki) (by simp [h1]) (fun j u hu => by
        rcases h4 with rfl | ⟨b, off, he, _, hr⟩
        · obtain rfl : xs = [] := List.eq_nil_of_length_eq_zero h1.symm
          simp at hu
        · injection he with he
          subst he
          rw [addr_add]
          rw [List.getElem?_map] at hu
          obtain ⟨x, hx, rfl⟩ := Option.map_eq_some_iff.1 hu
          exact hr j x hx) (fun u hu => by
        obtain ⟨x, _, rfl⟩ := List.mem_map.1 hu
        rfl) (by simp only [maxLen]; omega) (by omega) hbase
    exact ⟨v', w', hrun, k2, k3, k5⟩
theorem wp_app_i {ops : Array Oper} {rest : List Oper} {o : Oper} {a : Act} {Q : Exit → Act → World → Prop} (w : World) (hgd : o.guard = none) (s x : Operand)
    (ho : o.op = .call { callee := .builtin .append, args := #[s, x], argTypes := #[22, 22] })
    (base : Nat) (v : Value) (n : Nat) (ys : List Int) (hs : a.eval s = v) (hown : w.ownsRow base 3 1 v n (ys.map mki)) (A : Option Addr) (m c : Nat) (xs : List Int) (hx : a.eval x = .slice A m c) (sl : Sv mki w A m c xs) (hb : n + m ≤ 65536) (hbase : base ≤ w.heap.size)
    (h : ∀ v' w', w'.ownsRow base 3 1 v' (n + m) ((ys ++ xs).map mki) → w.grownBy w' v.ownBlock → (v'.ownBlock = v.ownBlock ∨ v'.ownBlock = some w.heap.size) → wpList Try.prog ops Q rest (a.put o.dst v') w') : wpList Try.prog ops Q (o :: rest) a w := by
  refine wpList_plain hgd fun _ hK => ?_
  obtain ⟨v', w', hrun, h2, h3, h4⟩ := run_app_i w o.type base v n ys hown A m c xs sl hb hbase
  unfold Oper.wp execOp
  simp only [ho, resolve, invoke, builtin, Sem.run_bind, Sem.run_pure, Result.andThen_ok, List.map_toArray, List.map_cons, List.map_nil, hs, hx, hrun]
  exact hK _ _ (h v' w' h2 h3 h4)

theorem clone_i {A : Option Addr} {n c : Nat} {xs : List Int} {w : World} (h : Sv mki w A n c xs) :
    Calls Try.prog 26 #[.slice A n c] w fun e w' => ∃ v, e = .returned v ∧ w'.ownsRow w.heap.size 3 1 v n (xs.map mki) ∧ Below w.heap.size w w' := by
  rcases A with _ | ad
  · have hn : n = 0 := by
      rcases h.2.2.2 with h | ⟨b, off, h, _⟩
      · exact h
      · cases h
    subst hn
    obtain rfl : xs = [] := List.eq_nil_of_length_eq_zero h.1.symm
    clear h
    have hnil : ∀ w, (binOp .eql 22 (.slice none 0 c) (.slice none 0 0)).run Try.prog w = .ok (.bool true) w := fun w => Lib.run_eql_slice_nil w 22 3 none 0 c 0 0 Try.underlying22
    go_enter Try.func26, Try.ntmps26
    go_wp2
    go_ret
    exact ⟨_, rfl, ⟨by simp, .inl ⟨rfl, rfl⟩⟩, Below.refl _ _⟩
  · have hn := h.2.2.1
    have hnil : ∀ w, (binOp .eql 22 (.slice (some ad) n c) (.slice none 0 0)).run Try.prog w = .ok (.bool false) w := fun w => Lib.run_eql_slice_nil w 22 3 (some ad) n c 0 0 Try.underlying22
    have b0 : Below w.heap.size w (w.alloc (.cells #[] 3)) := (Below.refl _ _).alloc (Nat.le_refl _) _
    have S1 := Lib.hid (h.below b0)
    have O1 : Hid ((w.alloc (.cells #[] 3)).ownsRow w.heap.size 3 1 (.slice (some ⟨w.heap.size, 0, none⟩) 0 0) 0 (([] : List Int).map mki)) :=
      Lib.hid ⟨by simp, .inr ⟨w.heap.size, 0, #[], rfl, Nat.le_refl _, heap_alloc_new w _, by omega, by simp [maxLen], by simp, by simp⟩⟩
    clear h
    go_enter Try.func26, Try.ntmps26
    go_wp2_with (first
      | (at_builtin
         refine wp_app_i _ rfl (.tmp 5) (.tmp 6) rfl w.heap.size (.slice (some ⟨w.heap.size, 0, none⟩) 0 0) 0 [] rfl O1.out (some ad) n c xs rfl S1.out (by omega) (by simp) ?_
         intro v' w' own g1 at1
         have hb1 : Below w.heap.size w w' := b0.grown g1 (by simp) (by simp [Value.ownBlock])
         have own := Lib.hid own
         clear g1 at1))
    go_ret
    exact ⟨_, rfl, by have := own.out; simpa using this, hb1⟩

theorem zero_i (w : World) : (zeroValue 3).run Try.prog w = .ok (.int .i64 0) w := by
  obtain ⟨i0, hi0, hz0, _, _⟩ := info_parts info_i
  simp [zeroValue, typeInfo, hi0, hz0]

set_option maxHeartbeats 2000000 in
theorem delf_same_i (v : Value) (n : Nat) (A : Option Addr) (c : Nat) (hv : v = .slice A n c) (w : World) (k : Int) (g : Nat) (F : Calls Try.prog 34 #[.slice A n c, .func (.func 28) #[] #[.pointer (some ⟨g, 0, none⟩)]] w fun e w' => e = .returned (.int .i64 (-1)) ∧ w = w') :
    Calls Try.prog 27 #[.slice A n c, .func (.func 28) #[] #[.pointer (some ⟨g, 0, none⟩)]] w fun e w' => e = .returned v ∧ w = w' := by
  subst hv
  go_enter Try.func27, Try.ntmps27
  go_wp2_with fail
  refine F.mono ?_
  rintro e w1 ⟨rfl, rfl⟩
  go_wp2_with fail
  go_ret
  exact ⟨rfl, rfl⟩

set_option maxHeartbeats 4000000 in
theorem delf_more_i (n cap gb i0 : Nat) (xs : List Int) (HN : Hid (n = xs.length)) (hn : n ≤ 65536) (hc : n ≤ cap) (hm : cap ≤ maxLen) (base : Nat) (hb : base ≤ gb) (cur : Array Value) (w : World) (B : Blk w gb 3 cur) (k : Int) (g : Nat) (hg : g < base) (hk : Hid (w.cell? ⟨g, 0, none⟩ = some (.int .i64 k)))
    (hi : i0 < n) (K0 : Hid (Kp mki (fun x => !decide (x = k)) xs cap i0 (i0 + 1) cur))
    (F : Calls Try.prog 34 #[.slice (some ⟨gb, 0, none⟩) n cap, .func (.func 28) #[] #[.pointer (some ⟨g, 0, none⟩)]] w fun e w' => e = .returned (.int .i64 (i0 : Int)) ∧ w = w') :
    Calls Try.prog 27 #[.slice (some ⟨gb, 0, none⟩) n cap, .func (.func 28) #[] #[.pointer (some ⟨g, 0, none⟩)]] w fun e w' => ∃ v, e = .returned v ∧ w'.ownsRow base 3 1 v (xs.filter (fun x => !decide (x = k))).length ((xs.filter (fun x => !decide (x = k))).map mki) ∧ Below base w w' := by
  have e0 : ((i0 : Int) == -1) = false := beq_false_of_ne (by omega)
  have hmx : maxLen = 9223372036854775807 := rfl
  go_enter Try.func27, Try.ntmps27
  go_wp2_with fail
  refine F.mono ?_
  clear F
  rintro e w1 ⟨rfl, rfl⟩
  go_wp2_with fail
  go_loopw [5, 6, 7] (fun s5 s6 _ wr => ∃ (i j : Nat) (dk : Array Value), s5 = .int .i64 (i : Int) ∧ s6 = .int .i64 (j : Int) ∧ j ≤ n ∧ i < j ∧ Blk wr gb 3 dk ∧ Hid (Kp mki (fun x => !decide (x = k)) xs cap i j dk) ∧ Below base w wr) (fun _ s6 _ _ => n - (intOf s6).toNat)
  case atStart => exact ⟨i0, i0 + 1, cur, rfl, by go_num, by omega, by omega, B, K0, Below.refl _ _⟩
  case round =>
    obtain ⟨i, j, dk, rfl, rfl, hjn, hij, Bk, Kk, hbr⟩ := hrel
    have hgc : Hid (wr.cell? ⟨g, 0, none⟩ = some (.int .i64 k)) := Lib.hid ((hbr.cell (p := ⟨g, 0, none⟩) hg).trans hk.out)
    have fz := Bk.frozen
    obtain ⟨old, ho⟩ : ∃ old, dk[i]? = some old := ⟨dk[i]'(by have := Kk.out.size; omega), Array.getElem?_eq_getElem _⟩
    have co : wr.cell? ⟨gb, i, none⟩ = some old := (Bk.cell i).trans ho
    clear ho
    by_cases hlt : j < n
    · obtain ⟨x, hx⟩ : ∃ x, xs[j]? = some x := ⟨xs[j]'(by have := HN.out; omega), List.getElem?_eq_getElem _⟩
      have cj : wr.cell? ⟨gb, j, none⟩ = some (.int .i64 x) := (Bk.cell j).trans (Kk.out.high j x (Nat.le_refl _) hx)
      have hx := Lib.hid hx
      have O := clo_i x k g wr hgc.out
      by_cases ht : decide (x = k) = true
      · have Kn := Lib.hid (Kk.out.skip x hx.out (by rw [ht]; rfl))
        rw [ht] at O
        clear ht
        go_wp2_with fail
        refine O.mono ?_
        rintro e x1 ⟨rfl, rfl⟩
        go_wp2_with fail
        go_roundw
        case rel => exact ⟨i, j + 1, dk, rfl, by go_num, by omega, by omega, Bk, Kn, hbr⟩
        case measure => simp [intOf]; omega
      · have hf : decide (x = k) = false := by simpa using ht
        have Kn := Lib.hid (Kk.out.keep x hx.out (by rw [hf]; rfl) (by omega) (by omega))
        rw [hf] at O
        clear hf ht
        go_wp2_with fail
        refine O.mono ?_
        rintro e x1 ⟨rfl, rfl⟩
        go_wp2_with fail
        go_roundw
        case rel => exact ⟨i + 1, j + 1, _, by go_num, by go_num, by omega, by omega, Bk.put i _, Kn, hbr.setCell (p := ⟨gb, i, none⟩) hb _⟩
        case measure => simp [intOf]; omega
    · obtain rfl : j = n := by omega
      have hci : ¬ cap = i := by omega
      have hcl : ∀ ty, (Builtin.clear_ #[22] ty #[.slice (some ⟨gb, i, none⟩) (j - i) (cap - i)]).run Try.prog wr = .ok (.tuple #[]) (wr.setCells gb i (List.replicate (j - i) (.int .i64 0))) :=
        fun ty => Lib.run_clear_slice wr 22 3 ty _ Try.underlying22 zero_i rfl rfl gb i _ _ (by omega) (fun t ht => by
          rw [Bk.cell, Array.getElem?_eq_getElem (by have := Kk.out.size; omega)]; rfl) (fun t ht => Bk.frozen _)
      obtain ⟨cs', p1, p2, p3, p4⟩ := Blk.puts hb (List.replicate (j - i) (.int .i64 0)) i wr dk Bk
      have hfin : Hid ((wr.setCells gb i (List.replicate (j - i) (.int .i64 0))).ownsRow base 3 1 (.slice (some ⟨gb, 0, none⟩) i cap) (xs.filter (fun x => !decide (x = k))).length ((xs.filter (fun x => !decide (x = k))).map mki)) := by
        have hte : xs.take j = xs := List.take_of_length_le (by have := HN.out; omega)
        have hl := Kk.out.len
        have hlow := Kk.out.low
        rw [hte] at hl hlow
        refine Lib.hid ⟨by simp, .inr ⟨gb, cap, cs', by rw [hl], hb, p1, by omega, hm, by rw [p2, Kk.out.size]; simp, take_map mki cs' _ _ rfl (fun m x hx => ?_)⟩⟩
        have : m < i := by have := (List.getElem?_eq_some_iff.1 hx).1; omega
        rw [p3 m this]
        exact hlow m x hx
      have hbf := hbr.trans p4
      clear p1 p2 p3 p4
      go_wp2_with fail
      go_ret
      exact ⟨_, rfl, hfin.out, hbf⟩

theorem delf_i (base n : Nat) (v : Value) (xs : List Int) (w : World) (own : w.ownsRow base 3 1 v n (xs.map mki)) (hn : n ≤ 65536) (k : Int) (g : Nat) (hg : g < base) (hk : w.cell? ⟨g, 0, none⟩ = some (.int .i64 k)) :
    Calls Try.prog 27 #[v, .func (.func 28) #[] #[.pointer (some ⟨g, 0, none⟩)]] w fun e w' => ∃ v', e = .returned v' ∧ w'.ownsRow base 3 1 v' (xs.filter (fun x => !decide (x = k))).length ((xs.filter (fun x => !decide (x = k))).map mki) ∧ Below base w w' := by
  obtain ⟨A, c, rfl, sl⟩ := sv_own own hn
  have hN := sl.1
  by_cases hi : Ix (fun x => decide (x = k)) xs < 0
  · have he : Ix (fun x => decide (x = k)) xs = -1 := by have := (Ix_ge (p := (fun x => decide (x = k))) xs).1; omega
    have hk0 : xs.filter (fun x => !decide (x = k)) = xs := kept_all _ _ (fun j y hy => by have := Ix_neg xs hi j y hy; simpa using this)
    rw [hk0, ← hN]
    have F := idxf_i k g sl hk
    rw [he] at F
    refine (delf_same_i _ n A c rfl w k g F).mono ?_
    rintro e w' ⟨rfl, rfl⟩
    exact ⟨_, rfl, own, Below.refl _ _⟩
  · obtain ⟨x, hx, hpx⟩ := Ix_get (p := (fun x => decide (x = k))) xs (by omega)
    have hlt := (List.getElem?_eq_some_iff.1 hx).1
    have F := idxf_i k g sl hk
    rw [show Ix (fun x => decide (x = k)) xs = ((Ix (fun x => decide (x = k)) xs).toNat : Int) by omega] at F
    have hpre : ∀ (j : Nat) y, j < (Ix (fun x => decide (x = k)) xs).toNat → xs[j]? = some y → (!decide (y = k)) = true := fun j y hj hy => by
      have := Ix_lt (p := (fun x => decide (x = k))) xs j y (by omega) hy
      simpa using this
    generalize (Ix (fun x => decide (x = k)) xs).toNat = i0 at *
    rcases own.2 with ⟨h, h0⟩ | ⟨gb, cap, cur, h, hb, hh, hnc, hm, hs, ht⟩
    · omega
    · injection h with h1 h2 h3
      subst h1
      subst h3
      refine delf_more_i n c gb i0 xs (Lib.hid hN) hn hnc hm base hb cur w hh k g hg (Lib.hid hk) (by omega) (Lib.hid ?_) F
      have hcur : ∀ (m : Nat) y, xs[m]? = some y → cur[m]? = some (mki y) := fun m y hy => by
        have hml := (List.getElem?_eq_some_iff.1 hy).1
        have h5 : (cur.toList.take (n * 1))[m]? = some (mki y) := by rw [ht, List.getElem?_map, hy]; rfl
        rw [List.getElem?_take_of_lt (by omega)] at h5
        simpa using h5
      have e1 : (xs.take (i0 + 1)).filter (fun x => !decide (x = k)) = xs.take i0 := by
        rw [kept_take _ xs i0 x hx, kept_pre _ xs i0 hpre]
        have : (!decide (x = k)) = false := by rw [hpx]; rfl
        simp [this]
      refine ⟨by omega, by rw [e1]; simp; omega, ?_, fun m y _ hy => hcur m y hy⟩
      rw [e1]
      intro m y hy
      by_cases hmi : m < i0
      · rw [List.getElem?_take_of_lt hmi] at hy; exact hcur m y hy
      · rw [List.getElem?_take_eq_none (by omega)] at hy; cases hy

theorem info_s : (Try.prog.info? 9).map (fun i => (i.zero, i.size, i.bytes)) = some (some (.string ⟨#[]⟩), 1, 16) := by kernel_rfl
theorem run_app_s (w : World) (ty base : Nat) (v : Value) (n : Nat) (ys : List ByteArray) (hown : w.ownsRow base 9 1 v n (ys.map mks)) (A : Option Addr) (m c : Nat) (xs : List ByteArray) (sl : Sv mks w A m c xs) (hb : n + m ≤ 65536) (hbase : base ≤ w.heap.size) :
    ∃ v' w', (Builtin.append_ #[23, 23] ty #[v, .slice A m c]).run Try.prog w = .ok v' w' ∧ w'.ownsRow base 9 1 v' (n + m) ((ys ++ xs).map mks) ∧ w.grownBy w' v.ownBlock ∧ (v'.ownBlock = v.ownBlock ∨ v'.ownBlock = some w.heap.size) := by
  obtain ⟨i0, hi0, hz0, hz1, hz2⟩ := info_parts info_s
  obtain ⟨h1, h2, h3, h4⟩ := sl
  rw [List.map_append]
  rcases A with _ | ad
  · have hm : m = 0 := by
      rcases h4 with h | ⟨b, off, h, _⟩
      · exact h
      · cases h
    subst hm
    obtain rfl : xs = [] := List.eq_nil_of_length_eq_zero h1.symm
    refine ⟨v, w, ?_, by simpa using hown, World.grownBy.refl w _, .inl rfl⟩
    rcases hown.2 with ⟨rfl, rfl⟩ | ⟨g, cap, cur, rfl, _, _, hnc, _⟩
    · simp [Builtin.append_, run_underlying Try.underlying23, sizeOf, typeInfo, hi0, Builtin.lenOf, Builtin.firstCells]
    · simp [Builtin.append_, run_underlying Try.underlying23, sizeOf, typeInfo, hi0, Builtin.lenOf, Builtin.firstCells, hnc, storeCells]
  · obtain ⟨v', w', hrun, k2, k3, _, k5⟩ := run_append_own_at (P := Try.prog) w base 23 ty 9 i0 _ 1 16 Try.underlying23 hi0 hz0 hz1 hz2 rfl (by omega) v n _ hown ad m c (xs.map mks) (by simp [h1]) (fun j u hu => by
        rcases h4 with rfl | ⟨b, off, he, _, hr⟩
        · obtain rfl : xs = [] := List.eq_nil_of_length_eq_zero h1.symm
          simp at hu
        · injection he with he
          subst he
          rw [addr_add]
          rw [List.getElem?_map] at hu
          obtain ⟨x, hx, rfl⟩ := Option.map_eq_some_iff.1 hu
          exact hr j x hx) (fun u hu => by
        obtain ⟨x, _, rfl⟩ := List.mem_map.1 hu
        rfl) (by simp only [maxLen]; omega) (by omega) hbase
    exact ⟨v', w', hrun, k2, k3, k5⟩
theorem wp_app_s {ops : Array Oper} {rest : List Oper} {o : Oper} {a : Act} {Q : Exit → Act → World → Prop} (w : World) (hgd : o.guard = none) (s x : Operand)
    (ho : o.op = .call { callee := .builtin .append, args := #[s, x], argTypes := #[23, 23] })
    (base : Nat) (v : Value) (n : Nat) (ys : List ByteArray) (hs : a.eval s = v) (hown : w.ownsRow base 9 1 v n (ys.map mks)) (A : Option Addr) (m c : Nat) (xs : List ByteArray) (hx : a.eval x = .slice A m c) (sl : Sv mks w A m c xs) (hb : n + m ≤ 65536) (hbase : base ≤ w.heap.size)
    (h : ∀ v' w', w'.ownsRow base 9 1 v' (n + m) ((ys ++ xs).map mks) → w.grownBy w' v.ownBlock → (v'.ownBlock = v.ownBlock ∨ v'.ownBlock = some w.heap.size) → wpList Try.prog ops Q rest (a.put o.dst v') w') : wpList Try.prog ops Q (o :: rest) a w := by
  refine wpList_plain hgd fun _ hK => ?_
  obtain ⟨v', w', hrun, h2, h3, h4⟩ := run_app_s w o.type base v n ys hown A m c xs sl hb hbase
  unfold Oper.wp execOp
  simp only [ho, resolve, invoke, builtin, Sem.run_bind, Sem.run_pure, Result.andThen_ok, List.map_toArray, List.map_cons, List.map_nil, hs, hx, hrun]
  exact hK _ _ (h v' w' h2 h3 h4)

theorem clone_s {A : Option Addr} {n c : Nat} {xs : List ByteArray} {w : World} (h : Sv mks w A n c xs) :
    Calls Try.prog 32 #[.slice A n c] w fun e w' => ∃ v, e = .returned v ∧ w'.ownsRow w.heap.size 9 1 v n (xs.map mks) ∧ Below w.heap.size w w' := by
  rcases A with _ | ad
  · have hn : n = 0 := by
      rcases h.2.2.2 with h | ⟨b, off, h, _⟩
      · exact h
      · cases h
    subst hn
    obtain rfl : xs = [] := List.eq_nil_of_length_eq_zero h.1.symm
    clear h
    have hnil : ∀ w, (binOp .eql 23 (.slice none 0 c) (.slice none 0 0)).run Try.prog w = .ok (.bool true) w := fun w => Lib.run_eql_slice_nil w 23 9 none 0 c 0 0 Try.underlying23
    go_enter Try.func32, Try.ntmps32
    go_wp2
    go_ret
    exact ⟨_, rfl, ⟨by simp, .inl ⟨rfl, rfl⟩⟩, Below.refl _ _⟩
  · have hn := h.2.2.1
    have hnil : ∀ w, (binOp .eql 23 (.slice (some ad) n c) (.slice none 0 0)).run Try.prog w = .ok (.bool false) w := fun w => Lib.run_eql_slice_nil w 23 9 (some ad) n c 0 0 Try.underlying23
    have b0 : Below w.heap.size w (w.alloc (.cells #[] 9)) := (Below.refl _ _).alloc (Nat.le_refl _) _
    have S1 := Lib.hid (h.below b0)
    have O1 : Hid ((w.alloc (.cells #[] 9)).ownsRow w.heap.size 9 1 (.slice (some ⟨w.heap.size, 0, none⟩) 0 0) 0 (([] : List ByteArray).map mks)) :=
      Lib.hid ⟨by simp, .inr ⟨w.heap.size, 0, #[], rfl, Nat.le_refl _, heap_alloc_new w _, by omega, by simp [maxLen], by simp, by simp⟩⟩
    clear h
    go_enter Try.func32, Try.ntmps32
    go_wp2_with (first
      | (at_builtin
         refine wp_app_s _ rfl (.tmp 5) (.tmp 6) rfl w.heap.size (.slice (some ⟨w.heap.size, 0, none⟩) 0 0) 0 [] rfl O1.out (some ad) n c xs rfl S1.out (by omega) (by simp) ?_
         intro v' w' own g1 at1
         have hb1 : Below w.heap.size w w' := b0.grown g1 (by simp) (by simp [Value.ownBlock])
         have own := Lib.hid own
         clear g1 at1))
    go_ret
    exact ⟨_, rfl, by have := own.out; simpa using this, hb1⟩

theorem zero_s (w : World) : (zeroValue 9).run Try.prog w = .ok (.string ⟨#[]⟩) w := by
  obtain ⟨i0, hi0, hz0, _, _⟩ := info_parts info_s
  simp [zeroValue, typeInfo, hi0, hz0]

set_option maxHeartbeats 2000000 in
theorem delf_same_s (v : Value) (n : Nat) (A : Option Addr) (c : Nat) (hv : v = .slice A n c) (w : World) (k : ByteArray) (g : Nat) (F : Calls Try.prog 37 #[.slice A n c, .func (.func 33) #[] #[.pointer (some ⟨g, 0, none⟩)]] w fun e w' => e = .returned (.int .i64 (-1)) ∧ w = w') :
    Calls Try.prog 31 #[.slice A n c, .func (.func 33) #[] #[.pointer (some ⟨g, 0, none⟩)]] w fun e w' => e = .returned v ∧ w = w' := by
  subst hv
  go_enter Try.func31, Try.ntmps31
  go_wp2_with fail
  refine F.mono ?_
  rintro e w1 ⟨rfl, rfl⟩
  go_wp2_with fail
  go_ret
  exact ⟨rfl, rfl⟩

set_option maxHeartbeats 4000000 in
theorem delf_more_s (n cap gb i0 : Nat) (xs : List ByteArray) (HN : Hid (n = xs.length)) (hn : n ≤ 65536) (hc : n ≤ cap) (hm : cap ≤ maxLen) (base : Nat) (hb : base ≤ gb) (cur : Array Value) (w : World) (B : Blk w gb 9 cur) (k : ByteArray) (g : Nat) (hg : g < base) (hk : Hid (w.cell? ⟨g, 0, none⟩ = some (.string k)))
    (hi : i0 < n) (K0 : Hid (Kp mks (fun x => !decide (x = k)) xs cap i0 (i0 + 1) cur))
    (F : Calls Try.prog 37 #[.slice (some ⟨gb, 0, none⟩) n cap, .func (.func 33) #[] #[.pointer (some ⟨g, 0, none⟩)]] w fun e w' => e = .returned (.int .i64 (i0 : Int)) ∧ w = w') :
    Calls Try.prog 31 #[.slice (some ⟨gb, 0, none⟩) n cap, .func (.func 33) #[] #[.pointer (some ⟨g, 0, none⟩)]] w fun e w' => ∃ v, e = .returned v ∧ w'.ownsRow base 9 1 v (xs.filter (fun x => !decide (x = k))).length ((xs.filter (fun x => !decide (x = k))).map mks) ∧ Below base w w' := by
  have e0 : ((i0 : Int) == -1) = false := beq_false_of_ne (by omega)
  have hmx : maxLen = 9223372036854775807 := rfl
  go_enter Try.func31, Try.ntmps31
  go_wp2_with fail
  refine F.mono ?_
  clear F
  rintro e w1 ⟨rfl, rfl⟩
  go_wp2_with fail
  go_loopw [5, 6, 7] (fun s5 s6 _ wr => ∃ (i j : Nat) (dk : Array Value), s5 = .int .i64 (i : Int) ∧ s6 = .int .i64 (j : Int) ∧ j ≤ n ∧ i < j ∧ Blk wr gb 9 dk ∧ Hid (Kp mks (fun x => !decide (x = k)) xs cap i j dk) ∧ Below base w wr) (fun _ s6 _ _ => n - (intOf s6).toNat)
  case atStart => exact ⟨i0, i0 + 1, cur, rfl, by go_num, by omega, by omega, B, K0, Below.refl _ _⟩
  case round =>
    obtain ⟨i, j, dk, rfl, rfl, hjn, hij, Bk, Kk, hbr⟩ := hrel
    have hgc : Hid (wr.cell? ⟨g, 0, none⟩ = some (.string k)) := Lib.hid ((hbr.cell (p := ⟨g, 0, none⟩) hg).trans hk.out)
    have fz := Bk.frozen
    obtain ⟨old, ho⟩ : ∃ old, dk[i]? = some old := ⟨dk[i]'(by have := Kk.out.size; omega), Array.getElem?_eq_getElem _⟩
    have co : wr.cell? ⟨gb, i, none⟩ = some old := (Bk.cell i).trans ho
    clear ho
    by_cases hlt : j < n
    · obtain ⟨x, hx⟩ : ∃ x, xs[j]? = some x := ⟨xs[j]'(by have := HN.out; omega), List.getElem?_eq_getElem _⟩
      have cj : wr.cell? ⟨gb, j, none⟩ = some (.string x) := (Bk.cell j).trans (Kk.out.high j x (Nat.le_refl _) hx)
      have hx := Lib.hid hx
      have O := clo_s x k g wr hgc.out
      by_cases ht : decide (x = k) = true
      · have Kn := Lib.hid (Kk.out.skip x hx.out (by rw [ht]; rfl))
        rw [ht] at O
        clear ht
        go_wp2_with fail
        refine O.mono ?_
        rintro e x1 ⟨rfl, rfl⟩
        go_wp2_with fail
        go_roundw
        case rel => exact ⟨i, j + 1, dk, rfl, by go_num, by omega, by omega, Bk, Kn, hbr⟩
        case measure => simp [intOf]; omega
      · have hf : decide (x = k) = false := by simpa using ht
        have Kn := Lib.hid (Kk.out.keep x hx.out (by rw [hf]; rfl) (by omega) (by omega))
        rw [hf] at O
        clear hf ht
        go_wp2_with fail
        refine O.mono ?_
        rintro e x1 ⟨rfl, rfl⟩
        go_wp2_with fail
        go_roundw
        case rel => exact ⟨i + 1, j + 1, _, by go_num, by go_num, by omega, by omega, Bk.put i _, Kn, hbr.setCell (p := ⟨gb, i, none⟩) hb _⟩
        case measure => simp [intOf]; omega
    · obtain rfl : j = n := by omega
      have hci : ¬ cap = i := by omega
      have hcl : ∀ ty, (Builtin.clear_ #[23] ty #[.slice (some ⟨gb, i, none⟩) (j - i) (cap - i)]).run Try.prog wr = .ok (.tuple #[]) (wr.setCells gb i (List.replicate (j - i) (.string ⟨#[]⟩))) :=
        fun ty => Lib.run_clear_slice wr 23 9 ty _ Try.underlying23 zero_s rfl rfl gb i _ _ (by omega) (fun t ht => by
          rw [Bk.cell, Array.getElem?_eq_getElem (by have := Kk.out.size; omega)]; rfl) (fun t ht => Bk.frozen _)
      obtain ⟨cs', p1, p2, p3, p4⟩ := Blk.puts hb (List.replicate (j - i) (.string ⟨#[]⟩)) i wr dk Bk
      have hfin : Hid ((wr.setCells gb i (List.replicate (j - i) (.string ⟨#[]⟩))).ownsRow base 9 1 (.slice (some ⟨gb, 0, none⟩) i cap) (xs.filter (fun x => !decide (x = k))).length ((xs.filter (fun x => !decide (x = k))).map mks)) := by
        have hte : xs.take j = xs := List.take_of_length_le (by have := HN.out; omega)
        have hl := Kk.out.len
        have hlow := Kk.out.low
        rw [hte] at hl hlow
        refine Lib.hid ⟨by simp, .inr ⟨gb, cap, cs', by rw [hl], hb, p1, by omega, hm, by rw [p2, Kk.out.size]; simp, take_map mks cs' _ _ rfl (fun m x hx => ?_)⟩⟩
        have : m < i := by have := (List.getElem?_eq_some_iff.1 hx).1; omega
        rw [p3 m this]
        exact hlow m x hx
      have hbf := hbr.trans p4
      clear p1 p2 p3 p4
      go_wp2_with fail
      go_ret
      exact ⟨_, rfl, hfin.out, hbf⟩

theorem delf_s (base n : Nat) (v : Value) (xs : List ByteArray) (w : World) (own : w.ownsRow base 9 1 v n (xs.map mks)) (hn : n ≤ 65536) (k : ByteArray) (g : Nat) (hg : g < base) (hk : w.cell? ⟨g, 0, none⟩ = some (.string k)) :
    Calls Try.prog 31 #[v, .func (.func 33) #[] #[.pointer (some ⟨g, 0, none⟩)]] w fun e w' => ∃ v', e = .returned v' ∧ w'.ownsRow base 9 1 v' (xs.filter (fun x => !decide (x = k))).length ((xs.filter (fun x => !decide (x = k))).map mks) ∧ Below base w w' := by
  obtain ⟨A, c, rfl, sl⟩ := sv_own own hn
  have hN := sl.1
  by_cases hi : Ix (fun x => decide (x = k)) xs < 0
  · have he : Ix (fun x => decide (x = k)) xs = -1 := by have := (Ix_ge (p := (fun x => decide (x = k))) xs).1; omega
    have hk0 : xs.filter (fun x => !decide (x = k)) = xs := kept_all _ _ (fun j y hy => by have := Ix_neg xs hi j y hy; simpa using this)
    rw [hk0, ← hN]
    have F := idxf_s k g sl hk
    rw [he] at F
    refine (delf_same_s _ n A c rfl w k g F).mono ?_
    rintro e w' ⟨rfl, rfl⟩
    exact ⟨_, rfl, own, Below.refl _ _⟩
  · obtain ⟨x, hx, hpx⟩ := Ix_get (p := (fun x => decide (x = k))) xs (by omega)
    have hlt := (List.getElem?_eq_some_iff.1 hx).1
    have F := idxf_s k g sl hk
    rw [show Ix (fun x => decide (x = k)) xs = ((Ix (fun x => decide (x = k)) xs).toNat : Int) by omega] at F
    have hpre : ∀ (j : Nat) y, j < (Ix (fun x => decide (x = k)) xs).toNat → xs[j]? = some y → (!decide (y = k)) = true := fun j y hj hy => by
      have := Ix_lt (p := (fun x => decide (x = k))) xs j y (by omega) hy
      simpa using this
    generalize (Ix (fun x => decide (x = k)) xs).toNat = i0 at *
    rcases own.2 with ⟨h, h0⟩ | ⟨gb, cap, cur, h, hb, hh, hnc, hm, hs, ht⟩
    · omega
    · injection h with h1 h2 h3
      subst h1
      subst h3
      refine delf_more_s n c gb i0 xs (Lib.hid hN) hn hnc hm base hb cur w hh k g hg (Lib.hid hk) (by omega) (Lib.hid ?_) F
      have hcur : ∀ (m : Nat) y, xs[m]? = some y → cur[m]? = some (mks y) := fun m y hy => by
        have hml := (List.getElem?_eq_some_iff.1 hy).1
        have h5 : (cur.toList.take (n * 1))[m]? = some (mks y) := by rw [ht, List.getElem?_map, hy]; rfl
        rw [List.getElem?_take_of_lt (by omega)] at h5
        simpa using h5
      have e1 : (xs.take (i0 + 1)).filter (fun x => !decide (x = k)) = xs.take i0 := by
        rw [kept_take _ xs i0 x hx, kept_pre _ xs i0 hpre]
        have : (!decide (x = k)) = false := by rw [hpx]; rfl
        simp [this]
      refine ⟨by omega, by rw [e1]; simp; omega, ?_, fun m y _ hy => hcur m y hy⟩
      rw [e1]
      intro m y hy
      by_cases hmi : m < i0
      · rw [List.getElem?_take_of_lt hmi] at hy; exact hcur m y hy
      · rw [List.getElem?_take_eq_none (by omega)] at hy; cases hy

end Go.Proofs.Ytiblkhohlfnhnaa.Lb
