/- The address of a slice's row; bytes taken as a text. -/
import Derived.Test.YtddbhljljmijcaaGreatRl
namespace Go.Proofs.YtddbhljljmijcaaGreat.V
open Go.RowKit
set_option linter.unusedVariables false
set_option linter.unusedSimpArgs false
variable {P : Program}

noncomputable def xusd (v : At) (k : At → Bool) : Bool :=
  match v with
  | .nils => k .nilp
  | .slc b o _ c _ _ => gd (Nat.blt 0 c) (k (.ptr b o))
  | _ => false
theorem s_usd (o : Oper) (x : Operand) (ats : Array TypeId) (ho : o.op = .call { callee := .builtin .unsafeSliceData, args := #[x], argTypes := ats }) (v : At) (h : Heap) (k : At → Bool) (hk : xusd v k = true) : ∃ r, k r = true ∧ OpS P o [.one v] h (.one r) h := by
  unfold xusd at hk
  split at hk
  · refine ⟨_, hk, s_builtin1 o _ x _ ho _ _ h fun H W0 ρ w X cs hrel hv => ?_⟩
    have hv := vinv hv
    cases hv
    exact ⟨_, rfl, .one .nilp⟩
  · rename_i b o' n c sz ex
    obtain ⟨h0, hk⟩ := gd_eq hk
    have h0 : 0 < c := by simpa [Nat.blt_eq] using h0
    refine ⟨_, hk, s_builtin1 o _ x _ ho _ _ h fun H W0 ρ w X cs hrel hv => ?_⟩
    have hv := vinv hv
    cases hv with
    | slc q hn hc hx hs =>
      rename_i B base S c'
      have hc0 : c' ≠ 0 := by omega
      refine ⟨_, ?_, .one (.ptr q)⟩
      simp only [builtin, Sem.run_bind, Lib.run_unsafeSliceData_row w _ _ _ _ _ hc0]
      rfl
    | slcd q hn hc hx =>
      rename_i c' A
      have hc0 : c' ≠ 0 := by omega
      refine ⟨.pointer (some A), ?_, .one (.ptrd q)⟩
      simp only [builtin, Sem.run_bind, Lib.run_unsafeSliceData_row w _ _ _ _ _ hc0]
      rfl
  · cases hk

theorem liesAt_off {e : TypeId} (hc : P.cellsOf e = 1) (count off n : Nat) (hn : off + n ≤ count) : liesAt P P.depth e count off e n = true := by
  have hd : P.depth = (2 * (P.types.size + Made.depth) + 1) + 1 := rfl
  rw [hd]
  simp only [liesAt, Bool.or_eq_true]
  left
  rw [hd]
  simp [rowAt, hc, hn, sameLayout, Nat.mod_one]
theorem run_ustr (w : World) (pt it ty e : TypeId) (hp : P.underlying pt = some (.pointer e)) (hc : P.cellsOf e = 1) (g off cells : Nat) (hsh : w.shape? g = some (e, cells)) (l : List UInt8) (h0 : l ≠ []) (hn : off + l.length ≤ cells) (h63 : l.length ≤ 9223372036854775807)
    (hcell : ∀ j x, l[j]? = some x → w.cell? ⟨g, off + j, none⟩ = some (.int .u8 x.toNat)) :
    (Builtin.unsafeString_ #[pt, it] ty #[.pointer (some ⟨g, off, none⟩), .int .i64 l.length]).run P w = .ok (.string ⟨l.toArray⟩) (w.freeze ⟨g, off, none⟩ l.length) := by
  have hl : l.length ≠ 0 := by simpa using h0
  have hlb := Lib.run_loadBytes (P := P) w l ⟨g, off, none⟩ .empty (fun j x hx => by rw [addr_add]; exact hcell j x hx)
  have hlies := liesAt_off (P := P) hc (cells / P.cellsOf e) off l.length (by rw [hc]; simpa using hn)
  have h63' : ¬ (9223372036854775807 : Int) < (l.length : Int) := by omega
  have hdef : Builtin.unsafeString_ #[pt, it] ty #[.pointer (some ⟨g, off, none⟩), .int .i64 l.length] =
      (do
        let n ← asInt (.int .i64 l.length)
        if n < 0 then runtimePanic (.error "unsafe.String: len out of range")
        if n > IntKind.i64.max then unsupported (.unsafePointer "String: a length above the largest int")
        if n = 0 then pure (.string .empty)
        else if ← variablesAt ⟨g, off, none⟩ (← elemOf pt) n.toNat then do
          let s ← loadBytes ⟨g, off, none⟩ .empty n.toNat
          freeze ⟨g, off, none⟩ n.toNat
          pure (.string s)
        else unsupported (.unsafePointer "String: not so many bytes at ptr")) := rfl
  rw [hdef]
  have hmax : IntKind.i64.max = 9223372036854775807 := rfl
  have hneg : ¬ (l.length : Int) < 0 := by omega
  simp [asInt, asIntOf, hmax, h63', hneg, hl, variablesAt, hsh, elemOf, run_underlying hp, hlies, hlb]
noncomputable def xustr (p n : At) (h : Heap) (k : At → Heap → Bool) : Bool :=
  match n with
  | .int .i64 (.ofNat n) => match p with
    | .nilp => gd (Nat.beq n 0) (k (.str []) h)
    | .ptr b o => sel (Nat.beq n 0) (k (.str []) h) (gd (Nat.ble n 4294967296) (cells4K h b (fun c fz byte bd => gd byte (fN (Nat.add o n) (fun e => gd (Nat.ble fz e) (lsubK c o n (fun l => numsK l (fun s =>
        h.m.setK b (.cells c e byte bd) (fun m => k (.str s) ⟨m, h.next⟩)))))))))
    | _ => false
  | _ => false
theorem frozen_freeze (w : World) (B off n : Nat) (hn : n ≠ 0) {CS : Array Value} {e : TypeId} {fr : Nat × Nat} (hw : w.heap[B]? = some (.cells CS e fr)) (hf : fr.1 ≤ fr.2) {hi : Nat} (h2 : fr.2 ≤ hi) (h3 : off + n ≤ hi) :
    ∃ fr', (w.freeze ⟨B, off, none⟩ n).heap[B]? = some (.cells CS e fr') ∧ fr'.1 ≤ fr'.2 ∧ fr'.2 ≤ hi := by
  unfold World.freeze
  rw [if_neg hn]
  simp only [Array.getElem?_modify, if_true, hw, Option.map_some]
  obtain ⟨lo, h⟩ := fr
  refine ⟨_, rfl, ?_⟩
  simp only at hf h2
  simp only
  split
  · exact ⟨by simp, h3⟩
  · simp only; omega
theorem freeze_other (w : World) (B off n : Nat) (k : Nat) (hk : k ≠ B) : (w.freeze ⟨B, off, none⟩ n).heap[k]? = w.heap[k]? := by
  unfold World.freeze
  split
  · rfl
  · simp only [Array.getElem?_modify]
    rw [if_neg (fun q => hk q.symm)]
theorem freeze_size (w : World) (a : Addr) (n : Nat) : (w.freeze a n).heap.size = w.heap.size := by
  unfold World.freeze
  split <;> simp
theorem freeze_rest (w : World) (a : Addr) (n : Nat) : (w.freeze a n).os = w.os ∧ (w.freeze a n).tape = w.tape ∧ (w.freeze a n).output = w.output := by
  unfold World.freeze
  split <;> exact ⟨rfl, rfl, rfl⟩
theorem s_ustr (o : Oper) (x y : Operand) (pt it : TypeId) (ho : o.op = .call { callee := .builtin .unsafeString, args := #[x, y], argTypes := #[pt, it] }) (hp : P.underlying pt = some (.pointer 5)) (hc : P.cellsOf 5 = 1) (p n : At) (h : Heap) (k : At → Heap → Bool) (hk : xustr p n h k = true) : ∃ r h', k r h' = true ∧ OpS P o [.one p, .one n] h (.one r) h' := by
  have fin : ∀ {r : At} {h' : Heap} (hf : ∀ (H : Nat) (W0 : World) (ρ : Ren) (w : World) (X Y : Value), Rel H W0 ρ h w → ARel ρ p X → ARel ρ n Y → ∃ V w', (Builtin.unsafeString_ #[pt, it] o.type #[X, Y]).run P w = .ok V w' ∧ Ext ρ h ρ h' ∧ Rel H W0 ρ h' w' ∧ ARel ρ r V), OpS P o [.one p, .one n] h (.one r) h' := by
    intro r h' hf
    refine OpS.of_run fun H W0 ρ w ev hv hrel => ?_
    rw [ho, call_operands_builtin] at hv
    obtain ⟨V, V', hL, h1, h2⟩ := VRels.inv2 hv
    simp at hL
    obtain ⟨hL1, hL2⟩ := hL
    subst hL1; subst hL2
    obtain ⟨V, w', hr, hx, hR, hA⟩ := hf H W0 ρ w _ _ hrel (vinv h1) (vinv h2)
    refine ⟨V, w', ρ, .inl ?_, hx, hR, .one hA⟩
    rw [exec_builtin ev o _ _ _ ho]
    simp only [builtin, Sem.run_bind]
    simp [hr]
  have zero : ∀ {p' : At} (hp' : p = p' ∧ (∀ ρ X, ARel ρ p' X → ∃ a, X = .pointer a)) (hn : n = .int .i64 (.ofNat 0)), OpS P o [.one p, .one n] h (.one (.str [])) h := by
    intro p' hp' hn
    refine fin fun H W0 ρ w X Y r hX hY => ?_
    subst hn
    rw [hp'.1] at hX
    obtain ⟨a, rfl⟩ := hp'.2 ρ X hX
    cases hY
    exact ⟨_, _, Lib.run_unsafeString_none w _ _ _ _, Ext.refl _ _, r, .str rfl⟩
  unfold xustr at hk
  split at hk
  · rename_i m
    split at hk
    · obtain ⟨h0, hk⟩ := gd_eq hk
      have h0 : m = 0 := by simpa using h0
      subst h0
      exact ⟨_, _, hk, zero ⟨rfl, fun ρ X hX => by cases hX; exact ⟨_, rfl⟩⟩ rfl⟩
    · rename_i b o'
      rw [sel_eq] at hk
      split at hk
      · rename_i h0
        have h0 : m = 0 := by simpa using h0
        subst h0
        exact ⟨_, _, hk, zero ⟨rfl, fun ρ X hX => by cases hX <;> exact ⟨_, rfl⟩⟩ rfl⟩
      · rename_i h0
        have h0 : m ≠ 0 := by simpa using h0
        obtain ⟨h63, hk1⟩ := gd_eq hk
        obtain ⟨cs, fz, byte, bd, hg, hk2⟩ := cells4K_sound hk1
        obtain ⟨hby, hk3⟩ := gd_eq hk2
        rw [fN_eq] at hk3
        obtain ⟨hfz, hk4⟩ := gd_eq hk3
        obtain ⟨l, hl, hcl, hk5⟩ := lsubK_sound _ _ _ _ hk4
        obtain ⟨s, hk6, hls, hs⟩ := numsK_sound _ _ hk5
        obtain ⟨m', hm', hk7⟩ := T.setK_sound _ _ _ _ hk6
        clear hk hk1 hk2 hk3 hk4 hk5 hk6
        subst hls
        subst hby
        simp at hl
        have h63 : m ≤ 4294967296 := by simpa using h63
        have hfz : fz ≤ o' + m := by simpa using hfz
        refine ⟨_, _, hk7, fin fun H W0 ρ w X Y r hX hY => ?_⟩
        obtain ⟨B, base, S, CS, el, fr, hb, hH, hw, hS, hcs, hff, hy, hbd⟩ := r.row hg hX.not_un
        cases hX with
        | ptrd q => rw [hb] at q; cases q
        | ptr q =>
          rw [hb] at q
          injection q with q1 q2
          subst q1; subst q2
          cases hY
          obtain ⟨he, hf1, hf2⟩ := hy rfl
          subst he
          have hcell : ∀ (j : Nat) (x : Nat), s[j]? = some x → w.cell? ⟨B, base + o' + j, none⟩ = some (.int .u8 x) := fun j x hx => by
            have hj : j < m := by have := (List.getElem?_eq_some_iff.1 hx).1; omega
            have : cs[o' + j]? = some (.int .u8 (.ofNat x)) := by rw [hcl j hj, List.getElem?_map, hx]; rfl
            obtain ⟨v, hv, hr⟩ := hcs _ _ this
            cases hr
            rw [cell_of B _ hw, show base + o' + j = base + (o' + j) by omega, hv]
            rfl
          have hbound : base + o' + m ≤ CS.size := by
            obtain ⟨x, hx⟩ : ∃ x, s[m - 1]? = some x := ⟨s[m - 1]'(by omega), List.getElem?_eq_getElem _⟩
            have := hcell _ _ hx
            rw [cell_of B _ hw] at this
            have := (Array.getElem?_eq_some_iff.1 this).1
            omega
          have hrun := run_ustr (P := P) w pt it o.type 5 hp hc B (base + o') CS.size (by simp [World.shape?, hw]) (s.map UInt8.ofNat) (by intro q; simp at q; subst q; simp at hl; omega) (by simpa [hl] using hbound) (by simp [hl]; omega) (fun j x hx => by
            rw [List.getElem?_map] at hx
            obtain ⟨y, hy, rfl⟩ := Option.map_eq_some_iff.1 hx
            rw [hcell j y hy]
            have := hs y (List.mem_of_getElem? hy)
            simp only [UInt8.toNat_ofNat']
            rw [Nat.mod_eq_of_lt (by omega)])
          simp only [List.length_map, hl] at hrun
          obtain ⟨fr', g1, g2, g3⟩ := frozen_freeze w B (base + o') m h0 hw hf1 (hi := base + (o' + m)) (by omega) (by omega)
          obtain ⟨z1, z2, z3⟩ := freeze_rest w ⟨B, base + o', none⟩ m
          have hwr := r.write (h' := ⟨m', h.next⟩) (c' := cs) (fz' := o' + m) hb hg rfl hm' g1 hS hcs (fun i hi _ => by
            simp only [World.frozen?, g1]
            simp
            omega) (fun _ => ⟨rfl, g2, g3⟩) hbd (fun k hk => freeze_other w B _ m k hk) (freeze_size w _ _) z1 z2 z3
          refine ⟨_, _, hrun, hwr.2, hwr.1, .str ?_⟩
          simpa using bytes_nums s hs
    · cases hk
  · cases hk
end Go.Proofs.YtddbhljljmijcaaGreat.V
