/- Structs, literals, indices, slices of slices and of texts. -/
import Derived.Test.YtddbhljljmijcaaGreatRf
import Derived.Laws.NewFold
namespace Go.Proofs.YtddbhljljmijcaaGreat.V
open Go.RowKit
set_option linter.unusedVariables false
variable {P : Program}

/-! ### A part of a value -/
noncomputable def partK (agg : Bool) (l : List At) (off n : Nat) (k : AV → Bool) : Bool :=
  Bool.rec (motive := fun _ => Bool) (lgetK l off (fun a => k (.one a))) (lsubK l off n (fun r => k (.agg r))) agg
theorem partK_sound {agg : Bool} {l : List At} {off n : Nat} {k : AV → Bool} (hk : partK agg l off n k = true) : ∃ v, k v = true ∧ ∀ (ρ : Ren) (L : Array Value) (t : TypeId) (d : TypeDesc) (inf : TypeInfo) (w : World), ARels ρ l L.toList → P.underlying t = some d → isAggD d = agg → P.info? t = some inf → inf.size = n →
    ∃ V, (part t L off).run P w = .ok V w ∧ VRel ρ v V := by
  cases agg with
  | false =>
    obtain ⟨a, ha, hk⟩ := lgetK_sound _ _ _ hk
    refine ⟨_, hk, fun ρ L t d inf w hr hd hg hi hn => ?_⟩
    obtain ⟨v, hv, hr⟩ := hr.get _ _ ha
    have hv' : L[off]? = some v := by simpa using hv
    exact ⟨v, by simp [part, run_isAgg hd, hg, hv'], .one hr⟩
  | true =>
    obtain ⟨r, hl, hc, hk⟩ := lsubK_sound _ _ _ _ hk
    refine ⟨_, hk, fun ρ L t d inf w hr hd hg hi hn => ?_⟩
    refine ⟨.agg (L.extract off (off + n)), by simp [part, run_isAgg hd, hg, sizeOf, typeInfo, hi, hn], .agg ?_⟩
    have hlen := hr.length
    have hfit : n = 0 ∨ off + n ≤ L.size := by
      rcases Nat.eq_zero_or_pos n with h0 | h0
      · exact .inl h0
      · have := hc (n - 1) (by omega)
        rw [List.getElem?_eq_getElem (l := r) (by omega)] at this
        have := (List.getElem?_eq_some_iff.1 this).1
        simp at hlen
        right; omega
    refine ARels.of_get (by simp; omega) (fun i a v h1 h2 => ?_)
    have hi : i < n := by have := (List.getElem?_eq_some_iff.1 h1).1; omega
    obtain ⟨v', hv', hr'⟩ := hr.get (off + i) a ((hc i hi).trans h1)
    have h3 : (L.extract off (off + n))[i]? = L[off + i]? := by
      rw [Array.getElem?_extract]
      rw [if_pos (by omega)]
    simp only [Array.getElem?_toList] at h2 hv'
    rw [h3, hv'] at h2
    cases h2
    exact hr'
theorem s_field (o : Oper) (t : TypeId) (x : Operand) (i : Nat) (ho : o.op = .field t x i) (fs : Array Field) (f : Field) (ht : P.underlying t = some (.struct fs)) (hf : fs[i]? = some f) (d : TypeDesc) (hd : P.underlying f.type = some d) (inf : TypeInfo) (hi : P.info? f.type = some inf)
    (l : List At) (k : AV → Bool) (hk : partK (isAggD d) l f.offset inf.size k = true) : ∃ v, k v = true ∧ ∀ h, OpS P o [.agg l] h v h := by
  obtain ⟨v, hk', hs⟩ := partK_sound (P := P) hk
  refine ⟨v, hk', fun h => OpS.of_pure fun ρ w ev hv => ?_⟩
  rw [ho] at hv
  obtain ⟨V, hL, h1⟩ := VRels.inv1 hv
  simp [Op.operands] at hL
  subst hL
  generalize hx : ev x = X at h1
  cases h1 with | agg h1 => ?_
  rename_i L
  obtain ⟨V, hr, hR⟩ := hs ρ L f.type d inf w h1 hd rfl hi rfl
  refine ⟨V, ?_, hR⟩
  unfold execOp
  rw [ho]
  simp [hx, Instr.field, run_underlying ht, hf, asAgg, hr]

/-! ### Literals -/
theorem lay_foldl (off : Nat) : ∀ (l : List Value) (j : Nat) (cs : Array Value), off + j + l.length ≤ cs.size →
    ∃ cs' : Array Value, (l.zipIdx j).foldl (fun cs x => cs.setIfInBounds (off + x.2) x.1) cs = cs' ∧ cs'.size = cs.size ∧ ∀ i, cs'[i]? = if off + j ≤ i ∧ i < off + j + l.length then l[i - (off + j)]? else cs[i]?
  | [], j, cs, h => ⟨cs, rfl, rfl, fun i => by rw [if_neg (by simp)]⟩
  | v :: l, j, cs, h => by
    obtain ⟨cs', h1, h2, h3⟩ := lay_foldl off l (j + 1) (cs.setIfInBounds (off + j) v) (by simp at h ⊢; omega)
    refine ⟨cs', h1, by simpa using h2, fun i => ?_⟩
    rw [h3]
    by_cases e1 : i = off + j
    · subst e1
      rw [if_neg (by omega), if_pos (by simp), Array.getElem?_setIfInBounds_self_of_lt (by simp at h; omega)]
      simp
    · by_cases e2 : off + j ≤ i ∧ i < off + j + (l.length + 1)
      · rw [if_pos (by omega), if_pos (by simpa using e2), show i - (off + j) = (i - (off + (j + 1))) + 1 by omega]
        simp
      · rw [if_neg (by omega), if_neg (by simpa using e2), Array.getElem?_setIfInBounds_ne (by omega)]
noncomputable def fillK (offs : List (Nat × Nat)) : List AV → List At → (List At → Bool) → Bool :=
  List.rec (motive := fun _ => List AV → List At → (List At → Bool) → Bool) (fun vs z k => List.rec (motive := fun _ => Bool) (k z) (fun _ _ _ => false) vs)
    (fun p _ ih vs z k => List.rec (motive := fun _ => Bool) false (fun v vs _ => match v with
      | .one a => gd (Nat.beq p.2 1) (lputK z p.1 [a] (fun z => ih vs z k))
      | .agg l => llenK l (fun n => gd (Nat.beq p.2 n) (lputK z p.1 l (fun z => ih vs z k)))
      | .tup _ => false
      | .any => false
      | .sym _ => false) vs) offs
theorem fillK_sound (place : Nat → Option (Nat × Nat)) : ∀ (offs : List (Nat × Nat)) (ids : List Nat) (vs : List AV) (z : List At) (k : List At → Bool), ids.map place = offs.map some → fillK offs vs z k = true → ∃ z', k z' = true ∧ ∀ (ρ : Ren) (Z : Array Value) (VS : List Value), ARels ρ z Z.toList → VRels ρ vs VS →
    ∃ Z', Instr.fill place Z (ids.zip VS) = some Z' ∧ ARels ρ z' Z'.toList
  | [], ids, vs, z, k, hi, hk => by
    cases ids with
    | cons a l => simp at hi
    | nil =>
      cases vs with
      | cons v vs => cases hk
      | nil => exact ⟨z, hk, fun ρ Z VS hz hv => ⟨Z, rfl, hz⟩⟩
  | (off, sz) :: offs, ids, vs, z, k, hi, hk => by
    cases ids with
    | nil => simp at hi
    | cons i ids =>
      simp only [List.map_cons, List.cons.injEq] at hi
      cases vs with
      | nil => cases hk
      | cons v vs =>
        obtain ⟨l, hl, hk⟩ : ∃ l, v.cells = some l ∧ sz = l.length ∧ lputK z off l (fun z => fillK offs vs z k) = true := by
          cases v with
          | one a =>
            obtain ⟨h1, h2⟩ := gd_eq hk
            exact ⟨[a], rfl, by simpa using h1, h2⟩
          | agg l =>
            have hk : llenK l (fun n => gd (Nat.beq sz n) (lputK z off l (fun z => fillK offs vs z k))) = true := hk
            rw [llenK_eq] at hk
            obtain ⟨h1, h2⟩ := gd_eq hk
            exact ⟨l, rfl, by simpa using h1, h2⟩
          | tup l => cases hk
          | any => cases hk
          | sym _ => cases hk
        obtain ⟨hsz, hk⟩ := hk
        obtain ⟨z1, e1, e2, e3, hk⟩ := lputK_sound _ _ _ _ hk
        obtain ⟨z', hk, hs⟩ := fillK_sound place offs ids vs z1 k hi.2 hk
        refine ⟨z', hk, fun ρ Z VS hz hv => ?_⟩
        cases hv with | cons q t => ?_
        rename_i V VS
        have hc := q.cells hl
        have hlen : l.length = V.cells.size := by have := hc.length; simpa using this
        have hzl : z.length = Z.size := by have := hz.length; simpa using this
        obtain ⟨Z1, f1, f2, f3⟩ := lay_foldl off V.cells.toList 0 Z (by simp; omega)
        have hz1 : ARels ρ z1 Z1.toList := ARels.of_get (by simp; omega) (fun i a v ha hv' => by
          rw [e3] at ha
          simp only [Array.getElem?_toList] at hv'
          rw [f3] at hv'
          simp only [Nat.add_zero, Array.length_toList] at hv'
          by_cases hr : off ≤ i ∧ i < off + l.length
          · rw [if_pos hr] at ha
            rw [if_pos (by omega)] at hv'
            obtain ⟨v2, h2, h3⟩ := hc.get _ _ ha
            rw [h2] at hv'
            cases hv'
            exact h3
          · rw [if_neg hr] at ha
            rw [if_neg (by omega)] at hv'
            obtain ⟨v2, h2, h3⟩ := hz.get _ _ ha
            simp only [Array.getElem?_toList] at h2
            rw [h2] at hv'
            cases hv'
            exact h3)
        obtain ⟨Z', g1, g2⟩ := hs ρ Z1 VS hz1 t
        refine ⟨Z', ?_, g2⟩
        simp only [List.zip_cons_cons, Instr.fill, hi.1]
        rw [if_neg (by simp; omega)]
        have : V.cells.zipIdx.foldl (fun cs (x : Value × Nat) => cs.setIfInBounds (off + x.2) x.1) Z = Z1 := by
          rw [← f1, ← Array.foldl_toList, Array.toList_zipIdx]
        rw [← g1]
        congr 1
theorem run_places (w : World) (fs : Array Field) (hf : fs.all (fun f => (P.info? f.type).isSome) = true) : (fs.mapM (fun f => do pure (f.offset, ← sizeOf f.type) : Field → Sem (Nat × Nat))).run P w = .ok (fs.map (fun f => (f.offset, P.cellsOf f.type))) w := by
  have key : ∀ (l : List Field), (∀ f ∈ l, (P.info? f.type).isSome = true) → (l.mapM (fun f => do pure (f.offset, ← sizeOf f.type) : Field → Sem (Nat × Nat))).run P w = .ok (l.map (fun f => (f.offset, P.cellsOf f.type))) w := by
    intro l
    induction l with
    | nil => intro _; rfl
    | cons f l ih =>
      intro h
      obtain ⟨i, hi⟩ := Option.isSome_iff_exists.1 (h f (by simp))
      rw [List.mapM_cons]
      simp only [Sem.run_bind, run_sizeOf w hi, Result.andThen_ok, Sem.run_pure, ih (fun g hg => h g (by simp [hg])), List.map_cons]
  rw [Array.mapM_eq_mapM_toList]
  have := key fs.toList (fun f hf' => by
    have := Array.all_eq_true'.1 hf f (by simpa using hf')
    simpa using this)
  rw [Sem.run_map, this]
  simp only [Result.andThen_ok]
  congr 1
  apply Array.ext'
  simp
theorem zip_parts (parts : Array (Nat × Operand)) (ev : Operand → Value) : (parts.map (fun (i, x) => (i, ev x))).toList = (parts.toList.map (·.1)).zip ((parts.toList.map (·.2)).map ev) := by
  rw [Array.toList_map]
  generalize parts.toList = l
  induction l with
  | nil => rfl
  | cons p l ih => obtain ⟨i, x⟩ := p; simpa using ih
theorem s_build_struct (o : Oper) (t : TypeId) (parts : Array (Nat × Operand)) (ho : o.op = .build t parts) (fs : Array Field) (ht : P.underlying t = some (.struct fs)) (hf : fs.all (fun f => (P.info? f.type).isSome) = true) (inf : TypeInfo) (hi : P.info? t = some inf) (Z : Value) (hz : inf.zero = some Z)
    (z : List At) (hzr : ∀ ρ, ARels ρ z Z.cells.toList) (offs : List (Nat × Nat)) (hoffs : (parts.toList.map (·.1)).map (fun i => (fs.map (fun f => (f.offset, P.cellsOf f.type)))[i]?) = offs.map some) (vals : List AV) (k : List At → Bool) (hk : fillK offs vals z k = true) :
    ∃ l, k l = true ∧ ∀ h, OpS P o vals h (.agg l) h := by
  obtain ⟨l, hk', hs⟩ := fillK_sound _ offs _ vals z k hoffs hk
  refine ⟨l, hk', fun h => OpS.of_pure fun ρ w ev hv => ?_⟩
  rw [ho] at hv
  simp only [Op.operands] at hv
  obtain ⟨Z', h1, h2⟩ := hs ρ Z.cells _ (hzr ρ) hv
  refine ⟨.agg Z', ?_, .agg h2⟩
  unfold execOp
  rw [ho]
  simp only [Instr.build, Sem.run_bind, zeroValue, typeInfo, run_program, Result.andThen_ok, hi, Sem.run_pure, hz, run_underlying ht, run_places w fs hf, zip_parts, h1]
theorem s_build_array (o : Oper) (t : TypeId) (parts : Array (Nat × Operand)) (ho : o.op = .build t parts) (n : Nat) (e : TypeId) (ht : P.underlying t = some (.array n e)) (ie : TypeInfo) (hie : P.info? e = some ie) (inf : TypeInfo) (hi : P.info? t = some inf) (Z : Value) (hz : inf.zero = some Z)
    (z : List At) (hzr : ∀ ρ, ARels ρ z Z.cells.toList) (vals : List AV) (k : List At → Bool) (hk : fillK ((parts.toList.map (·.1)).map (fun i => (i * ie.size, ie.size))) vals z k = true) :
    ∃ l, k l = true ∧ ∀ h, OpS P o vals h (.agg l) h := by
  obtain ⟨l, hk', hs⟩ := fillK_sound (fun i => some (i * ie.size, ie.size)) _ (parts.toList.map (·.1)) vals z k (by simp) hk
  refine ⟨l, hk', fun h => OpS.of_pure fun ρ w ev hv => ?_⟩
  rw [ho] at hv
  simp only [Op.operands] at hv
  obtain ⟨Z', h1, h2⟩ := hs ρ Z.cells _ (hzr ρ) hv
  refine ⟨.agg Z', ?_, .agg h2⟩
  unfold execOp
  rw [ho]
  simp only [Instr.build, Sem.run_bind, zeroValue, typeInfo, run_program, Result.andThen_ok, hi, Sem.run_pure, hz, run_underlying ht, sizeOf, hie, zip_parts, h1]
theorem s_buildSlice (o : Oper) (t e : TypeId) (len : Nat) (parts : Array (Nat × Operand)) (ho : o.op = .buildSlice t len parts) (ht : P.underlying t = some (.slice e)) (ie : TypeInfo) (hie : P.info? e = some ie) (Z : Value) (hz : ie.zero = some Z) (hsm : len * ie.size ≤ 2 ^ 24)
    (z : List At) (hzr : ∀ ρ, ARels ρ z ((Array.range (len * ie.size)).map (fun x => (if len * ie.size = 0 then #[] else Z.cells)[x % (if len * ie.size = 0 then #[] else Z.cells).size]!)).toList) (vals : List AV) (byte : Bool) (hbyte : byte = true → e = 5) (h : Heap) (k : Nat → Heap → Bool)
    (hk : fillK ((parts.toList.map (·.1)).map (fun i => (i * ie.size, ie.size))) vals z (fun l => newK l byte h k) = true) :
    ∃ h', k h.next h' = true ∧ OpS P o vals h (.one (.slc h.next 0 len len ie.size true)) h' := by
  obtain ⟨l, hk', hs⟩ := fillK_sound (fun i => some (i * ie.size, ie.size)) _ (parts.toList.map (·.1)) vals z _ (by simp) hk
  obtain ⟨h', hk', hn⟩ := newK_sound hk'
  refine ⟨h', hk', OpS.of_run fun H W0 ρ w ev hv hrel => ?_⟩
  rw [ho] at hv
  simp only [Op.operands] at hv
  obtain ⟨Z', h1, h2⟩ := hs ρ _ _ (hzr ρ) hv
  obtain ⟨ρ', _, hx, hr', hat⟩ := hn H W0 ρ w Z' e hrel h2 hbyte
  have hsz : Z'.size = len * ie.size := by
    have e1 := h2.length
    have e2 := (hzr ρ).length
    simp only [Array.length_toList, Array.size_map, Array.size_range] at e1 e2
    have : l.length = z.length := by
      have key : ∀ (offs : List (Nat × Nat)) (vs : List AV) (z : List At), fillK offs vs z (fun l' => decide (l'.length = z.length)) = fillK offs vs z (fun l' => decide (l'.length = z.length)) := fun _ _ _ => rfl
      have hfl : ∀ (ps : List (Nat × Value)) (A B : Array Value), Instr.fill (fun i => some (i * ie.size, ie.size)) A ps = some B → B.size = A.size := by
        intro ps
        induction ps with
        | nil => intro A B hh; simp [Instr.fill] at hh; rw [hh]
        | cons p ps ih =>
          intro A B hh
          obtain ⟨i, v⟩ := p
          simp only [Instr.fill] at hh
          split at hh
          · cases hh
          · rename_i hcond
            have := ih _ _ hh
            rw [this]
            have : ∀ (l : List (Value × Nat)) (A : Array Value) (off : Nat), (l.foldl (fun cs x => cs.setIfInBounds (off + x.2) x.1) A).size = A.size := by
              intro l
              induction l with
              | nil => intro A off; rfl
              | cons y l ih => intro A off; rw [List.foldl_cons, ih]; simp
            rw [← Array.foldl_toList]
            exact this _ _ _
      have := hfl _ _ _ h1
      simp at this
      omega
    omega
  refine ⟨.slice (some ⟨w.heap.size, 0, none⟩) len len, _, ρ', .inl ?_, hx, hr', .one ?_⟩
  · unfold execOp
    rw [ho]
    by_cases h0 : len * ie.size = 0
    · rw [if_pos h0] at h1
      simp only [Instr.buildSlice, Sem.run_bind, run_underlying ht, Result.andThen_ok, sizeOf, typeInfo, run_program, hie, Sem.run_pure, if_neg (Nat.not_lt.2 hsm), if_pos h0, zip_parts, h1, newRow, run_newObj_alloc]
    · rw [if_neg h0] at h1
      simp only [Instr.buildSlice, Sem.run_bind, run_underlying ht, Result.andThen_ok, sizeOf, typeInfo, run_program, hie, Sem.run_pure, if_neg (Nat.not_lt.2 hsm), if_neg h0, zeroValue, hz, zip_parts, h1, newRow, run_newObj_alloc]
  · have := ARel.slc (o := 0) (n := len) (c := len) (c' := len) (sz := ie.size) (ex := true) hat (Nat.le_refl _) (Nat.le_refl _) (fun _ => rfl) (by simp [hsz])
    simpa using this
end Go.Proofs.YtddbhljljmijcaaGreat.V
