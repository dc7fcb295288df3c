/- Texts cut, lengths, conversions, function values, maps. -/
import Derived.Test.YtddbhljljmijcaaGreatRh
namespace Go.Proofs.YtddbhljljmijcaaGreat.V
open Go.RowKit
set_option linter.unusedVariables false
variable {P : Program}

noncomputable def xsstr (fl fh : Bool) (vals : List AV) (k : AV → Bool) : Bool :=
  List.rec (motive := fun _ => Bool) false (fun v vs _ => match v with
    | .one (.str s) => boundK fl vs (fun l vs => boundK fh vs (fun hi vs => List.rec (motive := fun _ => Bool) (strV s l hi k) (fun _ _ _ => false) vs))
    | _ => false) vals
theorem s_sstr (o : Oper) (t : TypeId) (x : Operand) (l hi : Option Operand) (ho : o.op = .slice t x l hi none) (ht : P.underlying t = some .string) (vals : List AV) (k : AV → Bool) (hk : xsstr l.isSome hi.isSome vals k = true) :
    ∃ v, k v = true ∧ ∀ h, OpS P o vals h v h := by
  cases vals with
  | nil => cases hk
  | cons v vs =>
    cases v with
    | agg l => cases hk
    | tup l => cases hk
    | any => cases hk
    | sym _ => cases hk
    | one a =>
      cases a with
      | str s =>
        have hk : boundK l.isSome vs (fun l vs => boundK hi.isSome vs (fun hi vs => List.rec (motive := fun _ => Bool) (strV s l hi k) (fun _ _ _ => false) vs)) = true := hk
        obtain ⟨ln, vs1, hk, e1, b1⟩ := boundK_sound hk
        obtain ⟨hn, vs2, hk, e2, b2⟩ := boundK_sound hk
        cases vs2 with
        | cons _ _ => cases hk
        | nil =>
          obtain ⟨r, hk, hs⟩ := strV_sound ht hk
          refine ⟨r, hk, fun h => OpS.of_pure fun ρ w ev hv => ?_⟩
          rw [ho, slice_operands] at hv
          simp only [List.map_cons, List.map_append] at hv
          cases hv with | cons q tl => ?_
          obtain ⟨c1, tl⟩ := b1 ρ l ev _ rfl tl
          obtain ⟨c2, tl⟩ := b2 ρ hi ev _ rfl tl
          obtain ⟨V, hr, hR⟩ := hs ρ w (ev x) _ _ q c1 c2
          refine ⟨V, ?_, hR⟩
          unfold execOp
          rw [ho]
          simp [hr]
      | _ => cases hk

/-! ### Calls of builtins -/
theorem exec_builtin (ev : Operand → Value) (o : Oper) (b : Builtin) (xs : Array Operand) (ats : Array TypeId) (ho : o.op = .call { callee := .builtin b, args := xs, argTypes := ats }) :
    execOp ev o = builtin b ats o.type (xs.map fun | .const _ => true | _ => false) (xs.map ev) := by
  unfold execOp
  rw [ho]
  rfl
theorem call_operands_builtin (b : Builtin) (xs : Array Operand) (ats : Array TypeId) : (Op.call { callee := .builtin b, args := xs, argTypes := ats }).operands.toList = xs.toList := by
  simp [Op.operands, Call.operands]
/-- A builtin of one operand. -/
theorem s_builtin1 (o : Oper) (b : Builtin) (x : Operand) (ats : Array TypeId) (ho : o.op = .call { callee := .builtin b, args := #[x], argTypes := ats }) (v r : AV) (h : Heap)
    (hs : ∀ (H : Nat) (W0 : World) (ρ : Ren) (w : World) (X : Value) (cs : Array Bool), Rel H W0 ρ h w → VRel ρ v X → ∃ V, (builtin b ats o.type cs #[X]).run P w = .ok (.value V) w ∧ VRel ρ r V) : OpS P o [v] h r h := by
  refine OpS.of_run fun H W0 ρ w ev hv hrel => ?_
  rw [ho, call_operands_builtin] at hv
  obtain ⟨V, hL, h1⟩ := VRels.inv1 hv
  simp at hL
  subst hL
  obtain ⟨V, hr, hR⟩ := hs H W0 ρ w (ev x) (#[x].map fun | .const _ => true | _ => false) hrel h1
  refine ⟨V, w, ρ, .inl ?_, Ext.refl _ _, hrel, hR⟩
  rw [exec_builtin ev o b _ _ ho]
  simpa using hr
theorem s_len_str (o : Oper) (x : Operand) (t : TypeId) (ho : o.op = .call { callee := .builtin .len, args := #[x], argTypes := #[t] }) (ht : P.underlying t = some .string) (s : List Nat) (h : Heap) : OpS P o [.one (.str s)] h (.one (.int .i64 (.ofNat s.length))) h := by
  refine s_builtin1 o _ x _ ho _ _ h fun H W0 ρ w X cs hrel hv => ?_
  have hv := vinv hv
  cases hv with | str hs => ?_
  rename_i bs
  refine ⟨.int .i64 (.ofNat s.length), ?_, .one (.int _ _)⟩
  have : s.length = bs.size := by rw [← hs, List.length_map, Array.length_toList]; rfl
  rw [this]
  simp only [builtin, Builtin.len_, Sem.run_bind]
  simp [run_underlying ht, goInt]
theorem s_len_slc (o : Oper) (x : Operand) (t e : TypeId) (ho : o.op = .call { callee := .builtin .len, args := #[x], argTypes := #[t] }) (ht : P.underlying t = some (.slice e)) (b off n c sz : Nat) (ex : Bool) (h : Heap) : OpS P o [.one (.slc b off n c sz ex)] h (.one (.int .i64 (.ofNat n))) h := by
  refine s_builtin1 o _ x _ ho _ _ h fun H W0 ρ w X cs hrel hv => ?_
  have hv := vinv hv
  refine ⟨.int .i64 (.ofNat n), ?_, .one (.int _ _)⟩
  simp only [builtin, Builtin.len_, Sem.run_bind]
  cases hv <;> simp [run_underlying ht, goInt]
theorem s_len_nils (o : Oper) (x : Operand) (t e : TypeId) (ho : o.op = .call { callee := .builtin .len, args := #[x], argTypes := #[t] }) (ht : P.underlying t = some (.slice e)) (a : At) (ha : a = .nils ∨ a = .emps) (h : Heap) : OpS P o [.one a] h (.one (.int .i64 (.ofNat 0))) h := by
  refine s_builtin1 o _ x _ ho _ _ h fun H W0 ρ w X cs hrel hv => ?_
  have hv := vinv hv
  refine ⟨.int .i64 (.ofNat 0), ?_, .one (.int _ _)⟩
  simp only [builtin, Builtin.len_, Sem.run_bind]
  rcases ha with rfl | rfl <;> cases hv <;> simp [run_underlying ht, goInt]
theorem s_len_array (o : Oper) (x : Operand) (t e : TypeId) (n : Nat) (ho : o.op = .call { callee := .builtin .len, args := #[x], argTypes := #[t] }) (ht : P.underlying t = some (.array n e)) (v : AV) (h : Heap) : OpS P o [v] h (.one (.int .i64 (.ofNat n))) h := by
  refine s_builtin1 o _ x _ ho _ _ h fun H W0 ρ w X cs hrel hv => ?_
  refine ⟨.int .i64 (.ofNat n), ?_, .one (.int _ _)⟩
  simp only [builtin, Builtin.len_, Sem.run_bind]
  cases X <;> simp [run_underlying ht, goInt]
theorem s_len_parray (o : Oper) (x : Operand) (t a e : TypeId) (n : Nat) (ho : o.op = .call { callee := .builtin .len, args := #[x], argTypes := #[t] }) (ht : P.underlying t = some (.pointer a)) (hta : P.underlying a = some (.array n e)) (v : AV) (h : Heap) : OpS P o [v] h (.one (.int .i64 (.ofNat n))) h := by
  refine s_builtin1 o _ x _ ho _ _ h fun H W0 ρ w X cs hrel hv => ?_
  refine ⟨.int .i64 (.ofNat n), ?_, .one (.int _ _)⟩
  simp only [builtin, Builtin.len_, Sem.run_bind]
  cases X <;> simp [run_underlying ht, run_underlying hta, goInt]
/-- A map that is known. -/
theorem Rel.mapAt {H : Nat} {W0 : World} {ρ : Ren} {h : Heap} {w : World} (r : Rel H W0 ρ h w) {b : Nat} {es : List (AV × AV)} (g : h.m.get b = some (.map es)) {X : Value} (hX : ARel ρ (.mp b) X) :
    ∃ B S E clock, X = .map (some B) ∧ ρ b = .loc B 0 S ∧ H ≤ B ∧ w.heap[B]? = some (.map E clock) ∧ es.length = E.size ∧ (∀ (i : Nat) k x, es[i]? = some (k, x) → ∃ en, E[i]? = some en ∧ VRel ρ k en.key ∧ VRel ρ x en.val) := by
  cases hX with
  | mp q =>
    obtain ⟨ob, g', hB, o⟩ := r.live _ _ _ _ q
    rw [g] at g'
    cases g'
    obtain ⟨E, clock, h1, h0, h2, h3⟩ := o
    subst h0
    exact ⟨_, _, E, clock, rfl, q, hB, h1, h2, h3⟩
  | mpd q => have := r.dead b _ q g; cases this
noncomputable def mapK (h : Heap) (b : Nat) (k : List (AV × AV) → Bool) : Bool := h.m.getK b (fun ob => Ob.rec (motive := fun _ => Bool) (fun _ _ _ _ => false) k false (fun _ _ _ => false) ob)
theorem mapK_sound {h : Heap} {b : Nat} {k : List (AV × AV) → Bool} (hk : mapK h b k = true) : ∃ es, h.m.get b = some (.map es) ∧ k es = true := by
  obtain ⟨ob, h1, h2⟩ := T.getK_sound _ _ _ hk
  cases ob with
  | cells c fz byte bd => cases h2
  | map es => exact ⟨es, h1, h2⟩
  | gone => cases h2
  | loop _ _ _ => cases h2
theorem s_len_map (o : Oper) (x : Operand) (t kt e : TypeId) (ho : o.op = .call { callee := .builtin .len, args := #[x], argTypes := #[t] }) (ht : P.underlying t = some (.map kt e)) (b : Nat) (h : Heap) (es : List (AV × AV)) (g : h.m.get b = some (.map es)) : OpS P o [.one (.mp b)] h (.one (.int .i64 (.ofNat es.length))) h := by
  refine s_builtin1 o _ x _ ho _ _ h fun H W0 ρ w X cs hrel hv => ?_
  have hv := vinv hv
  obtain ⟨B, S, E, clock, rfl, _, _, hw, hl, _⟩ := hrel.mapAt g hv
  refine ⟨.int .i64 (.ofNat es.length), ?_, .one (.int _ _)⟩
  rw [hl]
  simp only [builtin, Builtin.len_, Sem.run_bind]
  simp [run_underlying ht, goInt, getObj, Sem.run, hw]
theorem s_cap_exact (o : Oper) (x : Operand) (t e : TypeId) (ho : o.op = .call { callee := .builtin .cap, args := #[x], argTypes := #[t] }) (ht : P.underlying t = some (.slice e)) (b off n c sz : Nat) (h : Heap) : OpS P o [.one (.slc b off n c sz true)] h (.one (.int .i64 (.ofNat c))) h := by
  refine s_builtin1 o _ x _ ho _ _ h fun H W0 ρ w X cs hrel hv => ?_
  have hv := vinv hv
  refine ⟨.int .i64 (.ofNat c), ?_, .one (.int _ _)⟩
  simp only [builtin, Builtin.cap_, Sem.run_bind]
  cases hv with
  | slc q hn hc hx hs => rw [hx rfl]; simp [run_underlying ht, goInt]
  | slcd q hn hc hx => rw [hx rfl]; simp [run_underlying ht, goInt]
theorem s_cap_nils (o : Oper) (x : Operand) (t e : TypeId) (ho : o.op = .call { callee := .builtin .cap, args := #[x], argTypes := #[t] }) (ht : P.underlying t = some (.slice e)) (h : Heap) : OpS P o [.one .nils] h (.one (.int .i64 (.ofNat 0))) h := by
  refine s_builtin1 o _ x _ ho _ _ h fun H W0 ρ w X cs hrel hv => ?_
  have hv := vinv hv
  refine ⟨.int .i64 (.ofNat 0), ?_, .one (.int _ _)⟩
  simp only [builtin, Builtin.cap_, Sem.run_bind]
  cases hv
  simp [run_underlying ht, goInt]
theorem s_minmax (o : Oper) (b : Builtin) (x y : Operand) (ats : Array TypeId) (hb : b = .min ∨ b = .max) (ho : o.op = .call { callee := .builtin b, args := #[x, y], argTypes := ats }) (kk kk' : IntKind) (i j : Int) (h : Heap) :
    OpS P o [.one (.int kk i), .one (.int kk' j)] h (.one (.int kk (if b = .min then (if j < i then j else i) else (if j > i then j else i)))) h := by
  refine OpS.of_pure fun ρ w ev hv => ?_
  rw [ho, call_operands_builtin] at hv
  obtain ⟨V, U, hL, h1, h2⟩ := VRels.inv2 hv
  simp at hL
  obtain ⟨rfl, rfl⟩ := hL
  have h1 := vinv h1
  have h2 := vinv h2
  generalize hx : ev x = X at h1
  generalize hy : ev y = Y at h2
  cases h1
  cases h2
  refine ⟨_, ?_, .one (.int _ _)⟩
  rw [exec_builtin ev o b _ _ ho]
  rcases hb with rfl | rfl
  · simp [builtin, hx, hy, Builtin.min_, Builtin.min2]
  · simp [builtin, hx, hy, Builtin.max_, Builtin.max2]

/-! ### Conversions -/
theorem s_cvt_int (o : Oper) (s d : TypeId) (x : Operand) (ho : o.op = .convert s d x) (ds : TypeDesc) (hs : P.underlying s = some ds) (kd : IntKind) (hd : P.underlying d = some (.int kd)) (kk : IntKind) (i : Int) (h : Heap) : OpS P o [.one (.int kk i)] h (.one (.int kd (kd.wrap i))) h := by
  refine OpS.of_pure fun ρ w ev hv => ?_
  rw [ho] at hv
  obtain ⟨V, hL, h1⟩ := VRels.inv1 hv
  simp [Op.operands] at hL
  subst hL
  have h1 := vinv h1
  generalize hx : ev x = X at h1
  cases h1
  refine ⟨.int kd (kd.wrap i), ?_, .one (.int _ _)⟩
  unfold execOp
  rw [ho]
  simp only [convert, Sem.run_bind, run_underlying hs, run_underlying hd, Result.andThen_ok, hx]
  cases ds <;> rfl
theorem s_cvt_unsafe (o : Oper) (s d : TypeId) (x : Operand) (ho : o.op = .convert s d x) (hcv : ∀ (A : Addr) (w : World), (convert s d (.pointer (some A))).run P w = .ok (.pointer (some A)) w) (b i : Nat) (h : Heap) : OpS P o [.one (.ptr b i)] h (.one (.ptr b i)) h := by
  refine OpS.of_pure fun ρ w ev hv => ?_
  rw [ho] at hv
  obtain ⟨V, hL, h1⟩ := VRels.inv1 hv
  simp [Op.operands] at hL
  subst hL
  have h1 := vinv h1
  generalize hx : ev x = X at h1
  refine ⟨X, ?_, .one h1⟩
  unfold execOp
  rw [ho]
  cases h1 <;> simp [hx, hcv]

/-! ### Function values and maps -/
noncomputable def atomsK (vs : List AV) (k : List At → Bool) : Bool :=
  List.rec (motive := fun _ => (List At → Bool) → Bool) (fun k => k []) (fun v _ ih k => match v with
    | .one a => ih (fun l => k (a :: l))
    | _ => false) vs k
theorem atomsK_sound : ∀ (vs : List AV) (k : List At → Bool), atomsK vs k = true → ∃ l, k l = true ∧ ∀ ρ L, VRels ρ vs L → ARels ρ l L
  | [], k, h => ⟨[], h, fun ρ L hv => by cases hv; exact .nil⟩
  | .one a :: vs, k, h => by
    obtain ⟨l, h1, h2⟩ := atomsK_sound vs _ h
    exact ⟨a :: l, h1, fun ρ L hv => by cases hv with | cons q t => exact .cons (vinv q) (h2 ρ _ t)⟩
  | .agg _ :: vs, k, h => by cases h
  | .tup _ :: vs, k, h => by cases h
theorem tolist_map (ev : Operand → Value) (a : Array Operand) : a.map ev = (a.toList.map ev).toArray := by
  apply Array.ext'
  simp
theorem s_mkfn (o : Oper) (f : FuncId) (hf : f < 1000000000) (first caps : Array Operand) (ho : o.op = .makeFunc (.func f) first caps) (hone : first = #[] ∨ caps = #[]) (vals : List AV) (k : List At → Bool) (hk : atomsK vals k = true) :
    ∃ l, k l = true ∧ ∀ h, OpS P o vals h (.one (if first = #[] then .fn f [] l else .fn f l [])) h := by
  obtain ⟨l, hk, hs⟩ := atomsK_sound _ _ hk
  refine ⟨l, hk, fun h => OpS.of_pure fun ρ w ev hv => ?_⟩
  rw [ho] at hv
  simp only [Op.operands, Array.toList_append, List.map_append] at hv
  refine ⟨.func (.func f) (first.map ev) (caps.map ev), ?_, .one ?_⟩
  · unfold execOp
    rw [ho]
    simp [Instr.makeFunc]
  · rcases hone with rfl | rfl
    · rw [if_pos rfl]
      simp at hv
      have := ARel.fn (f := f) hf (ARels.nil (ρ := ρ)) (hs ρ _ hv)
      rw [← tolist_map] at this
      simpa using this
    · simp at hv
      have h1 := hs ρ _ hv
      split
      · rename_i h0
        subst h0
        have := ARel.fn (f := f) hf (ARels.nil (ρ := ρ)) (show ARels ρ l [] from by simpa using h1)
        simpa using this
      · have := ARel.fn (f := f) hf h1 (ARels.nil (ρ := ρ))
        rw [← tolist_map] at this
        simpa using this
noncomputable def newMapK (h : Heap) (k : Nat → Heap → Bool) : Bool :=
  h.m.setK h.next (.map []) (fun m => fN (Nat.succ h.next) (fun n => k h.next ⟨m, n⟩))
theorem s_makeMap (o : Oper) (t : TypeId) (ho : o.op = .makeMap t none) (h : Heap) (k : Nat → Heap → Bool) (hk : newMapK h k = true) : ∃ h', k h.next h' = true ∧ OpS P o [] h (.one (.mp h.next)) h' := by
  obtain ⟨m, hm, hk⟩ := T.setK_sound _ _ _ _ hk
  rw [fN_eq] at hk
  refine ⟨_, hk, OpS.of_run fun H W0 ρ w ev hv hrel => ?_⟩
  obtain ⟨r', x⟩ := hrel.new (h' := ⟨m, Nat.succ h.next⟩) (.map []) rfl hm (.map #[] 0) 0 ⟨#[], 0, heap_alloc_new w _, rfl, rfl, fun i k x hx => by simp at hx⟩
  refine ⟨.map (some w.heap.size), _, _, .inl ?_, x, r', .one (.mp (by unfold Ren.set; rw [if_pos rfl]))⟩
  unfold execOp
  rw [ho]
  simp [Instr.makeMap]
end Go.Proofs.YtddbhljljmijcaaGreat.V
