/- Find, Record, Limit and Code of package edns, by contracts. -/
import Derived.Test.YtnbngkecabacaaaEf
import Derived.WalkKit
import Derived.Below
import Derived.KernelRfl
import Derived.LoopTactic
import Derived.LoopN
import Derived.Outline
import Derived.Deep.RegionHeld3
import Derived.Lib.Hide
import Derived.Laws.Tables
import Derived.Laws.Rows
namespace Go.Proofs.Ytnbngkecabacaaa.Eg
open Go.RowKit Go.Proofs.Ytnbngkecabacaaa.Fb Go.Proofs.Ytnbngkecabacaaa.Fl Go.Proofs.Ytnbngkecabacaaa.Fr Go.Proofs.Ytnbngkecabacaaa.Ed
set_option linter.unusedVariables false
open Go.Proofs.Ytnbngkecabacaaa.Ef

def goodR (r : RV) : Bool := (r.name.toList == [0]) && inB r.cls 65535 && inB r.ttl 4294967295
def pick (o : Option RV) (rest : List RV) : OV × Int := match o with
  | none => (zeroO, 0)
  | some r => if (goodR r && decide (idx rest < 0)) = true then (optOf r, 0) else (zeroO, 7)
/-- What a message's OPT record says, and the error. -/
def findS (an ns ar : List RV) : OV × Int := if 0 ≤ idx an then (zeroO, 7) else if 0 ≤ idx ns then (zeroO, 7) else if idx ar < 0 then (zeroO, 0) else pick ar[(idx ar).toNat]? (ar.drop ((idx ar).toNat + 1))

theorem and255 (x : Int) (h0 : 0 ≤ x) (h1 : x < 2 ^ 63) : Go.bits .and .i64 x 255 = x % 256 := by
  have := bits_mask .i64 63 (by decide) wraps 8 (by decide) x h0 h1
  simpa using this
theorem and15 (x : Int) (h0 : 0 ≤ x) (h1 : x ≤ 4294967295) : Go.bits .and .i64 x 32768 = x / 32768 % 2 * 32768 := by
  obtain ⟨n, rfl⟩ := Int.eq_ofNat_of_zero_le h0
  have h := (bits_nat .i64 63 (by decide) wraps n 32768 (by omega) (by decide)).1
  have e : ((32768 : Nat) : Int) = 32768 := rfl
  rw [e] at h
  rw [h]
  have := nat_bit 15 n
  have e2 : (2 : Nat) ^ 15 = 32768 := rfl
  rw [e2] at this
  rw [this]; omega
theorem inB_iff (n m : Int) : inB n m = true ↔ 0 ≤ n ∧ n ≤ m := by unfold inB; simp
theorem inE {n m : Int} {b : Bool} (h : inB n m = b) (w : World) : Calls Try.prog 23 #[.int .i64 n, .int .i64 m] w fun e w' => e = .returned (.bool b) ∧ w = w' := by
  rw [← h]; exact in_any n m w

theorem find_any (id bits : Int) (Q A1 A2 A3 : Option Addr) (qn qc n1 c1 n2 c2 n c : Nat) (an ns ar : List RV) (w : World) (s1 : Sl w A1 n1 c1 an) (s2 : Sl w A2 n2 c2 ns) (s3 : Sl w A3 n c ar) :
    Calls Try.prog 10 #[.agg #[.int .i64 id, .int .i64 bits, .slice Q qn qc, .slice A1 n1 c1, .slice A2 n2 c2, .slice A3 n c]] w fun e w' => e = .returned (.tuple #[(findS an ns ar).1.agg, .int .i64 (findS an ns ar).2]) ∧ Below w.heap.size w w' := by
  have H3 : ∀ w', Below w.heap.size w w' → Calls Try.prog 20 #[.slice A3 n c, .func (.func 21) #[] #[]] w' fun e w'' => e = .returned (.int .i64 (idx ar)) ∧ Below w'.heap.size w' w'' := fun w' hb => idx_any (s3.below hb)
  have H1 : ∀ w', Below w.heap.size w w' → Calls Try.prog 22 #[.slice A1 n1 c1, .func (.func 21) #[] #[]] w' fun e w'' => e = .returned (.bool (decide (0 ≤ idx an))) ∧ Below w'.heap.size w' w'' := fun w' hb => has_any (s1.below hb)
  have H2 : ∀ w', Below w.heap.size w w' → Calls Try.prog 22 #[.slice A2 n2 c2, .func (.func 21) #[] #[]] w' fun e w'' => e = .returned (.bool (decide (0 ≤ idx ns))) ∧ Below w'.heap.size w' w'' := fun w' hb => has_any (s2.below hb)
  by_cases k1 : 0 ≤ idx an
  · rw [decide_eq_true k1] at H1
    have e : findS an ns ar = (zeroO, 7) := by unfold findS; rw [if_pos k1]
    rw [e]; exact find_an id bits Q A1 A2 A3 qn qc n1 c1 n2 c2 n c w _ H3 H1
  · rw [decide_eq_false k1] at H1
    by_cases k2 : 0 ≤ idx ns
    · rw [decide_eq_true k2] at H2
      have e : findS an ns ar = (zeroO, 7) := by unfold findS; rw [if_neg k1, if_pos k2]
      rw [e]; exact find_ns id bits Q A1 A2 A3 qn qc n1 c1 n2 c2 n c w _ H3 H1 H2
    · rw [decide_eq_false k2] at H2
      by_cases k3 : idx ar < 0
      · have e : findS an ns ar = (zeroO, 0) := by unfold findS; rw [if_neg k1, if_neg k2, if_pos k3]
        rw [e]; exact find_none id bits Q A1 A2 A3 qn qc n1 c1 n2 c2 n c w _ (by simpa using k3) H3 H1 H2
      · obtain ⟨r, hr, ht⟩ := idx_get ar (by omega)
        have e : findS an ns ar = pick (some r) (ar.drop ((idx ar).toNat + 1)) := by unfold findS; rw [if_neg k1, if_neg k2, if_neg k3, hr]
        rw [e]
        obtain ⟨i, hi⟩ : ∃ i : Nat, idx ar = (i : Int) := ⟨(idx ar).toNat, by omega⟩
        rw [hi] at hr H3 ⊢
        rw [Int.toNat_natCast] at hr ⊢
        have hin : i < n := by
          have := (List.getElem?_eq_some_iff.1 hr).1
          have := s3.1
          omega
        obtain ⟨b, off, rfl, hlt, hrow⟩ := sl_row (by omega) s3
        obtain ⟨e0, e1, e2, e3, e4⟩ := hrow i r hr
        have hnc := s3.2.1
        have hnm : n ≤ 140737488351232 := by have := s3.2.2.1; omega
        have I1 := in_any r.cls 65535
        have I2 := in_any r.ttl 4294967295
        have key : ∀ (more : Bool), decide (0 ≤ idx (ar.drop (i + 1))) = more → (pick (some r) (ar.drop (i + 1)) = if (goodR r && !more) = true then (optOf r, 0) else (zeroO, 7)) := by
          intro more hm
          unfold pick
          have : decide (idx (ar.drop (i + 1)) < 0) = !more := by
            rw [← hm]
            by_cases q : idx (ar.drop (i + 1)) < 0
            · rw [decide_eq_true q, decide_eq_false (by omega)]; rfl
            · rw [decide_eq_false q, decide_eq_true (by omega)]; rfl
          simp only [this]
        by_cases hcap : c = i + 1
        · have hn : n = i + 1 := by omega
          subst hcap
          subst hn
          have H4 : ∀ w', Below w.heap.size w w' → Calls Try.prog 22 #[.slice (some ⟨b, off, none⟩) 0 0, .func (.func 21) #[] #[]] w' fun e w'' => e = .returned (.bool (decide (0 ≤ idx (ar.drop (i + 1))))) ∧ Below w'.heap.size w' w'' := fun w' hb => by
            have := has_any (sl_cut0 (s3.below hb)); rw [Nat.sub_self] at this; exact this
          by_cases k4 : 0 ≤ idx (ar.drop (i + 1))
          · rw [decide_eq_true k4] at H4
            rw [key true (decide_eq_true k4), if_neg (by simp)]
            exact find_more_eq id bits Q A1 A2 qn qc n1 c1 n2 c2 b off i hnm r w hlt e0 e1 e2 e3 e4 H3 H1 H2 H4
          · rw [decide_eq_false k4] at H4
            rw [key false (decide_eq_false k4)]
            by_cases g1 : (r.name.toList == [0]) = true
            · by_cases g2 : inB r.cls 65535 = true
              · rw [g2] at I1
                by_cases g3 : inB r.ttl 4294967295 = true
                · rw [g3] at I2
                  obtain ⟨t0, t1⟩ := (inB_iff _ _).1 g3
                  rw [if_pos (by unfold goodR; rw [g1, g2, g3]; rfl)]
                  have hd : (r.ttl / 32768 % 2 * 32768 != 0) = decide (r.ttl / 32768 % 2 = 1) := by
                    by_cases hq : r.ttl / 32768 % 2 = 1
                    · rw [hq]; rfl
                    · have : r.ttl / 32768 % 2 = 0 := by omega
                      rw [this]; rfl
                  exact find_ok_eq id bits Q A1 A2 qn qc n1 c1 n2 c2 b off i hnm r w hlt e0 e1 e2 e3 e4 H3 H1 H2 H4 g1 I1 I2 t0 t1 _ _ _ _ rfl (and255 _ (by omega) (by omega)) (and15 _ t0 t1) hd
                · rw [(by simpa using g3 : inB r.ttl 4294967295 = false)] at I2
                  rw [if_neg (by unfold goodR; simp [g3])]
                  exact find_ttl_eq id bits Q A1 A2 qn qc n1 c1 n2 c2 b off i hnm r w hlt e0 e1 e2 e3 e4 H3 H1 H2 H4 g1 I1 I2
              · rw [(by simpa using g2 : inB r.cls 65535 = false)] at I1
                rw [if_neg (by unfold goodR; simp [g2])]
                exact find_cls_eq id bits Q A1 A2 qn qc n1 c1 n2 c2 b off i hnm r w hlt e0 e1 e2 e3 e4 H3 H1 H2 H4 g1 I1
            · rw [if_neg (by unfold goodR; simp [g1])]
              exact find_name_eq id bits Q A1 A2 qn qc n1 c1 n2 c2 b off i hnm r w hlt e0 e1 e2 e3 e4 H3 H1 H2 H4 (by simpa using g1)
        · have H4 : ∀ w', Below w.heap.size w w' → Calls Try.prog 22 #[.slice (some ⟨b, off + (i + 1) * 5, none⟩) (n - (i + 1)) (c - (i + 1)), .func (.func 21) #[] #[]] w' fun e w'' => e = .returned (.bool (decide (0 ≤ idx (ar.drop (i + 1))))) ∧ Below w'.heap.size w' w'' := fun w' hb => has_any (sl_cut (i + 1) (by omega) (by omega) (s3.below hb))
          by_cases k4 : 0 ≤ idx (ar.drop (i + 1))
          · rw [decide_eq_true k4] at H4
            rw [key true (decide_eq_true k4), if_neg (by simp)]
            exact find_more_ne id bits Q A1 A2 qn qc n1 c1 n2 c2 b off i n c hcap hin hnc hnm r w hlt e0 e1 e2 e3 e4 H3 H1 H2 H4
          · rw [decide_eq_false k4] at H4
            rw [key false (decide_eq_false k4)]
            by_cases g1 : (r.name.toList == [0]) = true
            · by_cases g2 : inB r.cls 65535 = true
              · rw [g2] at I1
                by_cases g3 : inB r.ttl 4294967295 = true
                · rw [g3] at I2
                  obtain ⟨t0, t1⟩ := (inB_iff _ _).1 g3
                  rw [if_pos (by unfold goodR; rw [g1, g2, g3]; rfl)]
                  have hd : (r.ttl / 32768 % 2 * 32768 != 0) = decide (r.ttl / 32768 % 2 = 1) := by
                    by_cases hq : r.ttl / 32768 % 2 = 1
                    · rw [hq]; rfl
                    · have : r.ttl / 32768 % 2 = 0 := by omega
                      rw [this]; rfl
                  exact find_ok_ne id bits Q A1 A2 qn qc n1 c1 n2 c2 b off i n c hcap hin hnc hnm r w hlt e0 e1 e2 e3 e4 H3 H1 H2 H4 g1 I1 I2 t0 t1 _ _ _ _ rfl (and255 _ (by omega) (by omega)) (and15 _ t0 t1) hd
                · rw [(by simpa using g3 : inB r.ttl 4294967295 = false)] at I2
                  rw [if_neg (by unfold goodR; simp [g3])]
                  exact find_ttl_ne id bits Q A1 A2 qn qc n1 c1 n2 c2 b off i n c hcap hin hnc hnm r w hlt e0 e1 e2 e3 e4 H3 H1 H2 H4 g1 I1 I2
              · rw [(by simpa using g2 : inB r.cls 65535 = false)] at I1
                rw [if_neg (by unfold goodR; simp [g2])]
                exact find_cls_ne id bits Q A1 A2 qn qc n1 c1 n2 c2 b off i n c hcap hin hnc hnm r w hlt e0 e1 e2 e3 e4 H3 H1 H2 H4 g1 I1
            · rw [if_neg (by unfold goodR; simp [g1])]
              exact find_name_ne id bits Q A1 A2 qn qc n1 c1 n2 c2 b off i n c hcap hin hnc hnm r w hlt e0 e1 e2 e3 e4 H3 H1 H2 H4 (by simpa using g1)

/-- What a size, a part of a code, a version and a bit come to as an OPT record. -/
def okO (o : OV) : Bool := o.has && inB o.size 65535 && inB o.ext 127 && inB o.vers 255
def ttlO (o : OV) : Int := o.ext * 16777216 + o.vers * 65536 + (if o.dob = true then 32768 else 0)

set_option maxHeartbeats 1000000 in
theorem rec_no (s x v : Int) (d : Bool) (w : World)   :
    Calls Try.prog 12 #[.agg #[.bool false, .int .i64 s, .int .i64 x, .int .i64 v, .bool d]] w fun e w' => e = .returned (.tuple #[.agg #[.string ⟨#[]⟩, .int .i64 0, .int .i64 0, .int .i64 0, .string ⟨#[]⟩], .bool false]) ∧ Below w.heap.size w w' := by
  go_enter Try.func12, Try.ntmps12
  go_wp2_with fail
  exact bodyPost_ret (v := .tuple #[.agg #[.string ⟨#[]⟩, .int .i64 0, .int .i64 0, .int .i64 0, .string ⟨#[]⟩], .bool false]) (by simp [results, Try.results12, go_sem, *]) rfl ⟨rfl, ((Below.refl _ _).alloc (Nat.le_refl _) _).alloc (by simp) _⟩

set_option maxHeartbeats 1000000 in
theorem rec_size (s x v : Int) (d : Bool) (w : World) (I1 : ∀ w : World, Calls Try.prog 23 #[.int .i64 s, .int .i64 65535] w fun e w' => e = .returned (.bool false) ∧ w = w')  :
    Calls Try.prog 12 #[.agg #[.bool true, .int .i64 s, .int .i64 x, .int .i64 v, .bool d]] w fun e w' => e = .returned (.tuple #[.agg #[.string ⟨#[]⟩, .int .i64 0, .int .i64 0, .int .i64 0, .string ⟨#[]⟩], .bool false]) ∧ Below w.heap.size w w' := by
  go_enter Try.func12, Try.ntmps12
  go_wp2_with fail
  refine (I1 _).mono ?_
  rintro e w' ⟨rfl, rfl⟩
  go_wp2_with fail
  exact bodyPost_ret (v := .tuple #[.agg #[.string ⟨#[]⟩, .int .i64 0, .int .i64 0, .int .i64 0, .string ⟨#[]⟩], .bool false]) (by simp [results, Try.results12, go_sem, *]) rfl ⟨rfl, ((Below.refl _ _).alloc (Nat.le_refl _) _).alloc (by simp) _⟩

set_option maxHeartbeats 1000000 in
theorem rec_ext (s x v : Int) (d : Bool) (w : World) (I1 : ∀ w : World, Calls Try.prog 23 #[.int .i64 s, .int .i64 65535] w fun e w' => e = .returned (.bool true) ∧ w = w') (I2 : ∀ w : World, Calls Try.prog 23 #[.int .i64 x, .int .i64 127] w fun e w' => e = .returned (.bool false) ∧ w = w')  :
    Calls Try.prog 12 #[.agg #[.bool true, .int .i64 s, .int .i64 x, .int .i64 v, .bool d]] w fun e w' => e = .returned (.tuple #[.agg #[.string ⟨#[]⟩, .int .i64 0, .int .i64 0, .int .i64 0, .string ⟨#[]⟩], .bool false]) ∧ Below w.heap.size w w' := by
  go_enter Try.func12, Try.ntmps12
  go_wp2_with fail
  refine (I1 _).mono ?_
  rintro e w' ⟨rfl, rfl⟩
  go_wp2_with fail
  refine (I2 _).mono ?_
  rintro e w' ⟨rfl, rfl⟩
  go_wp2_with fail
  exact bodyPost_ret (v := .tuple #[.agg #[.string ⟨#[]⟩, .int .i64 0, .int .i64 0, .int .i64 0, .string ⟨#[]⟩], .bool false]) (by simp [results, Try.results12, go_sem, *]) rfl ⟨rfl, ((Below.refl _ _).alloc (Nat.le_refl _) _).alloc (by simp) _⟩

set_option maxHeartbeats 1000000 in
theorem rec_vers (s x v : Int) (d : Bool) (w : World) (I1 : ∀ w : World, Calls Try.prog 23 #[.int .i64 s, .int .i64 65535] w fun e w' => e = .returned (.bool true) ∧ w = w') (I2 : ∀ w : World, Calls Try.prog 23 #[.int .i64 x, .int .i64 127] w fun e w' => e = .returned (.bool true) ∧ w = w') (I3 : ∀ w : World, Calls Try.prog 23 #[.int .i64 v, .int .i64 255] w fun e w' => e = .returned (.bool false) ∧ w = w')  :
    Calls Try.prog 12 #[.agg #[.bool true, .int .i64 s, .int .i64 x, .int .i64 v, .bool d]] w fun e w' => e = .returned (.tuple #[.agg #[.string ⟨#[]⟩, .int .i64 0, .int .i64 0, .int .i64 0, .string ⟨#[]⟩], .bool false]) ∧ Below w.heap.size w w' := by
  go_enter Try.func12, Try.ntmps12
  go_wp2_with fail
  refine (I1 _).mono ?_
  rintro e w' ⟨rfl, rfl⟩
  go_wp2_with fail
  refine (I2 _).mono ?_
  rintro e w' ⟨rfl, rfl⟩
  go_wp2_with fail
  refine (I3 _).mono ?_
  rintro e w' ⟨rfl, rfl⟩
  go_wp2_with fail
  exact bodyPost_ret (v := .tuple #[.agg #[.string ⟨#[]⟩, .int .i64 0, .int .i64 0, .int .i64 0, .string ⟨#[]⟩], .bool false]) (by simp [results, Try.results12, go_sem, *]) rfl ⟨rfl, ((Below.refl _ _).alloc (Nat.le_refl _) _).alloc (by simp) _⟩

set_option maxHeartbeats 1000000 in
theorem rec_true (s x v : Int)  (w : World) (I1 : ∀ w : World, Calls Try.prog 23 #[.int .i64 s, .int .i64 65535] w fun e w' => e = .returned (.bool true) ∧ w = w') (I2 : ∀ w : World, Calls Try.prog 23 #[.int .i64 x, .int .i64 127] w fun e w' => e = .returned (.bool true) ∧ w = w') (I3 : ∀ w : World, Calls Try.prog 23 #[.int .i64 v, .int .i64 255] w fun e w' => e = .returned (.bool true) ∧ w = w') (x0 : 0 ≤ x) (x1 : x ≤ 127) (v0 : 0 ≤ v) (v1 : v ≤ 255) (r : Int) (hr : Go.bits .or .i64 (Go.bits .or .i64 (x * 16777216) (v * 65536)) 32768 = r) :
    Calls Try.prog 12 #[.agg #[.bool true, .int .i64 s, .int .i64 x, .int .i64 v, .bool true]] w fun e w' => e = .returned (.tuple #[.agg #[.string ⟨#[0]⟩, .int .i64 41, .int .i64 s, .int .i64 r, .string ⟨#[]⟩], .bool true]) ∧ Below w.heap.size w w' := by
  go_enter Try.func12, Try.ntmps12
  go_wp2_with fail
  refine (I1 _).mono ?_
  rintro e w' ⟨rfl, rfl⟩
  go_wp2_with fail
  refine (I2 _).mono ?_
  rintro e w' ⟨rfl, rfl⟩
  go_wp2_with fail
  refine (I3 _).mono ?_
  rintro e w' ⟨rfl, rfl⟩
  go_wp2_with fail
  exact bodyPost_ret (v := .tuple #[.agg #[.string ⟨#[0]⟩, .int .i64 41, .int .i64 s, .int .i64 r, .string ⟨#[]⟩], .bool true]) (by simp [results, Try.results12, go_sem, *]) rfl ⟨rfl, (((Below.refl _ _).alloc (Nat.le_refl _) _).alloc (by simp) _).alloc (by simp; omega) _⟩

set_option maxHeartbeats 1000000 in
theorem rec_false (s x v : Int)  (w : World) (I1 : ∀ w : World, Calls Try.prog 23 #[.int .i64 s, .int .i64 65535] w fun e w' => e = .returned (.bool true) ∧ w = w') (I2 : ∀ w : World, Calls Try.prog 23 #[.int .i64 x, .int .i64 127] w fun e w' => e = .returned (.bool true) ∧ w = w') (I3 : ∀ w : World, Calls Try.prog 23 #[.int .i64 v, .int .i64 255] w fun e w' => e = .returned (.bool true) ∧ w = w') (x0 : 0 ≤ x) (x1 : x ≤ 127) (v0 : 0 ≤ v) (v1 : v ≤ 255) (r : Int) (hr : Go.bits .or .i64 (x * 16777216) (v * 65536) = r) :
    Calls Try.prog 12 #[.agg #[.bool true, .int .i64 s, .int .i64 x, .int .i64 v, .bool false]] w fun e w' => e = .returned (.tuple #[.agg #[.string ⟨#[0]⟩, .int .i64 41, .int .i64 s, .int .i64 r, .string ⟨#[]⟩], .bool true]) ∧ Below w.heap.size w w' := by
  go_enter Try.func12, Try.ntmps12
  go_wp2_with fail
  refine (I1 _).mono ?_
  rintro e w' ⟨rfl, rfl⟩
  go_wp2_with fail
  refine (I2 _).mono ?_
  rintro e w' ⟨rfl, rfl⟩
  go_wp2_with fail
  refine (I3 _).mono ?_
  rintro e w' ⟨rfl, rfl⟩
  go_wp2_with fail
  exact bodyPost_ret (v := .tuple #[.agg #[.string ⟨#[0]⟩, .int .i64 41, .int .i64 s, .int .i64 r, .string ⟨#[]⟩], .bool true]) (by simp [results, Try.results12, go_sem, *]) rfl ⟨rfl, (((Below.refl _ _).alloc (Nat.le_refl _) _).alloc (by simp) _).alloc (by simp; omega) _⟩

structure RecOut where
  name : ByteArray
  type : Int
  cls : Int
  ttl : Int
def RecOut.agg (r : RecOut) : Value := .agg #[.string r.name, .int .i64 r.type, .int .i64 r.cls, .int .i64 r.ttl, .string ⟨#[]⟩]
/-- The record of what is said. -/
def recS (o : OV) : RecOut := if okO o = true then ⟨⟨#[0]⟩, 41, o.size, ttlO o⟩ else ⟨⟨#[]⟩, 0, 0, 0⟩
theorem join2 (x v : Int) (x0 : 0 ≤ x) (x1 : x ≤ 127) (v0 : 0 ≤ v) (v1 : v ≤ 255) : Go.bits .or .i64 (x * 16777216) (v * 65536) = x * 16777216 + v * 65536 :=
  bits_join .i64 63 (by decide) wraps 24 _ _ (by omega) (by omega) (by omega) (by omega) (by omega) (by omega)
theorem join3 (x v : Int) (x0 : 0 ≤ x) (x1 : x ≤ 127) (v0 : 0 ≤ v) (v1 : v ≤ 255) : Go.bits .or .i64 (Go.bits .or .i64 (x * 16777216) (v * 65536)) 32768 = x * 16777216 + v * 65536 + 32768 := by
  rw [join2 x v x0 x1 v0 v1]
  exact bits_join .i64 63 (by decide) wraps 16 _ _ (by omega) (by omega) (by omega) (by omega) (by omega) (by omega)
theorem record_any (o : OV) (w : World) : Calls Try.prog 12 #[o.agg] w fun e w' => e = .returned (.tuple #[(recS o).agg, .bool (okO o)]) ∧ Below w.heap.size w w' := by
  obtain ⟨h, s, x, v, d⟩ := o
  have I1 := in_any s 65535
  have I2 := in_any x 127
  have I3 := in_any v 255
  have no : okO ⟨h, s, x, v, d⟩ = false → recS ⟨h, s, x, v, d⟩ = ⟨⟨#[]⟩, 0, 0, 0⟩ := fun e => by unfold recS; rw [e]; rfl
  cases h
  · have e : okO ⟨false, s, x, v, d⟩ = false := rfl
    rw [no e, e]; exact rec_no s x v d w
  · by_cases g1 : inB s 65535 = true
    · rw [g1] at I1
      by_cases g2 : inB x 127 = true
      · rw [g2] at I2
        by_cases g3 : inB v 255 = true
        · rw [g3] at I3
          obtain ⟨x0, x1⟩ := (inB_iff _ _).1 g2
          obtain ⟨v0, v1⟩ := (inB_iff _ _).1 g3
          have e : okO ⟨true, s, x, v, d⟩ = true := by unfold okO; simp [g1, g2, g3]
          have e2 : recS ⟨true, s, x, v, d⟩ = ⟨⟨#[0]⟩, 41, s, ttlO ⟨true, s, x, v, d⟩⟩ := by unfold recS; rw [e]; rfl
          rw [e, e2]
          cases d
          · exact rec_false s x v w I1 I2 I3 x0 x1 v0 v1 _ ((join2 x v x0 x1 v0 v1).trans (by unfold ttlO; simp))
          · exact rec_true s x v w I1 I2 I3 x0 x1 v0 v1 _ ((join3 x v x0 x1 v0 v1).trans (by unfold ttlO; simp))
        · have g : inB v 255 = false := by simpa using g3
          rw [g] at I3
          have e : okO ⟨true, s, x, v, d⟩ = false := by unfold okO; simp [g]
          rw [no e, e]; exact rec_vers s x v d w I1 I2 I3
      · have g : inB x 127 = false := by simpa using g2
        rw [g] at I2
        have e : okO ⟨true, s, x, v, d⟩ = false := by unfold okO; simp [g]
        rw [no e, e]; exact rec_ext s x v d w I1 I2
    · have g : inB s 65535 = false := by simpa using g1
      rw [g] at I1
      have e : okO ⟨true, s, x, v, d⟩ = false := by unfold okO; simp [g]
      rw [no e, e]; exact rec_size s x v d w I1

def limO (o : OV) : Int := if o.has = true then (if o.size < 512 then 512 else if 4096 < o.size then 4096 else o.size) else 512
theorem limit_any (o : OV) (w : World) : Calls Try.prog 14 #[o.agg] w fun e w' => e = .returned (.int .i64 (limO o)) ∧ Below w.heap.size w w' := by
  obtain ⟨h, s, x, v, d⟩ := o
  unfold OV.agg limO
  dsimp only
  cases h
  · rw [if_neg (by simp)]
    go_enter Try.func14, Try.ntmps14
    go_wp2
    go_ret
    exact ⟨rfl, (Below.refl _ _).alloc (Nat.le_refl _) _⟩
  · rw [if_pos rfl]
    by_cases h1 : s < 512
    · rw [if_pos h1]
      go_enter Try.func14, Try.ntmps14
      go_wp2
      go_ret
      exact ⟨rfl, (Below.refl _ _).alloc (Nat.le_refl _) _⟩
    · rw [if_neg h1]
      by_cases h2 : 4096 < s
      · rw [if_pos h2]
        have h1' : 512 ≤ s := by omega
        go_enter Try.func14, Try.ntmps14
        go_wp2
        go_ret
        exact ⟨rfl, (Below.refl _ _).alloc (Nat.le_refl _) _⟩
      · rw [if_neg h2]
        have h1' : 512 ≤ s := by omega
        have h2' : s ≤ 4096 := by omega
        go_enter Try.func14, Try.ntmps14
        go_wp2
        go_ret
        exact ⟨rfl, (Below.refl _ _).alloc (Nat.le_refl _) _⟩

/-- The code of an answer, as Go's wrapping sums tell it. -/
def codeO (b : Int) (o : OV) : Int := if o.has = true then wrap64 (rcOf b + wrap64 (16 * o.ext)) else rcOf b
theorem code_any (b : Int) (o : OV) (w : World) : Calls Try.prog 16 #[.int .i64 b, o.agg] w fun e w' => e = .returned (.int .i64 (codeO b o)) ∧ Below w.heap.size w w' := by
  obtain ⟨h, s, x, v, d⟩ := o
  unfold OV.agg codeO
  dsimp only
  have O := of8_any b
  generalize rcOf b = c at *
  cases h
  · rw [if_neg (by simp)]
    go_enter Try.func16, Try.ntmps16
    go_wp2_with fail
    refine (O _).mono ?_
    rintro e w1 ⟨rfl, hb⟩
    obtain ⟨q1, f1⟩ := bcell hb
    have z1 : w.heap.size < w1.heap.size := by have := hb.size; simp at this; omega
    go_wp2_with fail
    go_ret
    exact ⟨rfl, ((Below.refl _ _).alloc (Nat.le_refl _) _).trans (hb.mono (by simp))⟩
  · rw [if_pos rfl]
    go_enter Try.func16, Try.ntmps16
    go_wp2_with fail
    refine (O _).mono ?_
    rintro e w1 ⟨rfl, hb⟩
    obtain ⟨q1, f1⟩ := bcell hb
    have z1 : w.heap.size < w1.heap.size := by have := hb.size; simp at this; omega
    go_wp2_with fail
    go_ret
    exact ⟨rfl, ((Below.refl _ _).alloc (Nat.le_refl _) _).trans (hb.mono (by simp))⟩

end Go.Proofs.Ytnbngkecabacaaa.Eg
