/- TopTurns, whole: its head, by hand. -/
import Derived.Test.YtddbhljljmijcaaGreatUb
namespace Go.Proofs.YtddbhljljmijcaaGreat.V
open Go.RowKit Go.Proofs Go.Proofs.Tryz
set_option linter.unusedVariables false
set_option linter.unusedSimpArgs false

theorem rS_step {f : OX} {p : Put} {d : Nat} {v : AV} {E : Env} {h : Heap} (hf : ∀ k, f E h k = k v h) (hp : PutOk p d) (rx : RX) (k : Env → Heap → Bool) : ∃ E', rS f p rx E h k = rx E' h k ∧ ∀ j, E'.slot j = if d = j then v else E.slot j := by
  obtain ⟨E', e, q⟩ := hp v E (fun env' => rx env' h k)
  exact ⟨E', (hf _).trans e, q⟩
theorem rG_step {g : Get} {f : OX} {p : Put} {d s : Nat} {b : Bool} {v : AV} {E : Env} {h : Heap} (hg : GetOk g s) (hb : E.slot s = .one (.bool b)) (hf : b = false → ∀ k, f E h k = k v h) (hp : PutOk p d) (rx : RX) (k : Env → Heap → Bool) : ∃ E', rG g false f p rx E h k = rx E' h k ∧ ∀ j, E'.slot j = if d = j then (if b = true then .tup [] else v) else E.slot j := by
  have h0 : rG g false f p rx E h k = guardK (.one (.bool b)) false (f E h (fun v h' => p v E (fun env' => rx env' h' k))) (p (.tup []) E (fun env' => rx env' h k)) := by
    show g E (fun gv => guardK gv false (f E h (fun v h' => p v E (fun env' => rx env' h' k))) (p (.tup []) E (fun env' => rx env' h k))) = _
    rw [hg, hb]
  cases b with
  | true =>
    obtain ⟨E', e, q⟩ := hp (.tup []) E (fun env' => rx env' h k)
    exact ⟨E', h0.trans e, fun j => by rw [q]; simp⟩
  | false =>
    obtain ⟨E', e, q⟩ := hp v E (fun env' => rx env' h k)
    refine ⟨E', h0.trans (Eq.trans ?_ e), fun j => by rw [q]; simp⟩
    exact hf rfl _
/-- 'or': looked at only if need be. -/
theorem or_step {gt gs gx gy : Get} {px py pz : Put} {t s x y z : Nat} {cmp : L2} {c n : Int} {b q : Bool} (ht : GetOk gt t) (hs : GetOk gs s) (hx : GetOk gx x) (hy : GetOk gy y) (kx : PutOk px x) (ky : PutOk py y) (kz : PutOk pz z)
    (d1 : x ≠ t ∧ y ≠ t) {E : Env} {h : Heap} (vt : E.slot t = .one (.bool b)) (vs : E.slot s = .one (.int .i64 n)) (hc : ∀ k, cmp (.one (.int .i64 n)) (.one (.int .i64 c)) h k = k (.one (.bool q)) h) (rx : RX) (k : Env → Heap → Bool) :
    ∃ E', rG gt false (F1 gs lMove) px (rG gt false (F2 gx (cG (.one (.int .i64 c))) cmp) py (rS (fPick gt (cG (.one (.bool true))) gy) pz rx)) E h k = rx E' h k ∧ E'.slot z = .one (.bool (b || q)) ∧ ∀ j, j ≠ x → j ≠ y → j ≠ z → E'.slot j = E.slot j := by
  obtain ⟨E1, e1, q1⟩ := rG_step (f := F1 gs lMove) (v := .one (.int .i64 n)) (E := E) (h := h) ht vt (fun _ k => by
    show gs E (fun v => k v h) = _
    rw [hs, vs]) kx (rG gt false (F2 gx (cG (.one (.int .i64 c))) cmp) py (rS (fPick gt (cG (.one (.bool true))) gy) pz rx)) k
  have v1 : E1.slot t = .one (.bool b) := by rw [q1, if_neg d1.1, vt]
  obtain ⟨E2, e2, q2⟩ := rG_step (f := F2 gx (cG (.one (.int .i64 c))) cmp) (v := .one (.bool q)) (E := E1) (h := h) ht v1 (fun hb k => by
    show gx E1 (fun v => cmp v (.one (.int .i64 c)) h k) = _
    rw [hx, q1, if_pos rfl, if_neg (by rw [hb]; simp), hc]) ky (rS (fPick gt (cG (.one (.bool true))) gy) pz rx) k
  have v2 : E2.slot t = .one (.bool b) := by rw [q2, if_neg d1.2, v1]
  obtain ⟨E3, e3, q3⟩ := rS_step (f := fPick gt (cG (.one (.bool true))) gy) (v := .one (.bool (b || q))) (E := E2) (h := h) (fun k => by
    show gt E2 (fun q => boolK q (fun q => sel q (k (.one (.bool true)) h) (gy E2 (fun v => k v h)))) = _
    rw [ht, v2]
    show sel b (k (.one (.bool true)) h) (gy E2 (fun v => k v h)) = _
    rw [hy, q2, if_pos rfl]
    cases b <;> rfl) kz rx k
  refine ⟨E3, e1.trans (e2.trans e3), by rw [q3, if_pos rfl], fun j a1 a2 a3 => ?_⟩
  rw [q3, if_neg (Ne.symm a3), q2, if_neg (Ne.symm a2), q1, if_neg (Ne.symm a1)]
theorem lss_int (x y : Int) (h : Heap) (k : AV → Heap → Bool) : lLss (.one (.int .i64 x)) (.one (.int .i64 y)) h k = k (.one (.bool (ltI x y))) h := by
  show ltK x y (k (.one (.bool true)) h) (k (.one (.bool false)) h) = _
  rw [ltK_eq]
  cases ltI x y <;> rfl
theorem gtr_int (x y : Int) (h : Heap) (k : AV → Heap → Bool) : lGtr (.one (.int .i64 x)) (.one (.int .i64 y)) h k = k (.one (.bool (ltI y x))) h := by
  show ltK y x (k (.one (.bool true)) h) (k (.one (.bool false)) h) = _
  rw [ltK_eq]
  cases ltI y x <;> rfl
def outside (m r : Int) : Bool := ((ltI m 1 || ltI 9 m) || ltI r 0) || ltI 20 r
theorem s1head (E : Env) (h : Heap) (K : Ex → Env → Heap → Bool) (m r : Int) (h0 : E.slot 0 = .one (.int .i64 m)) (h1 : E.slot 1 = .one (.int .i64 r)) :
    ∃ E', a1x.1 E h K = K .normal E' h ∧ E'.slot 32 = .one (.bool (outside m r)) ∧ ∀ t, (t < 19 ∨ 32 < t) → E'.slot t = E.slot t := by
  obtain ⟨E1, e1, q1⟩ := rM_step gt0 pt19 (r2 t19 (cG (.one (.int .i64 (.ofNat 1)))) lLss p20 (rM t20 p21 (rG t21 false (F1 t0 lMove) p22 (rG t21 false (F2 t22 (cG (.one (.int .i64 (.ofNat 9)))) lGtr) p23 (rS (fPick t21 (cG (.one (.bool true))) t23) p24 (rM t24 p25 (rG t25 false (F1 t1 lMove) p26 (rG t25 false (F2 t26 (cG (.one (.int .i64 (.ofNat 0)))) lLss) p27 (rS (fPick t25 (cG (.one (.bool true))) t27) p28 (rM t28 p29 (rG t29 false (F1 t1 lMove) p30 (rG t29 false (F2 t30 (cG (.one (.int .i64 (.ofNat 20)))) lGtr) p31 (rS (fPick t29 (cG (.one (.bool true))) t31) p32 rNil))))))))))))) E h (fun env' h' => K .normal env' h')
  obtain ⟨E2, e2, q2⟩ := r2_step (g := t19) (g' := cG (.one (.int .i64 (.ofNat 1)))) (E := E1) (x := .one (.int .i64 m)) (y := .one (.int .i64 (.ofNat 1))) (fun k => (gt19 E1 k).trans (by rw [q1, if_pos rfl, h0])) (fun k => rfl) (fun k => lss_int m 1 h k) pt20 (rM t20 p21 (rG t21 false (F1 t0 lMove) p22 (rG t21 false (F2 t22 (cG (.one (.int .i64 (.ofNat 9)))) lGtr) p23 (rS (fPick t21 (cG (.one (.bool true))) t23) p24 (rM t24 p25 (rG t25 false (F1 t1 lMove) p26 (rG t25 false (F2 t26 (cG (.one (.int .i64 (.ofNat 0)))) lLss) p27 (rS (fPick t25 (cG (.one (.bool true))) t27) p28 (rM t28 p29 (rG t29 false (F1 t1 lMove) p30 (rG t29 false (F2 t30 (cG (.one (.int .i64 (.ofNat 20)))) lGtr) p31 (rS (fPick t29 (cG (.one (.bool true))) t31) p32 rNil)))))))))))) (fun env' h' => K .normal env' h')
  obtain ⟨E3, e3, q3⟩ := rM_step gt20 pt21 (rG t21 false (F1 t0 lMove) p22 (rG t21 false (F2 t22 (cG (.one (.int .i64 (.ofNat 9)))) lGtr) p23 (rS (fPick t21 (cG (.one (.bool true))) t23) p24 (rM t24 p25 (rG t25 false (F1 t1 lMove) p26 (rG t25 false (F2 t26 (cG (.one (.int .i64 (.ofNat 0)))) lLss) p27 (rS (fPick t25 (cG (.one (.bool true))) t27) p28 (rM t28 p29 (rG t29 false (F1 t1 lMove) p30 (rG t29 false (F2 t30 (cG (.one (.int .i64 (.ofNat 20)))) lGtr) p31 (rS (fPick t29 (cG (.one (.bool true))) t31) p32 rNil))))))))))) E2 h (fun env' h' => K .normal env' h')
  obtain ⟨E4, e4, w4, q4⟩ := or_step (c := .ofNat 9) (n := m) gt21 gt0 gt22 gt23 pt22 pt23 pt24 (by decide) (E := E3) (h := h) (b := ltI m 1) (by simp [q3, q2]) (by simp [q3, q2, q1, h0]) (fun k => gtr_int m 9 h k) (rM t24 p25 (rG t25 false (F1 t1 lMove) p26 (rG t25 false (F2 t26 (cG (.one (.int .i64 (.ofNat 0)))) lLss) p27 (rS (fPick t25 (cG (.one (.bool true))) t27) p28 (rM t28 p29 (rG t29 false (F1 t1 lMove) p30 (rG t29 false (F2 t30 (cG (.one (.int .i64 (.ofNat 20)))) lGtr) p31 (rS (fPick t29 (cG (.one (.bool true))) t31) p32 rNil)))))))) (fun env' h' => K .normal env' h')
  obtain ⟨E5, e5, q5⟩ := rM_step gt24 pt25 (rG t25 false (F1 t1 lMove) p26 (rG t25 false (F2 t26 (cG (.one (.int .i64 (.ofNat 0)))) lLss) p27 (rS (fPick t25 (cG (.one (.bool true))) t27) p28 (rM t28 p29 (rG t29 false (F1 t1 lMove) p30 (rG t29 false (F2 t30 (cG (.one (.int .i64 (.ofNat 20)))) lGtr) p31 (rS (fPick t29 (cG (.one (.bool true))) t31) p32 rNil))))))) E4 h (fun env' h' => K .normal env' h')
  have g1 : E5.slot 1 = .one (.int .i64 r) := by rw [q5, if_neg (by decide), q4 1 (by decide) (by decide) (by decide), q3, if_neg (by decide), q2, if_neg (by decide), q1, if_neg (by decide), h1]
  obtain ⟨E6, e6, w6, q6⟩ := or_step (c := .ofNat 0) (n := r) gt25 gt1 gt26 gt27 pt26 pt27 pt28 (by decide) (E := E5) (h := h) (b := ltI m 1 || ltI 9 m) (by rw [q5, if_pos rfl, w4]) g1 (fun k => lss_int r 0 h k) (rM t28 p29 (rG t29 false (F1 t1 lMove) p30 (rG t29 false (F2 t30 (cG (.one (.int .i64 (.ofNat 20)))) lGtr) p31 (rS (fPick t29 (cG (.one (.bool true))) t31) p32 rNil)))) (fun env' h' => K .normal env' h')
  obtain ⟨E7, e7, q7⟩ := rM_step gt28 pt29 (rG t29 false (F1 t1 lMove) p30 (rG t29 false (F2 t30 (cG (.one (.int .i64 (.ofNat 20)))) lGtr) p31 (rS (fPick t29 (cG (.one (.bool true))) t31) p32 rNil))) E6 h (fun env' h' => K .normal env' h')
  have g2 : E7.slot 1 = .one (.int .i64 r) := by rw [q7, if_neg (by decide), q6 1 (by decide) (by decide) (by decide), g1]
  obtain ⟨E8, e8, w8, q8⟩ := or_step (c := .ofNat 20) (n := r) gt29 gt1 gt30 gt31 pt30 pt31 pt32 (by decide) (E := E7) (h := h) (b := (ltI m 1 || ltI 9 m) || ltI r 0) (by rw [q7, if_pos rfl, w6]) g2 (fun k => gtr_int r 20 h k) rNil (fun env' h' => K .normal env' h')
  refine ⟨E8, e1.trans (e2.trans (e3.trans (e4.trans (e5.trans (e6.trans (e7.trans e8)))))), w8, fun t ht => ?_⟩
  rw [q8 t (by omega) (by omega) (by omega), q7, if_neg (by omega), q6 t (by omega) (by omega) (by omega), q5, if_neg (by omega), q4 t (by omega) (by omega) (by omega), q3, if_neg (by omega), q2, if_neg (by omega), q1, if_neg (by omega)]
end Go.Proofs.YtddbhljljmijcaaGreat.V

/- TopTurns, whole. -/
namespace Go.Proofs.YtddbhljljmijcaaGreat.V
open Go.RowKit Go.Proofs Go.Proofs.Tryz
set_option linter.unusedVariables false
set_option linter.unusedSimpArgs false

theorem E0_any (m : Nat) {t : Nat} (h0 : t ≠ 0) (h1 : t ≠ 1) : (E0 m).slot t = .any := by
  unfold Env.slot
  have hd : 12 * (t / 12) + t % 12 = t := Nat.div_add_mod t 12
  have hm : t % 12 < 12 := Nat.mod_lt _ (by decide)
  generalize t / 12 = q at hd
  generalize t % 12 = k at hd hm
  have ha : eRow.at k = .any := by
    rcases k with _|_|_|_|_|_|_|_|_|_|_|_|k <;> first | rfl | omega
  rcases q with _|q
  · rcases k with _|_|_|_|_|_|_|_|_|_|_|_|k <;> first | rfl | omega
  · rcases q with _|_|_|_|_|_|_|_|_|_|_|_|q <;> exact ha
theorem code0 {E : Env} {S : Heap} : ∃ E', CodeS Pg 146 (sqA body3) E S .normal E' S ∧ ∀ t, t ≠ 4 → E'.slot t = E.slot t := by
  classical
  obtain ⟨E1, e1, q1⟩ := pt4 (.one (.bool false)) E (fun env' => decide ((Ex.normal = Ex.normal) ∧ S = S ∧ ∀ t, t ≠ 4 → env'.slot t = E.slot t))
  have : a0x.1 E S (fun e E' S' => decide (e = .normal ∧ S' = S ∧ ∀ t, t ≠ 4 → E'.slot t = E.slot t)) = true := e1.trans (decide_eq_true ⟨rfl, rfl, fun t ht => by rw [q1, if_neg (Ne.symm ht)]⟩)
  obtain ⟨e, E2, S2, k1, k2⟩ := a0x.2 _ _ _ this
  obtain ⟨rfl, rfl, k3⟩ := of_decide_eq_true k1
  exact ⟨E2, k2, k3⟩
theorem code1 {E : Env} {S : Heap} {m r : Int} (h0 : E.slot 0 = .one (.int .i64 m)) (h1 : E.slot 1 = .one (.int .i64 r)) : ∃ E', CodeS Pg 146 (sqA (sqA (sqB body3))) E S .normal E' S ∧ E'.slot 32 = .one (.bool (outside m r)) ∧ ∀ t, (t < 19 ∨ 32 < t) → E'.slot t = E.slot t := by
  classical
  obtain ⟨E1, e1, q1, q2⟩ := s1head E S (fun e E' S' => decide (e = .normal ∧ S' = S ∧ E'.slot 32 = .one (.bool (outside m r)) ∧ ∀ t, (t < 19 ∨ 32 < t) → E'.slot t = E.slot t)) m r h0 h1
  obtain ⟨e, E2, S2, k1, k2⟩ := a1x.2 _ _ _ (e1.trans (decide_eq_true ⟨rfl, rfl, q1, q2⟩))
  obtain ⟨rfl, rfl, k3, k4⟩ := of_decide_eq_true k1
  exact ⟨E2, k2, k3, k4⟩
theorem code2 {E : Env} {S : Heap} : ∃ E', CodeS Pg 146 (sqA (cndC (sqB (sqA (sqB body3))))) E S .normal E' S ∧ E'.slot 4 = .one (.bool true) := by
  classical
  let K : Ex → Env → Heap → Bool := fun e E' S' => decide (e = .normal ∧ S' = S ∧ E'.slot 4 = .one (.bool true))
  obtain ⟨E1, e1, q1⟩ := rS_step (f := fCall xTrue []) (v := .one (.bool true)) (E := E) (h := S) (fun k => rfl) pt33 (rM t33 p4 rNil) (fun env' h' => K .normal env' h')
  obtain ⟨E2, e2, q2⟩ := rM_step gt33 pt4 rNil E1 S (fun env' h' => K .normal env' h')
  have : a2x.1 E S K = true := e1.trans (e2.trans (decide_eq_true ⟨rfl, rfl, by rw [q2, if_pos rfl, q1, if_pos rfl]⟩))
  obtain ⟨e, E3, S3, k1, k2⟩ := a2x.2 _ _ _ this
  obtain ⟨rfl, rfl, k3⟩ := of_decide_eq_true k1
  exact ⟨E3, k2, k3⟩
theorem body3_eq : body3 = .seq (sqA body3) (.seq (.seq (sqA (sqA (sqB body3))) (.cond (.tmp 32) (.seq (sqA (cndC (sqB (sqA (sqB body3))))) .ret) .skip)) cIn) := rfl
theorem outside_false {m r : Int} (h : outside m r = false) : 1 ≤ m ∧ m ≤ 9 ∧ 0 ≤ r ∧ r ≤ 20 := by
  simp only [outside, ltI_eq, Bool.or_eq_false_iff, decide_eq_false_iff_not] at h
  omega
theorem turns_wp (hs : ∀ m : Nat, 1 ≤ m → m ≤ 9 → Safe cIn (E0 m) S0) (m r : Int) {H : Nat} {W0 : World} {ρ : Ren} {E : Env} {a : Act} {w : World} (h0 : E.slot 0 = .one (.int .i64 m)) (h1 : E.slot 1 = .one (.int .i64 r)) (hE : EnvR 146 [] ρ E a) (hR : Rel H W0 ρ S0 w) (hρ : ρ 0 = .val (.int .i64 r)) : body3.wpIn Fence.wide 0 Pg (Fin H W0) a w := by
  refine (show (Code.seq (sqA body3) (.seq (.seq (sqA (sqA (sqB body3))) (.cond (.tmp 32) (.seq (sqA (cndC (sqB (sqA (sqB body3))))) .ret) .skip)) cIn)).wpIn Fence.wide 0 Pg _ a w from ?_)
  obtain ⟨E1, c1, q1⟩ := code0 (E := E) (S := S0)
  refine wpIn_seq (c1 Fence.wide H W0 [] ρ a w _ .wide hE hR fun a1 w1 ρ1 hx1 hR1 hE1 => ?_)
  obtain ⟨E2, c2, v32, q2⟩ := code1 (E := E1) (S := S0) (m := m) (r := r) (by rw [q1 0 (by decide), h0]) (by rw [q1 1 (by decide), h1])
  refine wpIn_seq (wpIn_seq (c2 Fence.wide H W0 [] ρ1 a1 w1 _ .wide hE1 hR1 fun a2 w2 ρ2 hx2 hR2 hE2 => ?_))
  have hev := hE2.eval 32
  rw [v32] at hev
  have hx := vinv hev
  cases ho : outside m r with
  | true =>
    rw [ho] at hx
    have hc : a2.eval (.tmp 32) = .bool true := by
      show a2.tmps.getD 32 undef = _
      generalize a2.tmps.getD 32 undef = X at hx
      cases hx
      rfl
    obtain ⟨E3, c3, v4⟩ := code2 (E := E2) (S := S0)
    refine wpIn_cond_true hc (wpIn_seq (c3 Fence.wide H W0 [] ρ2 a2 w2 _ .wide hE2 hR2 fun a3 w3 ρ3 hx3 hR3 hE3 => wpIn_ret ?_))
    exact ⟨rfl, E3, S0, ρ3, hE3, hR3, v4⟩
  | false =>
    rw [ho] at hx
    have hc : a2.eval (.tmp 32) = .bool false := by
      show a2.tmps.getD 32 undef = _
      generalize a2.tmps.getD 32 undef = X at hx
      cases hx
      rfl
    refine wpIn_cond_false hc (wpIn_skip ?_)
    obtain ⟨b1, b2, b3, b4⟩ := outside_false ho
    obtain ⟨m', rfl⟩ : ∃ m' : Nat, m = .ofNat m' := ⟨m.toNat, by simp; omega⟩
    obtain ⟨r', rfl⟩ : ∃ r' : Nat, r = .ofNat r' := ⟨r.toNat, by simp; omega⟩
    have hρ2 := val_le hx2 (val_le hx1 hρ)
    refine hs m' (by simp at b1; omega) (by simp at b2; omega) r' (by simp at b4; omega) Fence.wide H W0 ρ2 a2 w2 .wide ?_ hR2 hρ2
    refine ⟨hE2.size, hE2.defers, fun t ht => ?_⟩
    by_cases e0 : t = 0
    · subst e0
      have := hE2.get 0 (by rw [q2 0 (by omega), q1 0 (by decide), h0]; rfl)
      rw [q2 0 (by omega), q1 0 (by decide), h0] at this
      exact this
    · by_cases e1 : t = 1
      · subst e1
        obtain ⟨V, f1, f2⟩ := hE2.get 1 (by rw [q2 1 (by omega), q1 1 (by decide), h1]; rfl)
        rw [q2 1 (by omega), q1 1 (by decide), h1] at f2
        refine ⟨V, f1, ?_⟩
        have := vinv f2
        cases this
        exact .sym hρ2
      · rw [E0_any m' e0 e1] at ht
        cases ht
/-- TopTurns answers true, whatever it is given. -/
theorem turns (hs : ∀ m : Nat, 1 ≤ m → m ≤ 9 → Safe cIn (E0 m) S0) (m r : Int) (w : World) : Calls Pg 3 #[.int .i64 m, .int .i64 r] w (fun e w' => e = .returned (.bool true) ∧ Below w.heap.size w w') := by
  refine calls_of_wp (c := body3) Tryz.func3 rfl ((wpIn_wide (n := 0)).1 ?_)
  obtain ⟨E, _, henv⟩ := entryK_sound (l := [.one (.int .i64 m), .one (.int .i64 r)]) (k := fun _ => true) rfl
  let ρ : Ren := fun b => if b = 0 then .val (.int .i64 r) else .un
  have hE : EnvR 146 [] ρ E { tmps := #[.int .i64 m, .int .i64 r] ++ Array.replicate (146 - (#[Value.int .i64 m, .int .i64 r] : Array Value).size) undef, defers := [] } := entry_env henv (by simp) (.cons (.one (.int _ _)) (.cons (.one (.int _ _)) .nil))
  have hρ : ∀ b, ρ b = .un ∨ ∃ V, ρ b = .val V := fun b => by
    show (if b = 0 then Loc.val (.int .i64 r) else .un) = .un ∨ ∃ V, (if b = 0 then Loc.val (.int .i64 r) else .un) = .val V
    split
    · exact .inr ⟨_, rfl⟩
    · exact .inl rfl
  have hR : Rel w.heap.size w ρ S0 w := by
    refine ⟨Nat.le_refl _, below_refl _ _, fun b B base S e => ?_, fun b ob e => ?_, fun b hb => ?_, fun b b' B base S base' S' e => ?_, fun _ _ h _ => h⟩
    · rcases hρ b with q | ⟨V, q⟩ <;> rw [q] at e <;> cases e
    · rcases hρ b with q | ⟨V, q⟩ <;> rw [q] at e <;> cases e
    · have hb : 1 ≤ b := hb
      show (if b = 0 then Loc.val (.int .i64 r) else .un) = .un
      rw [if_neg (by omega)]
    · rcases hρ b with q | ⟨V, q⟩ <;> rw [q] at e <;> cases e
  have hw := turns_wp hs m r (H := w.heap.size) (W0 := w) (ρ := ρ) (by rw [henv]; rfl) (by rw [henv]; rfl) hE hR rfl
  refine Code.wpIn_mono (fun e a' w' q => ?_) hw
  obtain ⟨rfl, E', S', ρ', hE', hR', v4⟩ := q
  obtain ⟨v, k1, k2⟩ := endK_sound (P := Pg) (fn := Tryz.f3) (L := [.tmp 4]) (rs := [.tmp t4]) Tryz.results3 (.cons (.tmp gt4) .nil) (env := E') (h := S') (k := fun v _ => isTrue v) (by
    show t4 E' (fun v => isTrue v) = true
    rw [gt4, v4]
    rfl)
  have := isTrue_sound k1
  subst this
  obtain ⟨V, r1, r2⟩ := k2 146 [] w.heap.size w ρ' w' a' hE' hR'
  have := vinv r2
  cases this
  exact ⟨hE'.defers, _, r1, rfl, hR'.below⟩
end Go.Proofs.YtddbhljljmijcaaGreat.V
