/- TopTurns, in pieces. -/
import Derived.Test.YtddbhljljmijcaaGreatUa
namespace Go.Proofs.YtddbhljljmijcaaGreat.V
open Go.RowKit Go.Proofs Go.Proofs.Tryz
set_option linter.unusedVariables false
set_option maxRecDepth 1000000
/-- The body of TopTurns, and its parts. -/
noncomputable def body3 : Code := (Tryz.f3.body).getD .skip
def sqA : Code → Code
  | .seq x _ => x
  | c => c
def sqB : Code → Code
  | .seq _ y => y
  | c => c
def blkC : Code → Code
  | .block _ c => c
  | c => c
def lopC : Code → Code
  | .loop c => c
  | c => c
def cndC : Code → Code
  | .cond _ c _ => c
  | c => c
noncomputable def cIn : Code := sqB (sqB body3)
noncomputable def cLoop : Code := (sqB (sqB (sqB (sqB (sqB (sqB (sqB (sqB (sqB cIn)))))))))
noncomputable def body2 : Code := lopC (blkC (sqB (sqA cLoop)))
section
variable {d : Option Nat} {ty t : TypeId} {pos : String} {af : Array Edge} {g : Option (Nat × Bool)} {x y : Operand}
theorem k470 {p0 p1 : Operand} : DXOk Pg ⟨d, .build 37 #[(1, p0), (2, p1)], ty, pos, af, g⟩ (xBuild [(1, 1), (2, 1)] z37) := oBS [(1, 1), (2, 1)] z37 underlying37 rfl i37 rfl rfl rfl
theorem k471 : DXOk Pg ⟨d, .indexAddr 41 x y, ty, pos, af, g⟩ (xIaddrS 5) := oIS 5 underlying41 i46 rfl
theorem k472 : DXOk Pg ⟨d, .fieldAddr 46 x 4, ty, pos, af, g⟩ (xFaddr 4) := oFA 4 underlying46 rfl rfl i9 rfl
end
noncomputable def a0x : {X : XCode // Good Pg 146 (sqA body3) X} := ⟨_, (cR (sa pt4 qB <|
  se) rfl)⟩
noncomputable def a1x : {X : XCode // Good Pg 146 (sqA (sqA (sqB body3))) X} := ⟨_, (cR (sm pt19 (qT gt0) <|
  y2 pt20 (iLss (qT gt19) (qI (.ofNat 1))) <|
  sm pt21 (qT gt20) <|
  g1 gt21 pt22 (fMv (qT gt0)) rfl <|
  g1 gt21 pt23 (iGtr (qT gt22) (qI (.ofNat 9))) rfl <|
  s1 pt24 (uP (qT gt21) qB (qT gt23)) <|
  sm pt25 (qT gt24) <|
  g1 gt25 pt26 (fMv (qT gt1)) rfl <|
  g1 gt25 pt27 (iLss (qT gt26) (qI (.ofNat 0))) rfl <|
  s1 pt28 (uP (qT gt25) qB (qT gt27)) <|
  sm pt29 (qT gt28) <|
  g1 gt29 pt30 (fMv (qT gt1)) rfl <|
  g1 gt29 pt31 (iGtr (qT gt30) (qI (.ofNat 20))) rfl <|
  s1 pt32 (uP (qT gt29) qB (qT gt31)) <|
  se) rfl)⟩
noncomputable def a2x : {X : XCode // Good Pg 146 (sqA (cndC (sqB (sqA (sqB body3))))) X} := ⟨_, (cR (s1 pt33 (uC rfl h6x b0) <|
  sa pt4 (qT gt33) <|
  se) rfl)⟩
noncomputable def l0x : {X : XCode // Good Pg 146 (sqA cIn) X} := ⟨_, (cR (s1 pt35 (u0 k24 (bb (qV (.one (.str [48, 48, 48, 48])) rfl) b0)) <|
  s1 pt36 (u0 k463 (bb (qI (.ofNat 9)) (bb (qI (.ofNat 9)) (bb (qI (.ofNat 2)) (bb (qI (.ofNat 5)) (bb (qI (.ofNat 3)) (bb (qI (.ofNat 10)) (bb (qT gt35) b0)))))))) <|
  s1 pt37 (uC rfl h7 (bb (qT gt36) b0)) <|
  sm pt34 (qT gt37) <|
  y1 pt38 (fEx (qT gt34)) <|
  y1 pt39 (fEx (qT gt34)) <|
  sa pt5 (qT gt38) <|
  sa pt6 (qT gt39) <|
  se) rfl)⟩
noncomputable def l1x : {X : XCode // Good Pg 146 (sqA (sqB cIn)) X} := ⟨_, (cS (cR (sm pt40 (qT gt6) <|
  y2 pt41 (iNeq (qT gt40) (qI (.ofNat 0))) <|
  sm pt42 (qT gt41) <|
  g1 gt42 pt43 (fMv (qT gt5)) rfl <|
  g1 gt42 pt44 (u0 k67 (bb (qT gt43) (bb (qV (.one (.nilp)) rfl) b0))) rfl <|
  s1 pt45 (uP (qT gt42) qB (qT gt44)) <|
  se) rfl) (cC gt45 (cS (cR (sa pt4 qB <|
  se) rfl) cT) cK))⟩
noncomputable def l2x : {X : XCode // Good Pg 146 (sqA (sqB (sqB cIn))) X} := ⟨_, (cR (s1 pt46 (u0 k104 (bb (qV (.one (.str [1, 97, 0])) rfl) (bb (qI (.ofNat 1)) (bb (qI (.ofNat 1)) b0)))) <|
  s1 pt7 (u0 k46 b0) <|
  y0 (u2 k47 eStore rfl (qT gt7) (qT gt46)) <|
  se) rfl)⟩
noncomputable def l3x : {X : XCode // Good Pg 146 (sqA (sqB (sqB (sqB cIn)))) X} := ⟨_, (cR (y1 pt48 (u1 k45 eLoadN rfl (qT gt7)) <|
  s1 pt49 (u0 k133 (bb (qT gt48) b0)) <|
  s1 pt50 (u0 k464 (bb (qI (.ofNat 7)) (bb (qI (.ofNat 256)) (bb (qT gt49) b0)))) <|
  s1 pt51 (uC rfl h8 (bb (qT gt50) b0)) <|
  sm pt47 (qT gt51) <|
  y1 pt52 (fEx (qT gt47)) <|
  y1 pt53 (fEx (qT gt47)) <|
  sa pt8 (qT gt52) <|
  sa pt9 (qT gt53) <|
  se) rfl)⟩
noncomputable def l4x : {X : XCode // Good Pg 146 (sqA (sqB (sqB (sqB (sqB cIn))))) X} := ⟨_, (cR (y1 pt54 (u1 k45 eLoadN rfl (qT gt7)) <|
  s1 pt55 (u0 k133 (bb (qT gt54) b0)) <|
  s1 pt56 (u0 k470 (bb (qI (.ofNat 33792)) (bb (qT gt55) b0))) <|
  s1 pt10 (u0 k130 b0) <|
  y0 (u2 k132 eStore rfl (qT gt10) (qT gt56)) <|
  se) rfl)⟩
noncomputable def l5x : {X : XCode // Good Pg 146 (sqA (sqB (sqB (sqB (sqB (sqB cIn)))))) X} := ⟨_, (cS (cR (sa pt11 (qI (.ofNat 0)) <|
  se) rfl) (cB (cO (cS (cS (cR (sm pt57 (qT gt11) <|
  sm pt58 (qT gt0) <|
  y2 pt59 (iLss (qT gt57) (qT gt58)) <|
  se) rfl) (cC gt59 cK cE)) (cS (cB (cR (y1 pt62 (u1 k53 eFaddr rfl (qT gt10)) <|
  y1 pt63 (u1 k54 eLoad rfl (qT gt62)) <|
  sm pt64 (qT gt11) <|
  y1 pt65 (u1 k57 eCvt rfl (qT gt64)) <|
  s1 pt66 (u0 k58 (bb (qT gt65) b0)) <|
  s1 pt67 (u0 k60 (bb (qT gt66) b0)) <|
  s1 pt68 (u0 oS (bb (qV (.one (.str [49, 50, 55])) rfl) (bb (qT gt67) b0))) <|
  s1 pt69 (u0 k347 (bb (qV (.one (.str [1, 97, 0])) rfl) (bb (qI (.ofNat 1)) (bb (qI (.ofNat 1)) (bb (qI (.ofNat 99)) (bb (qT gt68) b0)))))) <|
  s1 pt70 (u0 k137 (bb (qT gt69) b0)) <|
  s1 pt71 (u0 k66 (bb (qT gt63) (bb (qT gt70) b0))) <|
  y1 pt72 (u1 k53 eFaddr rfl (qT gt10)) <|
  y0 (u2 k138 eStore rfl (qT gt72) (qT gt71)) <|
  se) rfl)) (cR (sm pt60 (qT gt11) <|
  y2 pt61 (iAdd (qT gt60) (qI (.ofNat 1))) <|
  sa pt11 (qT gt61) <|
  se) rfl))))))⟩
noncomputable def l6x : {X : XCode // Good Pg 146 (sqA (sqB (sqB (sqB (sqB (sqB (sqB cIn))))))) X} := ⟨_, (cR (y1 pt74 (u1 k65 eLoadN rfl (qT gt10)) <|
  s1 pt75 (uC rfl h8 (bb (qT gt74) b0)) <|
  sm pt73 (qT gt75) <|
  y1 pt76 (fEx (qT gt73)) <|
  y1 pt77 (fEx (qT gt73)) <|
  sa pt12 (qT gt76) <|
  sa pt13 (qT gt77) <|
  se) rfl)⟩
noncomputable def l7x : {X : XCode // Good Pg 146 (sqA (sqB (sqB (sqB (sqB (sqB (sqB (sqB cIn)))))))) X} := ⟨_, (cR (sm pt78 (qT gt5) <|
  sm pt79 (qT gt8) <|
  s1 pt80 (uC rfl h9 (bb (qT gt78) (bb (qI (.ofNat 1)) (bb (qV (.one (.str [57, 57, 57, 57])) rfl) (bb (qI (.ofNat 77)) (bb (qT gt79) b0)))))) <|
  se) rfl)⟩
noncomputable def l8x : {X : XCode // Good Pg 146 (sqA (sqB (sqB (sqB (sqB (sqB (sqB (sqB (sqB cIn))))))))) X} := ⟨_, (cR (sm pt81 (qT gt5) <|
  sm pt82 (qT gt12) <|
  s1 pt83 (uC rfl h10 (bb (qT gt81) (bb (qI (.ofNat 1)) (bb (qV (.one (.str [48, 48, 48, 48])) rfl) (bb (qI (.ofNat 1024)) (bb (qT gt82) b0)))))) <|
  se) rfl)⟩
noncomputable def a16x : {X : XCode // Good Pg 146 (sqA (sqA cLoop)) X} := ⟨_, (cR (sa pt14 (qI (.ofNat 0)) <|
  se) rfl)⟩
noncomputable def a17x : {X : XCode // Good Pg 146 (sqA (sqA body2)) X} := ⟨_, (cR (sm pt84 (qT gt14) <|
  sm pt85 (qT gt0) <|
  sm pt86 (qT gt1) <|
  y2 pt87 (iAdd (qT gt85) (qT gt86)) <|
  y2 pt88 (iLss (qT gt84) (qT gt87)) <|
  se) rfl)⟩
noncomputable def itx : {X : XCode // Good Pg 146 (sqB body2) X} := ⟨_, (cS (cB (cS (cR (sm pt91 (qT gt5) <|
  sm pt92 (qT gt8) <|
  s1 pt93 (uC rfl h9 (bb (qT gt91) (bb (qI (.ofNat 2)) (bb (qV (.one (.str [57, 57, 57, 57])) rfl) (bb (qI (.ofNat 77)) (bb (qT gt92) b0)))))) <|
  sa pt15 (qT gt93) <|
  se) rfl) (cS (cS (cR (sm pt94 (qT gt15) <|
  y1 pt95 (u1 k466 eLenSlc rfl (qT gt94)) <|
  y2 pt96 (iNeq (qT gt95) (qI (.ofNat 1))) <|
  se) rfl) (cC gt96 (cS (cR (sa pt4 qB <|
  se) rfl) cT) cK)) (cS (cR (sm pt98 (qT gt15) <|
  y2 pt99 (u2 k471 eIaddr rfl (qT gt98) (qI (.ofNat 0))) <|
  y1 pt100 (u1 k472 eFaddr rfl (qT gt99)) <|
  y1 pt101 (u1 k3 eLoad rfl (qT gt100)) <|
  s1 pt102 (uC rfl h11 (bb (qT gt101) b0)) <|
  sm pt97 (qT gt102) <|
  y1 pt103 (fEx (qT gt97)) <|
  y1 pt104 (fEx (qT gt97)) <|
  s1 pt16 (u0 k130 b0) <|
  y0 (u2 k132 eStore rfl (qT gt16) (qT gt103)) <|
  sa pt17 (qT gt104) <|
  se) rfl) (cS (cS (cR (sm pt105 (qT gt17) <|
  y2 pt106 (iNeq (qT gt105) (qI (.ofNat 0))) <|
  sm pt107 (qT gt106) <|
  g1 gt107 pt108 (u1 k53 eFaddr rfl (qT gt16)) rfl <|
  g1 gt107 pt109 (u1 k54 eLoad rfl (qT gt108)) rfl <|
  g1 gt107 pt110 (u1 k38 eLenSlc rfl (qT gt109)) rfl <|
  g1 gt107 pt111 (fMv (qT gt0)) rfl <|
  g1 gt107 pt112 (iNeq (qT gt110) (qT gt111)) rfl <|
  s1 pt113 (uP (qT gt107) qB (qT gt112)) <|
  se) rfl) (cC gt113 (cS (cR (sa pt4 qB <|
  se) rfl) cT) cK)) (cS (cR (sa pt18 (qI (.ofNat 0)) <|
  se) rfl) (cB (cO (cS (cS (cR (sm pt114 (qT gt18) <|
  sm pt115 (qT gt0) <|
  y2 pt116 (iLss (qT gt114) (qT gt115)) <|
  se) rfl) (cC gt116 cK cE)) (cS (cB (cS (cD mo (d1 0 0 rfl pt119 k53 (aT gt16 a0) <|
  d1 1 1 rfl pt120 k54 (aT gt119 a0) <|
  d1 2 0 rfl pt121 oM (aT gt18 a0) <|
  d1 3 7 rfl pt122 k39 (aT gt120 (aT gt121 a0)) <|
  d1 4 15 rfl pt123 k37 (aT gt122 a0) <|
  d1 5 31 rfl pt124 k3 (aT gt123 a0) <|
  d1 6 0 rfl pt125 oM (aT gt14 a0) <|
  d1 7 64 rfl pt126 oI (aT gt125 (aI (.ofNat 1) a0)) <|
  d1 8 0 rfl pt127 oM (aT gt18 a0) <|
  d1 9 448 rfl pt128 oI (aT gt126 (aT gt127 a0)) <|
  d1 10 0 rfl pt129 oM (aT gt0 a0) <|
  d1 11 1984 rfl pt130 oI (aT gt128 (aT gt129 a0)) <|
  d1 12 4032 rfl pt131 k57 (aT gt130 a0) <|
  d1 13 8128 rfl pt132 k58 (aT gt131 a0) <|
  d1 14 16320 rfl pt133 k60 (aT gt132 a0) <|
  d1 15 32704 rfl pt134 oS (aV (.one (.str [49, 50, 55])) rfl (aT gt133 a0)) <|
  d1 16 65535 rfl pt135 oS (aT gt124 (aT gt134 a0)) <|
  de) rfl rfl rfl) (cC gt135 (cS (cR (sa pt4 qB <|
  se) rfl) cT) cK))) (cR (sm pt117 (qT gt18) <|
  y2 pt118 (iAdd (qT gt117) (qI (.ofNat 1))) <|
  sa pt18 (qT gt118) <|
  se) rfl))))))))))) (cR (sm pt89 (qT gt14) <|
  y2 pt90 (iAdd (qT gt89) (qI (.ofNat 1))) <|
  sa pt14 (qT gt90) <|
  se) rfl))⟩
noncomputable def tlx : {X : XCode // Good Pg 146 (sqB cLoop) X} := ⟨_, (cS (cR (sm pt136 (qT gt5) <|
  s1 pt137 (uC rfl h12 (bb (qT gt136) b0)) <|
  sm pt138 (qT gt0) <|
  sm pt139 (qT gt1) <|
  y2 pt140 (iAdd (qT gt138) (qT gt139)) <|
  y2 pt141 (iSub (qT gt140) (qI (.ofNat 1))) <|
  y2 pt142 (iEql (qT gt137) (qT gt141)) <|
  sm pt143 (qT gt142) <|
  g1 gt143 pt144 (uC rfl h6x b0) rfl <|
  s1 pt145 (uP (qT gt143) (qT gt144) qB) <|
  sa pt4 (qT gt145) <|
  se) rfl) cT)⟩
end Go.Proofs.YtddbhljljmijcaaGreat.V

/- TopTurns: the rounds of its loop. -/
namespace Go.Proofs.YtddbhljljmijcaaGreat.V
open Go.RowKit Go.Proofs Go.Proofs.Tryz
set_option linter.unusedVariables false
set_option linter.unusedSimpArgs false

/-! ### Operations, at a frame that is not known -/
theorem rM_step {g : Get} {p : Put} {s d : Nat} (hg : GetOk g s) (hp : PutOk p d) (rx : RX) (E : Env) (h : Heap) (k : Env → Heap → Bool) : ∃ E', rM g p rx E h k = rx E' h k ∧ ∀ j, E'.slot j = if d = j then E.slot s else E.slot j := by
  obtain ⟨E', e, q⟩ := hp (E.slot s) E (fun env' => rx env' h k)
  exact ⟨E', (hg E _).trans e, q⟩
theorem r2_step {g g' : Get} {f : L2} {p : Put} {d : Nat} {x y v : AV} {E : Env} {h : Heap} (h1 : ∀ k, g E k = k x) (h2 : ∀ k, g' E k = k y) (hf : ∀ k, f x y h k = k v h) (hp : PutOk p d) (rx : RX) (k : Env → Heap → Bool) : ∃ E', r2 g g' f p rx E h k = rx E' h k ∧ ∀ j, E'.slot j = if d = j then v else E.slot j := by
  obtain ⟨E', e, q⟩ := hp v E (fun env' => rx env' h k)
  refine ⟨E', ?_, q⟩
  show g E (fun v => g' E (fun u => f v u h (fun r h' => p r E (fun env' => rx env' h' k)))) = _
  rw [h1, h2, hf]
  exact e
theorem add_nat (m r : Nat) (hb : m + r < 9223372036854775808) (h : Heap) (k : AV → Heap → Bool) : lAdd (.one (.int .i64 (.ofNat m))) (.one (.int .i64 (.ofNat r))) h k = k (.one (.int .i64 (.ofNat (m + r)))) h := by
  show fN (Nat.add m r) (fun s => gd (Nat.blt s 9223372036854775808) (k (.one (.int .i64 (.ofNat s))) h)) = _
  rw [fN_eq]
  have : Nat.blt (Nat.add m r) 9223372036854775808 = true := by simpa [Nat.blt_eq] using hb
  rw [this]
  rfl
theorem lss_nat (i n : Nat) (h : Heap) (k : AV → Heap → Bool) : lLss (.one (.int .i64 (.ofNat i))) (.one (.int .i64 (.ofNat n))) h k = k (.one (.bool (Nat.blt i n))) h := by
  show Bool.rec (motive := fun _ => Bool) (k (.one (.bool false)) h) (k (.one (.bool true)) h) (Nat.blt i n) = _
  cases Nat.blt i n <;> rfl
theorem s17 (E : Env) (h : Heap) (K : Ex → Env → Heap → Bool) (i m r : Nat) (h14 : E.slot 14 = .one (.int .i64 (.ofNat i))) (h0 : E.slot 0 = .one (.int .i64 (.ofNat m))) (h1 : E.slot 1 = .one (.int .i64 (.ofNat r))) (hb : m + r < 9223372036854775808) :
    ∃ E', a17x.1 E h K = K .normal E' h ∧ E'.slot 88 = .one (.bool (Nat.blt i (m + r))) ∧ ∀ t, (t < 84 ∨ 88 < t) → E'.slot t = E.slot t := by
  obtain ⟨E1, e1, q1⟩ := rM_step gt14 pt84 (rM t0 p85 (rM t1 p86 (r2 t85 t86 lAdd p87 (r2 t84 t87 lLss p88 rNil)))) E h (fun env' h' => K .normal env' h')
  obtain ⟨E2, e2, q2⟩ := rM_step gt0 pt85 (rM t1 p86 (r2 t85 t86 lAdd p87 (r2 t84 t87 lLss p88 rNil))) E1 h (fun env' h' => K .normal env' h')
  obtain ⟨E3, e3, q3⟩ := rM_step gt1 pt86 (r2 t85 t86 lAdd p87 (r2 t84 t87 lLss p88 rNil)) E2 h (fun env' h' => K .normal env' h')
  have v85 : E3.slot 85 = .one (.int .i64 (.ofNat m)) := by simp [q3, q2, q1, h0]
  have v86 : E3.slot 86 = .one (.int .i64 (.ofNat r)) := by simp [q3, q2, q1, h1]
  obtain ⟨E4, e4, q4⟩ := r2_step (fun k => (gt85 E3 k).trans (by rw [v85])) (fun k => (gt86 E3 k).trans (by rw [v86])) (fun k => add_nat m r hb h k) pt87 (r2 t84 t87 lLss p88 rNil) (fun env' h' => K .normal env' h')
  have v84 : E4.slot 84 = .one (.int .i64 (.ofNat i)) := by simp [q4, q3, q2, q1, h14]
  have v87 : E4.slot 87 = .one (.int .i64 (.ofNat (m + r))) := by simp [q4]
  obtain ⟨E5, e5, q5⟩ := r2_step (fun k => (gt84 E4 k).trans (by rw [v84])) (fun k => (gt87 E4 k).trans (by rw [v87])) (fun k => lss_nat i (m + r) h k) pt88 rNil (fun env' h' => K .normal env' h')
  refine ⟨E5, ?_, by simp [q5], fun t ht => ?_⟩
  · exact e1.trans (e2.trans (e3.trans (e4.trans e5)))
  · rw [q5, if_neg (by omega), q4, if_neg (by omega), q3, if_neg (by omega), q2, if_neg (by omega), q1, if_neg (by omega)]

/-! ### Rounds -/
theorem env_known {n : Nat} {D : List Deferred} {ρ : Ren} {E E1 : Env} {a : Act} (hE : EnvR n D ρ E a) (h1 : E.slot 1 = .sym 0) {r : Nat} (h0 : ρ 0 = .val (.int .i64 (.ofNat r))) (q : ∀ j, E1.slot j = if 1 = j then .one (.int .i64 (.ofNat r)) else E.slot j) : EnvR n D ρ E1 a := by
  refine ⟨hE.size, hE.defers, fun t e => ?_⟩
  by_cases ht : 1 = t
  · subst ht
    obtain ⟨V, e1, e2⟩ := hE.get 1 (by rw [h1]; rfl)
    rw [h1] at e2
    cases e2 with | sym e2 => ?_
    rw [h0] at e2
    cases e2
    exact ⟨_, e1, by rw [q, if_pos rfl]; exact .one (.int _ _)⟩
  · rw [q, if_neg ht] at e ⊢
    exact hE.get t e
theorem isAny_eq {v : AV} (h : v.isAny = true) : v = .any := by cases v <;> first | rfl | cases h
noncomputable def isI (n : Nat) (v : AV) : Bool := i64K v (fun x => eqI x (.ofNat n))
theorem isI_eq {n : Nat} {v : AV} (h : isI n v = true) : v = .one (.int .i64 (.ofNat n)) := by
  obtain ⟨x, rfl, hx⟩ := i64K_sound h
  rw [eqI_eq] at hx
  have := eq_of_beq hx
  subst this
  rfl
noncomputable def headOk (m i : Nat) (E : Env) : Bool := gd (isI m (E.slot 0)) (gd (isI i (E.slot 14)) (gd (sameV [0] (.sym 0) (E.slot 1)) (gd (E.slot 84).isAny (gd (E.slot 85).isAny (gd (E.slot 86).isAny (gd (E.slot 87).isAny (E.slot 88).isAny))))))
theorem headOk_sound {m i : Nat} {E : Env} (h : headOk m i E = true) : E.slot 0 = .one (.int .i64 (.ofNat m)) ∧ E.slot 14 = .one (.int .i64 (.ofNat i)) ∧ E.slot 1 = .sym 0 ∧ ∀ t, 84 ≤ t → t ≤ 88 → E.slot t = .any := by
  obtain ⟨k1, h⟩ := gd_eq h
  obtain ⟨k2, h⟩ := gd_eq h
  obtain ⟨k3, h⟩ := gd_eq h
  obtain ⟨k4, h⟩ := gd_eq h
  obtain ⟨k5, h⟩ := gd_eq h
  obtain ⟨k6, h⟩ := gd_eq h
  obtain ⟨k7, k8⟩ := gd_eq h
  refine ⟨isI_eq k1, isI_eq k2, ?_, fun t h1 h2 => ?_⟩
  · cases e : E.slot 1 with
    | sym b =>
      rw [e] at k3
      have := isAt_iff (show isAt [0] 0 b = true from k3)
      simp at this
      rw [this]
    | _ => rw [e] at k3; cases k3
  · have : t = 84 ∨ t = 85 ∨ t = 86 ∨ t = 87 ∨ t = 88 := by omega
    rcases this with rfl | rfl | rfl | rfl | rfl <;> apply isAny_eq <;> assumption
/-- The end, where the second argument is this. -/
noncomputable def tailOk (r : Nat) (E : Env) (S : Heap) : Bool := p1 (.one (.int .i64 (.ofNat r))) E (fun E' => tlx.1 E' S (retK (fun env _ => t4 env isTrue)))
theorem tail_sound {r : Nat} {E : Env} {S : Heap} (h : tailOk r E S = true) (h1 : E.slot 1 = .sym 0) {F : Fence} {H : Nat} {W0 : World} {ρ : Ren} {a : Act} {w : World} (hF : Wide F) (hE : EnvR 146 [] ρ E a) (hR : Rel H W0 ρ S w) (h0 : ρ 0 = .val (.int .i64 (.ofNat r))) : (sqB cLoop).wpIn F 0 Pg (Fin H W0) a w := by
  obtain ⟨E1, e1, q1⟩ := pt1 (.one (.int .i64 (.ofNat r))) E (fun E' => tlx.1 E' S (retK (fun env _ => t4 env isTrue)))
  have h : tlx.1 E1 S (retK (fun env _ => t4 env isTrue)) = true := e1.symm.trans h
  obtain ⟨e, E2, S2, k1, k2⟩ := tlx.2 _ _ _ h
  obtain ⟨rfl, k3⟩ := retK_sound k1
  rw [gt4] at k3
  have k4 := isTrue_sound k3
  exact k2 F H W0 [] ρ a w _ hF (env_known hE h1 h0 q1) hR fun a' w' ρ' hx hR' hE' => ⟨rfl, E2, S2, ρ', hE', hR', k4⟩
def Done (m i : Nat) (E : Env) (S : Heap) : Prop := ∀ (r : Nat), r ≤ 20 → i ≤ m + r → ∀ (F : Fence) (H : Nat) (W0 : World) (ρ : Ren) (a : Act) (w : World), Wide F → EnvR 146 [] ρ E a → Rel H W0 ρ S w → ρ 0 = .val (.int .i64 (.ofNat r)) →
  Code.roundsIn F 0 Pg body2 (fun e a w => e = .exit 2 ∧ (sqB cLoop).wpIn F 0 Pg (Fin H W0) a w) (m + r - i + 1) a w
theorem body2_eq : body2 = .seq (.seq (sqA (sqA body2)) (.cond (.tmp 88) .skip (.exit 2))) (sqB body2) := rfl
theorem code17 {E : Env} {S : Heap} {i m r : Nat} (h14 : E.slot 14 = .one (.int .i64 (.ofNat i))) (h0 : E.slot 0 = .one (.int .i64 (.ofNat m))) (h1 : E.slot 1 = .one (.int .i64 (.ofNat r))) (hb : m + r < 9223372036854775808) :
    ∃ E', CodeS Pg 146 (sqA (sqA body2)) E S .normal E' S ∧ E'.slot 88 = .one (.bool (Nat.blt i (m + r))) ∧ ∀ t, (t < 84 ∨ 88 < t) → E'.slot t = E.slot t := by
  classical
  obtain ⟨E1, e1, q1, q2⟩ := s17 E S (fun e E' S' => decide (e = .normal ∧ S' = S ∧ E'.slot 88 = .one (.bool (Nat.blt i (m + r))) ∧ ∀ t, (t < 84 ∨ 88 < t) → E'.slot t = E.slot t)) i m r h14 h0 h1 hb
  obtain ⟨e, E2, S2, k1, k2⟩ := a17x.2 _ _ _ (e1.trans (decide_eq_true ⟨rfl, rfl, q1, q2⟩))
  obtain ⟨rfl, rfl, k3, k4⟩ := of_decide_eq_true k1
  exact ⟨E2, k2, k3, k4⟩
theorem round_done {m i : Nat} {E : Env} {S : Heap} (hm : m ≤ 9) (hh : headOk m i E = true) (htl : m ≤ i → tailOk (i - m) E S = true) (hit : i < m + 20 → ∃ E' S', Done m (i + 1) E' S' ∧ CodeS Pg 146 (sqB body2) E S .normal E' S') : Done m i E S := by
  obtain ⟨s0, s14, s1, sa⟩ := headOk_sound hh
  intro r hr hi F H W0 ρ a w hF hE hR h0
  obtain ⟨E1, _, q1⟩ := pt1 (.one (.int .i64 (.ofNat r))) E (fun _ => true)
  have hE1 := env_known hE s1 h0 q1
  obtain ⟨E2, c2, v88, q2⟩ := code17 (S := S) (E := E1) (i := i) (m := m) (r := r) (by rw [q1, if_neg (by omega), s14]) (by rw [q1, if_neg (by omega), s0]) (by rw [q1, if_pos rfl]) (by omega)
  rw [roundsIn_succ]
  refine (show (Code.seq (.seq (sqA (sqA body2)) (.cond (.tmp 88) .skip (.exit 2))) (sqB body2)).wpIn F 0 Pg _ a w from ?_)
  refine wpIn_seq (wpIn_seq (c2 F H W0 [] ρ a w _ hF hE1 hR fun a1 w1 ρ1 hx1 hR1 hE1' => ?_))
  have h01 := val_le hx1 h0
  have hev := hE1'.eval 88
  rw [v88] at hev
  have hE1'' : EnvR 146 [] ρ1 E a1 := by
    have hEE : EnvR 146 [] ρ1 E1 a1 := hE1'.fewer fun t ht => by
      rcases Nat.lt_or_ge t 84 with k | k
      · exact q2 t (.inl k)
      · rcases Nat.lt_or_ge 88 t with k' | k'
        · exact q2 t (.inr k')
        · rw [q1, if_neg (by omega), sa t k k'] at ht; cases ht
    refine ⟨hEE.size, hEE.defers, fun t ht => ?_⟩
    by_cases e1 : 1 = t
    · subst e1
      obtain ⟨V, f1, f2⟩ := hEE.get 1 (by rw [q1, if_pos rfl]; rfl)
      rw [q1, if_pos rfl] at f2
      refine ⟨V, f1, ?_⟩
      rw [s1]
      have := vinv f2
      cases this
      exact .sym h01
    · have := hEE.get t (by rw [q1, if_neg e1]; exact ht)
      rw [q1, if_neg e1] at this
      exact this
  have hx := vinv hev
  rcases Nat.lt_or_ge i (m + r) with hlt | hge
  · have hb : Nat.blt i (m + r) = true := by simpa [Nat.blt_eq] using hlt
    rw [hb] at hx
    have hc : a1.eval (.tmp 88) = .bool true := by
      show a1.tmps.getD 88 undef = _
      generalize a1.tmps.getD 88 undef = X at hx
      cases hx
      rfl
    refine wpIn_cond_true hc (wpIn_skip ?_)
    obtain ⟨E', S', d1, d2⟩ := hit (by omega)
    refine d2 F H W0 [] ρ1 a1 w1 _ hF hE1'' hR1 fun a2 w2 ρ2 hx2 hR2 hE2 => ?_
    have := d1 r hr (by omega) F H W0 ρ2 a2 w2 hF hE2 hR2 (val_le hx2 h01)
    rw [show m + r - (i + 1) + 1 = m + r - i by omega] at this
    exact this
  · have hb : Nat.blt i (m + r) = false := by
      cases q : Nat.blt i (m + r) with
      | false => rfl
      | true => have : i < m + r := by simpa [Nat.blt_eq] using q
                omega
    rw [hb] at hx
    have hc : a1.eval (.tmp 88) = .bool false := by
      show a1.tmps.getD 88 undef = _
      generalize a1.tmps.getD 88 undef = X at hx
      cases hx
      rfl
    refine wpIn_cond_false hc (wpIn_exit ?_)
    have hr' : r = i - m := by omega
    exact ⟨rfl, tail_sound (htl (by omega)) s1 hF hE1'' hR1 (by rw [h01, hr'])⟩

/-! ### Rounds in a row -/
noncomputable def xRun (m : Nat) (fin : Env → Heap → Bool) (j : Nat) : Nat → Env → Heap → Bool :=
  Nat.rec (motive := fun _ => Nat → Env → Heap → Bool) (fun _ E S => fin E S)
    (fun _ ih i E S => gd (headOk m i E) (gd (Bool.rec (motive := fun _ => Bool) true (tailOk (Nat.sub i m) E S) (Nat.ble m i)) (itx.1 E S (onK (fun E' S' => fN (Nat.succ i) (fun i' => ih i' E' S')))))) j
theorem run_done {m : Nat} (hm : m ≤ 9) {fin : Env → Heap → Bool} : ∀ (j i : Nat) (E : Env) (S : Heap), xRun m fin j i E S = true → (∀ E' S', fin E' S' = true → Done m (i + j) E' S') → Done m i E S
  | 0, i, E, S, h, hf => hf E S h
  | j + 1, i, E, S, h, hf => by
    have h : gd (headOk m i E) (gd (Bool.rec (motive := fun _ => Bool) true (tailOk (Nat.sub i m) E S) (Nat.ble m i)) (itx.1 E S (onK (fun E' S' => fN (Nat.succ i) (fun i' => xRun m fin j i' E' S'))))) = true := h
    obtain ⟨k1, h⟩ := gd_eq h
    obtain ⟨k2, h⟩ := gd_eq h
    obtain ⟨e, E', S', k3, k4⟩ := itx.2 _ _ _ h
    obtain ⟨rfl, k5⟩ := onK_sound k3
    rw [fN_eq] at k5
    have hd := run_done hm j (i + 1) E' S' k5 (fun E2 S2 q => by
      have := hf E2 S2 q
      rw [show i + 1 + j = i + (j + 1) by omega]
      exact this)
    refine round_done hm k1 (fun hmi => ?_) (fun _ => ⟨E', S', hd, k4⟩)
    have : Nat.ble m i = true := by simpa using hmi
    rw [this] at k2
    exact k2
noncomputable def lastOk (m : Nat) (E : Env) (S : Heap) : Bool := gd (headOk m (m + 20) E) (tailOk 20 E S)
theorem last_done {m : Nat} (hm : m ≤ 9) {E : Env} {S : Heap} (h : lastOk m E S = true) : Done m (m + 20) E S := by
  obtain ⟨k1, k2⟩ := gd_eq h
  exact round_done hm k1 (fun _ => by rw [show m + 20 - m = 20 by omega]; exact k2) (fun q => absurd q (by omega))
theorem done_same {pl : List Nat} {E2 E : Env} {S2 S : Heap} (h : isState pl E2 S2 E S = true) {m i : Nat} (hs : Done m i E2 S2) : Done m i E S := by
  simp only [isState, Bool.and_eq_true] at h
  obtain ⟨h1, h2, h3, h4, h5⟩ := h
  intro r hr hi F H W0 ρ a w hF hE hR h0
  have h0' : renOf pl ρ 0 = .val (.int .i64 (.ofNat r)) := by rw [renOf_at h5, h0]
  exact hs r hr hi F H W0 _ a w hF (sameEnv_rel h1 hE) (same_rel h2 h3 h4 h0' hR) h0'

/-! ### Where the blocks of a state are found -/
def atBlk : At → Nat
  | .ptr b _ => b
  | .slc b _ _ _ _ _ => b
  | .mp b => b
  | _ => 0
def avBlk (i : Nat) : AV → Nat
  | .one a => atBlk a
  | .agg l => (match l[i]? with
    | some a => atBlk a
    | none => 0)
  | _ => 0
def blkAt (E : Env) (S : Heap) (pl : List Nat) (p : Nat × Nat) : Nat := match p.1 with
  | 0 => avBlk 0 (E.slot p.2)
  | s + 1 => match pl[s + 1]? with
    | none => 0
    | some b => match S.m.get b with
      | some (.cells c _ _ _) => (match c[p.2]? with
        | some a => atBlk a
        | none => 0)
      | some (.map es) => (match es[p.2 / 64]? with
        | some (_, v) => avBlk (p.2 % 64) v
        | none => 0)
      | _ => 0
noncomputable def plK (ps : List (Nat × Nat)) (E : Env) (S : Heap) : List Nat → (List Nat → Bool) → Bool :=
  List.rec (motive := fun _ => List Nat → (List Nat → Bool) → Bool) (fun pl k => k pl) (fun p _ ih pl k => fN (blkAt E S pl p) (fun b => lappK pl [b] (fun pl' => ih pl' k))) ps
theorem plK_sound {E : Env} {S : Heap} : ∀ {ps : List (Nat × Nat)} {pl : List Nat} {k : List Nat → Bool}, plK ps E S pl k = true → ∃ pl', k pl' = true
  | [], pl, k, h => ⟨pl, h⟩
  | p :: ps, pl, k, h => by
    have h : fN (blkAt E S pl p) (fun b => lappK pl [b] (fun pl' => plK ps E S pl' k)) = true := h
    rw [fN_eq, lappK_eq] at h
    exact plK_sound h
/-- This is the state, its blocks found by these ways. -/
noncomputable def toState (ps : List (Nat × Nat)) (E2 : Env) (S2 : Heap) (E : Env) (S : Heap) : Bool := plK ps E S [0] (fun pl => isState pl E2 S2 E S)
theorem done_state {ps : List (Nat × Nat)} {E2 E : Env} {S2 S : Heap} (h : toState ps E2 S2 E S = true) {m i : Nat} (hs : Done m i E2 S2) : Done m i E S := by
  obtain ⟨pl, h⟩ := plK_sound h
  exact done_same h hs
theorem safe_state {ps : List (Nat × Nat)} {E2 E : Env} {S2 S : Heap} (h : toState ps E2 S2 E S = true) {c : Code} (hs : Safe c E2 S2) : Safe c E S := by
  obtain ⟨pl, h⟩ := plK_sound h
  exact safe_same h hs

/-! ### From the loop's head on -/
theorem roundsIn_mono {F : Fence} {n : Nat} {P : Program} {c : Code} {Q Q' : Exit → Act → World → Prop} (hq : ∀ e a w, Q e a w → Q' e a w) : ∀ {m : Nat} {a : Act} {w : World}, Code.roundsIn F n P c Q m a w → Code.roundsIn F n P c Q' m a w
  | 0, _, _, h => h
  | m + 1, a, w, h => by
    rw [roundsIn_succ] at h ⊢
    refine Code.wpIn_mono (fun e a w q => ?_) h
    cases e <;> first | exact roundsIn_mono hq q | exact hq _ _ _ q
theorem cLoop_eq : cLoop = .seq (.seq (sqA (sqA cLoop)) (.block 2 (.loop body2))) (sqB cLoop) := rfl
theorem safe_loop {m : Nat} {E : Env} {S : Heap} (fin : Env → Heap → Bool) (h : a16x.1 E S (onK fin) = true) (hd : ∀ E' S', fin E' S' = true → Done m 0 E' S') : Safe cLoop E S := by
  obtain ⟨e, E', S', k1, k2⟩ := a16x.2 _ _ _ h
  obtain ⟨rfl, k3⟩ := onK_sound k1
  intro r hr F H W0 ρ a w hF hE hR h0
  refine (show (Code.seq (.seq (sqA (sqA cLoop)) (.block 2 (.loop body2))) (sqB cLoop)).wpIn F 0 Pg _ a w from ?_)
  refine wpIn_seq (wpIn_seq (k2 F H W0 [] ρ a w _ hF hE hR fun a1 w1 ρ1 hx1 hR1 hE1 => ?_))
  refine wpIn_block (wpIn_loop_rounds (m + r - 0 + 1) ?_)
  have := hd E' S' k3 r hr (by omega) F H W0 ρ1 a1 w1 hF hE1 hR1 (val_le hx1 h0)
  refine roundsIn_mono ?_ this
  rintro e a w ⟨rfl, q⟩
  exact q
/-- Where TopTurns begins, its second argument not known. -/
def E0 (m : Nat) : Env := .mk (.mk (.one (.int .i64 (.ofNat m))) (.sym 0) .any .any .any .any .any .any .any .any .any .any) eRow eRow eRow eRow eRow eRow eRow eRow eRow eRow eRow eRow
def S0 : Heap := ⟨.leaf, 1⟩
theorem goodA : GoodL [sqA cIn, sqA (sqB cIn), sqA (sqB (sqB cIn)), sqA (sqB (sqB (sqB cIn))), sqA (sqB (sqB (sqB (sqB cIn)))), sqA (sqB (sqB (sqB (sqB (sqB cIn))))), sqA (sqB (sqB (sqB (sqB (sqB (sqB cIn))))))] [l0x.1, l1x.1, l2x.1, l3x.1, l4x.1, l5x.1, l6x.1] :=
  .cons l0x.2 (.cons l1x.2 (.cons l2x.2 (.cons l3x.2 (.cons l4x.2 (.cons l5x.2 (.cons l6x.2 .nil))))))
theorem goodB : GoodL [sqA (sqB (sqB (sqB (sqB (sqB (sqB (sqB cIn))))))), sqA (sqB (sqB (sqB (sqB (sqB (sqB (sqB (sqB cIn))))))))] [l7x.1, l8x.1] := .cons l7x.2 (.cons l8x.2 .nil)
def cMid : Code → Code := fun c => sqB (sqB (sqB (sqB (sqB (sqB (sqB c))))))
/-- Up to the first answer's packing. -/
noncomputable def runA (m : Nat) (fin : Env → Heap → Bool) : Bool := xChain [l0x.1, l1x.1, l2x.1, l3x.1, l4x.1, l5x.1, l6x.1] (E0 m) S0 (onK fin)
/-- .. and from there to the loop. -/
noncomputable def runB (fin : Env → Heap → Bool) (E : Env) (S : Heap) : Bool := xChain [l7x.1, l8x.1] E S (onK fin)
theorem runA_safe {m : Nat} {fin : Env → Heap → Bool} (h : runA m fin = true) (hs : ∀ E S, fin E S = true → Safe (cMid cIn) E S) : Safe cIn (E0 m) S0 := safe_chain goodA fin h hs
theorem runB_safe {fin : Env → Heap → Bool} {E : Env} {S : Heap} (h : runB fin E S = true) (hs : ∀ E S, fin E S = true → Safe cLoop E S) : Safe (cMid cIn) E S := safe_chain goodB fin h hs
/-- Into the loop, and some rounds. -/
noncomputable def runC (m : Nat) (fin : Env → Heap → Bool) (j : Nat) (E : Env) (S : Heap) : Bool := a16x.1 E S (onK (fun E S => xRun m fin j 0 E S))
theorem runC_safe {m : Nat} (hm : m ≤ 9) {fin : Env → Heap → Bool} {j : Nat} {E : Env} {S : Heap} (h : runC m fin j E S = true) (hs : ∀ E S, fin E S = true → Done m j E S) : Safe cLoop E S :=
  safe_loop (m := m) _ h fun E' S' q => run_done hm j 0 E' S' q (by rw [Nat.zero_add]; exact hs)
end Go.Proofs.YtddbhljljmijcaaGreat.V
