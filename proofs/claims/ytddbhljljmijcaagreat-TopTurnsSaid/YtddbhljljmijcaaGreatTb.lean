/- Functions of the program, evaluated. -/
import Derived.Test.YtddbhljljmijcaaGreatTa
namespace Go.Proofs.YtddbhljljmijcaaGreat.V
open Go.RowKit Go.Proofs Go.Proofs.Tryz
set_option linter.unusedVariables false
set_option maxRecDepth 100000
/- wellspring/node.in -/
noncomputable def g72 : {X : Xop // FnGood Pg 72 X} := ⟨_, fN' rfl Tryz.func72 (by decide) Tryz.ntmps72 Tryz.results72 rfl
 (cS (cR (sa pt6 qB <|
  se) rfl) (cS (cR (sm pt7 (qT gt0) <|
  sm pt8 (qT gt1) <|
  y2 pt9 (iGeq (qT gt7) (qT gt8)) <|
  sm pt10 (qT gt9) <|
  g1 gt10 pt11 (fMv (qT gt0)) rfl <|
  g1 gt10 pt12 (fMv (qT gt2)) rfl <|
  g1 gt10 pt13 (iLeq (qT gt11) (qT gt12)) rfl <|
  s1 pt14 (uP (qT gt10) (qT gt13) qB) <|
  sa pt6 (qT gt14) <|
  se) rfl) cT))
 (rT gt6 r0)⟩
theorem h72 : FnGood Pg 72 g72.1 := g72.2
theorem c72 {d : Option Nat} {ty : TypeId} {pos : String} {af : Array Edge} {g : Option (Nat × Bool)} {x : Operand} {xs : Array Operand} {ats : Array TypeId} : DXOk Pg ⟨d, .call { callee := .value x, args := xs, argTypes := ats }, ty, pos, af, g⟩ (xCallD [(72, g72.1)]) := oG (tb1 h72 tb0)
/- wellspring/node.address -/
noncomputable def g74 : {X : Xop // FnGood Pg 74 X} := ⟨_, fN' rfl Tryz.func74 (by decide) Tryz.ntmps74 Tryz.results74 rfl
 (cS (cR (sa pt2 qB <|
  se) rfl) (cS (cR (sm pt3 (qT gt0) <|
  y1 pt4 (u1 k0 eLenStr rfl (qT gt3)) <|
  y2 pt5 (iEql (qT gt4) (qI (.ofNat 4))) <|
  sm pt6 (qT gt5) <|
  g1 gt6 pt7 (fMv (qT gt0)) rfl <|
  g1 gt6 pt8 (u1 k0 eLenStr rfl (qT gt7)) rfl <|
  g1 gt6 pt9 (iEql (qT gt8) (qI (.ofNat 16))) rfl <|
  s1 pt10 (uP (qT gt6) qB (qT gt9)) <|
  sa pt2 (qT gt10) <|
  se) rfl) cT))
 (rT gt2 r0)⟩
theorem h74 : FnGood Pg 74 g74.1 := g74.2
theorem c74 {d : Option Nat} {ty : TypeId} {pos : String} {af : Array Edge} {g : Option (Nat × Bool)} {x : Operand} {xs : Array Operand} {ats : Array TypeId} : DXOk Pg ⟨d, .call { callee := .value x, args := xs, argTypes := ats }, ty, pos, af, g⟩ (xCallD [(74, g74.1)]) := oG (tb1 h74 tb0)
/- (wellspring/node.Config).may$1 -/
noncomputable def g73 : {X : Xop // FnGood Pg 73 X} := ⟨_, fN' rfl Tryz.func73 (by decide) Tryz.ntmps73 Tryz.results73 rfl
 (cS (cR (sa pt2 qB <|
  se) rfl) (cS (cR (sm pt3 (qT gt0) <|
  s1 pt4 (uC rfl h74 (bb (qT gt3) b0)) <|
  y1 pt5 (fNo (qT gt4)) <|
  sa pt2 (qT gt5) <|
  se) rfl) cT))
 (rT gt2 r0)⟩
theorem h73 : FnGood Pg 73 g73.1 := g73.2
theorem c73 {d : Option Nat} {ty : TypeId} {pos : String} {af : Array Edge} {g : Option (Nat × Bool)} {x : Operand} {xs : Array Operand} {ats : Array TypeId} : DXOk Pg ⟨d, .call { callee := .value x, args := xs, argTypes := ats }, ty, pos, af, g⟩ (xCallD [(73, g73.1)]) := oG (tb1 h73 tb0)
/- slices.IndexFunc[[]string,string] -/
noncomputable def g145 : {X : Xop // FnGood Pg 145 X} := ⟨_, fN' rfl Tryz.func145 (by decide) Tryz.ntmps145 Tryz.results145 rfl
 (cS (cR (sa pt4 (qI (.ofNat 0)) <|
  se) rfl) (cS (cS (cR (sm pt6 (qT gt0) <|
  y1 pt7 (u1 k1 eLenSlc rfl (qT gt6)) <|
  sm pt8 (qI (.ofNat 0)) <|
  se) rfl) (cB (cO (cS (cR (y2 pt9 (iLss (qT gt8) (qT gt7)) <|
  se) rfl) (cS (cC gt9 cK cE) (cS (cB (cS (cR (sm pt10 (qT gt8) <|
  sa pt5 (qT gt10) <|
  se) rfl) (cS (cR (sm pt11 (qT gt1) <|
  sm pt12 (qT gt0) <|
  sm pt13 (qT gt5) <|
  y2 pt14 (u2 k2 eIaddr rfl (qT gt12) (qT gt13)) <|
  y1 pt15 (u1 k3 eLoad rfl (qT gt14)) <|
  s1 pt16 (u0 c73 (bb (qT gt11) (bb (qT gt15) b0))) <|
  se) rfl) (cC gt16 cX cK)))) (cR (y2 pt18 (iAdd (qT gt8) (qI (.ofNat 1))) <|
  sm pt8 (qT gt18) <|
  se) rfl))))))) (cS (cR (sa pt4 (qI (.negSucc 0)) <|
  se) rfl) cT)))
 (rT gt4 r0)⟩
theorem h145 : FnGood Pg 145 g145.1 := g145.2
theorem c145 {d : Option Nat} {ty : TypeId} {pos : String} {af : Array Edge} {g : Option (Nat × Bool)} {x : Operand} {xs : Array Operand} {ats : Array TypeId} : DXOk Pg ⟨d, .call { callee := .value x, args := xs, argTypes := ats }, ty, pos, af, g⟩ (xCallD [(145, g145.1)]) := oG (tb1 h145 tb0)
/- slices.ContainsFunc[[]string,string] -/
noncomputable def g75 : {X : Xop // FnGood Pg 75 X} := ⟨_, fN' rfl Tryz.func75 (by decide) Tryz.ntmps75 Tryz.results75 rfl
 (cS (cR (sa pt4 qB <|
  se) rfl) (cS (cR (sm pt5 (qT gt0) <|
  sm pt6 (qT gt1) <|
  s1 pt7 (uC rfl h145 (bb (qT gt5) (bb (qT gt6) b0))) <|
  y2 pt8 (iGeq (qT gt7) (qI (.ofNat 0))) <|
  sa pt4 (qT gt8) <|
  se) rfl) cT))
 (rT gt4 r0)⟩
theorem h75 : FnGood Pg 75 g75.1 := g75.2
theorem c75 {d : Option Nat} {ty : TypeId} {pos : String} {af : Array Edge} {g : Option (Nat × Bool)} {x : Operand} {xs : Array Operand} {ats : Array TypeId} : DXOk Pg ⟨d, .call { callee := .value x, args := xs, argTypes := ats }, ty, pos, af, g⟩ (xCallD [(75, g75.1)]) := oG (tb1 h75 tb0)
/- (wellspring/node.Config).may -/
noncomputable def g26 : {X : Xop // FnGood Pg 26 X} := ⟨_, fN' rfl Tryz.func26 (by decide) Tryz.ntmps26 Tryz.results26 rfl
 (cS (cR (s1 pt1 (u0 oX (bb (qT gt0) b0)) <|
  sa pt2 qB <|
  se) rfl) (cS (cR (y1 pt6 (u1 k4 eFaddr rfl (qT gt1)) <|
  y1 pt7 (u1 k5 eLoad rfl (qT gt6)) <|
  s1 pt8 (uC rfl h72 (bb (qT gt7) (bb (qI (.ofNat 1)) (bb (qI (.ofNat 1000)) b0)))) <|
  sm pt9 (qT gt8) <|
  g1 gt9 pt10 (u1 k6 eFaddr rfl (qT gt1)) rfl <|
  g1 gt9 pt11 (u1 k5 eLoad rfl (qT gt10)) rfl <|
  g1 gt9 pt12 (uC rfl h72 (bb (qT gt11) (bb (qI (.ofNat 1)) (bb (qI (.ofNat 1000)) b0)))) rfl <|
  s1 pt13 (uP (qT gt9) (qT gt12) qB) <|
  sm pt14 (qT gt13) <|
  g1 gt14 pt15 (u1 k7 eFaddr rfl (qT gt1)) rfl <|
  g1 gt14 pt16 (u1 k5 eLoad rfl (qT gt15)) rfl <|
  g1 gt14 pt17 (uC rfl h72 (bb (qT gt16) (bb (qI (.ofNat 1)) (bb (qI (.ofNat 100)) b0)))) rfl <|
  s1 pt18 (uP (qT gt14) (qT gt17) qB) <|
  sa pt3 (qT gt18) <|
  se) rfl) (cS (cR (y1 pt19 (u1 k8 eFaddr rfl (qT gt1)) <|
  y1 pt20 (u1 k5 eLoad rfl (qT gt19)) <|
  s1 pt21 (uC rfl h72 (bb (qT gt20) (bb (qI (.ofNat 0)) (bb (qI (.ofNat 1000)) b0)))) <|
  sm pt22 (qT gt21) <|
  g1 gt22 pt23 (u1 k9 eFaddr rfl (qT gt1)) rfl <|
  g1 gt22 pt24 (u1 k5 eLoad rfl (qT gt23)) rfl <|
  g1 gt22 pt25 (uC rfl h72 (bb (qT gt24) (bb (qI (.ofNat 1)) (bb (qI (.ofNat 100000)) b0)))) rfl <|
  s1 pt26 (uP (qT gt22) (qT gt25) qB) <|
  sm pt27 (qT gt26) <|
  g1 gt27 pt28 (u1 k10 eFaddr rfl (qT gt1)) rfl <|
  g1 gt27 pt29 (u1 k5 eLoad rfl (qT gt28)) rfl <|
  g1 gt27 pt30 (uC rfl h72 (bb (qT gt29) (bb (qI (.ofNat 1)) (bb (qI (.ofNat 100000)) b0)))) rfl <|
  s1 pt31 (uP (qT gt27) (qT gt30) qB) <|
  sa pt4 (qT gt31) <|
  se) rfl) (cS (cR (sa pt5 (qU rfl) <|
  se) rfl) (cS (cR (sm pt32 (qT gt3) <|
  sm pt33 (qT gt32) <|
  g1 gt33 pt34 (fMv (qT gt4)) rfl <|
  s1 pt35 (uP (qT gt33) (qT gt34) qB) <|
  sm pt36 (qT gt35) <|
  g1 gt36 pt37 (u1 k11 eFaddr rfl (qT gt1)) rfl <|
  g1 gt36 pt38 (u1 k12 eLoad rfl (qT gt37)) rfl <|
  g1 gt36 pt39 (u1 k1 eLenSlc rfl (qT gt38)) rfl <|
  g1 gt36 pt40 (iLeq (qT gt39) (qI (.ofNat 20))) rfl <|
  s1 pt41 (uP (qT gt36) (qT gt40) qB) <|
  sm pt42 (qT gt41) <|
  g1 gt42 pt43 (u1 k11 eFaddr rfl (qT gt1)) rfl <|
  g1 gt42 pt44 (u1 k12 eLoad rfl (qT gt43)) rfl <|
  g1 gt42 pt45 (fMv (qT gt5)) rfl <|
  g1 gt42 pt46 (uC rfl h75 (bb (qT gt44) (bb (qT gt45) b0))) rfl <|
  g1 gt42 pt47 (fNo (qT gt46)) rfl <|
  s1 pt48 (uP (qT gt42) (qT gt47) qB) <|
  sa pt2 (qT gt48) <|
  se) rfl) cT)))))
 (rT gt2 r0)⟩
theorem h26 : FnGood Pg 26 g26.1 := g26.2
theorem c26 {d : Option Nat} {ty : TypeId} {pos : String} {af : Array Edge} {g : Option (Nat × Bool)} {x : Operand} {xs : Array Operand} {ats : Array TypeId} : DXOk Pg ⟨d, .call { callee := .value x, args := xs, argTypes := ats }, ty, pos, af, g⟩ (xCallD [(26, g26.1)]) := oG (tb1 h26 tb0)
/- slices.Clone[[]string,string] -/
noncomputable def g27 : {X : Xop // FnGood Pg 27 X} := ⟨_, fN' rfl Tryz.func27 (by decide) Tryz.ntmps27 Tryz.results27 rfl
 (cS (cR (sa pt2 (qV (.one (.nils)) rfl) <|
  se) rfl) (cS (cS (cR (sm pt3 (qT gt0) <|
  s1 pt4 (u0 k13 (bb (qT gt3) (bb (qV (.one (.nils)) rfl) b0))) <|
  se) rfl) (cC gt4 cX cK)) (cS (cR (s1 pt5 (u0 k14 b0) <|
  sm pt6 (qT gt0) <|
  s1 pt7 (u0 k15 (bb (qT gt5) (bb (qT gt6) b0))) <|
  sa pt2 (qT gt7) <|
  se) rfl) cT)))
 (rT gt2 r0)⟩
theorem h27 : FnGood Pg 27 g27.1 := g27.2
theorem c27 {d : Option Nat} {ty : TypeId} {pos : String} {af : Array Edge} {g : Option (Nat × Bool)} {x : Operand} {xs : Array Operand} {ats : Array TypeId} : DXOk Pg ⟨d, .call { callee := .value x, args := xs, argTypes := ats }, ty, pos, af, g⟩ (xCallD [(27, g27.1)]) := oG (tb1 h27 tb0)
/- wellspring/store.New -/
noncomputable def g28 : {X : Xop // FnGood Pg 28 X} := ⟨_, fN' rfl Tryz.func28 (by decide) Tryz.ntmps28 Tryz.results28 rfl
 (cS (cR (sa pt2 (qV (.one (.nilp)) rfl) <|
  se) rfl) (cS (cS (cR (sm pt3 (qT gt0) <|
  y2 pt4 (iLss (qT gt3) (qI (.ofNat 1))) <|
  sm pt5 (qT gt4) <|
  g1 gt5 pt6 (fMv (qT gt0)) rfl <|
  g1 gt5 pt7 (iGtr (qT gt6) (qI (.ofNat 1000))) rfl <|
  s1 pt8 (uP (qT gt5) qB (qT gt7)) <|
  se) rfl) (cC gt8 cX cK)) (cS (cR (sm pt9 (qT gt0) <|
  s1 pt10 (u0 oZ b0) <|
  s1 pt11 (u0 k16 (bb (qT gt9) (bb (qT gt10) b0))) <|
  s1 pt12 (u0 oX (bb (qT gt11) b0)) <|
  sa pt2 (qT gt12) <|
  se) rfl) cT)))
 (rT gt2 r0)⟩
theorem h28 : FnGood Pg 28 g28.1 := g28.2
theorem c28 {d : Option Nat} {ty : TypeId} {pos : String} {af : Array Edge} {g : Option (Nat × Bool)} {x : Operand} {xs : Array Operand} {ats : Array TypeId} : DXOk Pg ⟨d, .call { callee := .value x, args := xs, argTypes := ats }, ty, pos, af, g⟩ (xCallD [(28, g28.1)]) := oG (tb1 h28 tb0)
/- wellspring/neg.New -/
noncomputable def g29 : {X : Xop // FnGood Pg 29 X} := ⟨_, fN' rfl Tryz.func29 (by decide) Tryz.ntmps29 Tryz.results29 rfl
 (cS (cR (sa pt2 (qV (.one (.nilp)) rfl) <|
  se) rfl) (cS (cS (cR (sm pt3 (qT gt0) <|
  y2 pt4 (iLss (qT gt3) (qI (.ofNat 1))) <|
  sm pt5 (qT gt4) <|
  g1 gt5 pt6 (fMv (qT gt0)) rfl <|
  g1 gt5 pt7 (iGtr (qT gt6) (qI (.ofNat 1000))) rfl <|
  s1 pt8 (uP (qT gt5) qB (qT gt7)) <|
  se) rfl) (cC gt8 cX cK)) (cS (cR (sm pt9 (qT gt0) <|
  s1 pt10 (u0 oZ b0) <|
  s1 pt11 (u0 k17 (bb (qT gt9) (bb (qT gt10) b0))) <|
  s1 pt12 (u0 oX (bb (qT gt11) b0)) <|
  sa pt2 (qT gt12) <|
  se) rfl) cT)))
 (rT gt2 r0)⟩
theorem h29 : FnGood Pg 29 g29.1 := g29.2
theorem c29 {d : Option Nat} {ty : TypeId} {pos : String} {af : Array Edge} {g : Option (Nat × Bool)} {x : Operand} {xs : Array Operand} {ats : Array TypeId} : DXOk Pg ⟨d, .call { callee := .value x, args := xs, argTypes := ats }, ty, pos, af, g⟩ (xCallD [(29, g29.1)]) := oG (tb1 h29 tb0)
/- wellspring/node.New -/
noncomputable def g7 : {X : Xop // FnGood Pg 7 X} := ⟨_, fN' rfl Tryz.func7 (by decide) Tryz.ntmps7 Tryz.results7 rfl
 (cS (cR (s1 pt1 (u0 oX (bb (qT gt0) b0)) <|
  sa pt2 (qV (.one (.nilp)) rfl) <|
  sa pt3 (qI (.ofNat 0)) <|
  se) rfl) (cS (cS (cR (y1 pt4 (u1 k18 eLoadN rfl (qT gt1)) <|
  s1 pt5 (uC rfl h26 (bb (qT gt4) b0)) <|
  y1 pt6 (fNo (qT gt5)) <|
  se) rfl) (cC gt6 cX cK)) (cS (cR (y1 pt7 (u1 k11 eFaddr rfl (qT gt1)) <|
  y1 pt8 (u1 k12 eLoad rfl (qT gt7)) <|
  s1 pt9 (uC rfl h27 (bb (qT gt8) b0)) <|
  y1 pt10 (u1 k11 eFaddr rfl (qT gt1)) <|
  y0 (u2 k19 eStore rfl (qT gt10) (qT gt9)) <|
  se) rfl) (cS (cD mo (d1 0 0 rfl pt11 k18 (aT gt1 a0) <|
  d1 1 0 rfl pt12 k4 (aT gt1 a0) <|
  d1 2 2 rfl pt13 k5 (aT gt12 a0) <|
  d1 4 0 rfl pt15 k6 (aT gt1 a0) <|
  d1 5 16 rfl pt16 k5 (aT gt15 a0) <|
  d1 7 0 rfl pt18 oZ a0 <|
  d1 3 6 rfl pt14 c28 (aU rfl (aT gt13 a0)) <|
  d1 6 62 rfl pt17 c29 (aU rfl (aT gt16 a0)) <|
  d1 8 255 rfl pt19 k20 (aT gt11 (aT gt14 (aT gt17 (aT gt18 a0)))) <|
  d1 9 511 rfl pt20 oX (aT gt19 a0) <|
  d1 10 1023 rfl pt2 oA (aT gt20 a0) <|
  d1 11 2047 rfl pt3 oA (aI (.ofNat 0) a0) <|
  de) rfl rfl rfl) cT))))
 (rT gt2 (rT gt3 r0))⟩
theorem h7 : FnGood Pg 7 g7.1 := g7.2
theorem c7 {d : Option Nat} {ty : TypeId} {pos : String} {af : Array Edge} {g : Option (Nat × Bool)} {x : Operand} {xs : Array Operand} {ats : Array TypeId} : DXOk Pg ⟨d, .call { callee := .value x, args := xs, argTypes := ats }, ty, pos, af, g⟩ (xCallD [(7, g7.1)]) := oG (tb1 h7 tb0)
/- wellspring/wellspringref02.Labels -/
noncomputable def g116 : {X : Xop // FnGood Pg 116 X} := ⟨_, fN' rfl Tryz.func116 (by decide) Tryz.ntmps116 Tryz.results116 rfl
 (cS (cR (sa pt2 (qV (.one (.nils)) rfl) <|
  sa pt3 qB <|
  se) rfl) (cS (cR (sa pt4 (qV (.one (.nils)) rfl) <|
  se) rfl) (cS (cS (cR (sm pt7 (qT gt0) <|
  y1 pt8 (u1 k0 eLenStr rfl (qT gt7)) <|
  y2 pt9 (iLss (qT gt8) (qI (.ofNat 1))) <|
  sm pt10 (qT gt9) <|
  g1 gt10 pt11 (fMv (qT gt0)) rfl <|
  g1 gt10 pt12 (u1 k0 eLenStr rfl (qT gt11)) rfl <|
  g1 gt10 pt13 (iGtr (qT gt12) (qI (.ofNat 255))) rfl <|
  s1 pt14 (uP (qT gt10) qB (qT gt13)) <|
  se) rfl) (cC gt14 cX cK)) (cS (cR (sa pt5 (qI (.ofNat 0)) <|
  se) rfl) (cS (cB (cO (cS (cS (cR (sm pt15 (qT gt5) <|
  sm pt16 (qT gt0) <|
  y1 pt17 (u1 k0 eLenStr rfl (qT gt16)) <|
  y2 pt18 (iLss (qT gt15) (qT gt17)) <|
  se) rfl) (cC gt18 cK cE)) (cB (cS (cR (sm pt19 (qT gt0) <|
  sm pt20 (qT gt5) <|
  y2 pt21 (u2 k21 eIndexS rfl (qT gt19) (qT gt20)) <|
  y1 pt22 (u1 k22 eCvt rfl (qT gt21)) <|
  sa pt6 (qT gt22) <|
  se) rfl) (cS (cS (cR (sm pt23 (qT gt6) <|
  y2 pt24 (iEql (qT gt23) (qI (.ofNat 0))) <|
  se) rfl) (cC gt24 (cS (cR (sm pt25 (qT gt4) <|
  sm pt26 (qT gt5) <|
  sm pt27 (qT gt0) <|
  y1 pt28 (u1 k0 eLenStr rfl (qT gt27)) <|
  y2 pt29 (iSub (qT gt28) (qI (.ofNat 1))) <|
  y2 pt30 (iEql (qT gt26) (qT gt29)) <|
  sa pt2 (qT gt25) <|
  sa pt3 (qT gt30) <|
  se) rfl) cT) cK)) (cS (cS (cR (sm pt31 (qT gt6) <|
  y2 pt32 (iGtr (qT gt31) (qI (.ofNat 63))) <|
  sm pt33 (qT gt32) <|
  g1 gt33 pt34 (fMv (qT gt6)) rfl <|
  g1 gt33 pt35 (fMv (qT gt0)) rfl <|
  g1 gt33 pt36 (u1 k0 eLenStr rfl (qT gt35)) rfl <|
  g1 gt33 pt37 (fMv (qT gt5)) rfl <|
  g1 gt33 pt38 (iSub (qT gt36) (qT gt37)) rfl <|
  g1 gt33 pt39 (iGeq (qT gt34) (qT gt38)) rfl <|
  s1 pt40 (uP (qT gt33) qB (qT gt39)) <|
  se) rfl) (cC gt40 cX cK)) (cS (cR (sm pt41 (qT gt4) <|
  sm pt42 (qT gt0) <|
  sm pt43 (qT gt5) <|
  y2 pt44 (iAdd (qT gt43) (qI (.ofNat 1))) <|
  sm pt45 (qT gt5) <|
  y2 pt46 (iAdd (qT gt45) (qI (.ofNat 1))) <|
  sm pt47 (qT gt6) <|
  y2 pt48 (iAdd (qT gt46) (qT gt47)) <|
  s1 pt49 (u0 k23 (bb (qT gt42) (bb (qT gt44) (bb (qT gt48) b0)))) <|
  s1 pt50 (u0 k24 (bb (qT gt49) b0)) <|
  s1 pt51 (u0 k15 (bb (qT gt41) (bb (qT gt50) b0))) <|
  sa pt4 (qT gt51) <|
  se) rfl) (cR (sm pt52 (qT gt5) <|
  y2 pt53 (iAdd (qT gt52) (qI (.ofNat 1))) <|
  sm pt54 (qT gt6) <|
  y2 pt55 (iAdd (qT gt53) (qT gt54)) <|
  sa pt5 (qT gt55) <|
  se) rfl))))))))) cX)))))
 (rT gt2 (rT gt3 r0))⟩
theorem h116 : FnGood Pg 116 g116.1 := g116.2
theorem c116 {d : Option Nat} {ty : TypeId} {pos : String} {af : Array Edge} {g : Option (Nat × Bool)} {x : Operand} {xs : Array Operand} {ats : Array TypeId} : DXOk Pg ⟨d, .call { callee := .value x, args := xs, argTypes := ats }, ty, pos, af, g⟩ (xCallD [(116, g116.1)]) := oG (tb1 h116 tb0)
/- wellspring/wellspringref02.Check -/
noncomputable def g52 : {X : Xop // FnGood Pg 52 X} := ⟨_, fN' rfl Tryz.func52 (by decide) Tryz.ntmps52 Tryz.results52 rfl
 (cS (cR (sa pt2 qB <|
  se) rfl) (cS (cR (sm pt6 (qT gt0) <|
  s1 pt7 (uC rfl h116 (bb (qT gt6) b0)) <|
  sm pt5 (qT gt7) <|
  y1 pt8 (fEx (qT gt5)) <|
  y1 pt9 (fEx (qT gt5)) <|
  sa pt3 (qT gt8) <|
  sa pt4 (qT gt9) <|
  se) rfl) (cS (cR (sm pt10 (qT gt4) <|
  sa pt2 (qT gt10) <|
  se) rfl) cT)))
 (rT gt2 r0)⟩
theorem h52 : FnGood Pg 52 g52.1 := g52.2
theorem c52 {d : Option Nat} {ty : TypeId} {pos : String} {af : Array Edge} {g : Option (Nat × Bool)} {x : Operand} {xs : Array Operand} {ats : Array TypeId} : DXOk Pg ⟨d, .call { callee := .value x, args := xs, argTypes := ats }, ty, pos, af, g⟩ (xCallD [(52, g52.1)]) := oG (tb1 h52 tb0)
/- wellspring/wellspringref08.small -/
noncomputable def g76 : {X : Xop // FnGood Pg 76 X} := ⟨_, fN' rfl Tryz.func76 (by decide) Tryz.ntmps76 Tryz.results76 rfl
 (cS (cR (sa pt2 qB <|
  se) rfl) (cS (cR (sm pt3 (qT gt0) <|
  y2 pt4 (iGeq (qT gt3) (qI (.ofNat 0))) <|
  sm pt5 (qT gt4) <|
  g1 gt5 pt6 (fMv (qT gt0)) rfl <|
  g1 gt5 pt7 (iLeq (qT gt6) (qI (.ofNat 65535))) rfl <|
  s1 pt8 (uP (qT gt5) (qT gt7) qB) <|
  sa pt2 (qT gt8) <|
  se) rfl) cT))
 (rT gt2 r0)⟩
theorem h76 : FnGood Pg 76 g76.1 := g76.2
theorem c76 {d : Option Nat} {ty : TypeId} {pos : String} {af : Array Edge} {g : Option (Nat × Bool)} {x : Operand} {xs : Array Operand} {ats : Array TypeId} : DXOk Pg ⟨d, .call { callee := .value x, args := xs, argTypes := ats }, ty, pos, af, g⟩ (xCallD [(76, g76.1)]) := oG (tb1 h76 tb0)
/- wellspring/wellspringref01.Take -/
noncomputable def g102 : {X : Xop // FnGood Pg 102 X} := ⟨_, fN' rfl Tryz.func102 (by decide) Tryz.ntmps102 Tryz.results102 rfl
 (cS (cR (sa pt6 (qV (.one (.str [])) rfl) <|
  sa pt7 qB <|
  se) rfl) (cS (cS (cR (sm pt8 (qT gt1) <|
  y2 pt9 (iLss (qT gt8) (qI (.ofNat 0))) <|
  sm pt10 (qT gt9) <|
  g1 gt10 pt11 (fMv (qT gt2)) rfl <|
  g1 gt10 pt12 (iLss (qT gt11) (qI (.ofNat 0))) rfl <|
  s1 pt13 (uP (qT gt10) qB (qT gt12)) <|
  sm pt14 (qT gt13) <|
  g1 gt14 pt15 (fMv (qT gt1)) rfl <|
  g1 gt14 pt16 (fMv (qT gt0)) rfl <|
  g1 gt14 pt17 (u1 k0 eLenStr rfl (qT gt16)) rfl <|
  g1 gt14 pt18 (iGtr (qT gt15) (qT gt17)) rfl <|
  s1 pt19 (uP (qT gt14) qB (qT gt18)) <|
  sm pt20 (qT gt19) <|
  g1 gt20 pt21 (fMv (qT gt2)) rfl <|
  g1 gt20 pt22 (fMv (qT gt0)) rfl <|
  g1 gt20 pt23 (u1 k0 eLenStr rfl (qT gt22)) rfl <|
  g1 gt20 pt24 (fMv (qT gt1)) rfl <|
  g1 gt20 pt25 (iSub (qT gt23) (qT gt24)) rfl <|
  g1 gt20 pt26 (iGtr (qT gt21) (qT gt25)) rfl <|
  s1 pt27 (uP (qT gt20) qB (qT gt26)) <|
  se) rfl) (cC gt27 cX cK)) (cS (cR (sm pt28 (qT gt0) <|
  sm pt29 (qT gt1) <|
  sm pt30 (qT gt1) <|
  sm pt31 (qT gt2) <|
  y2 pt32 (iAdd (qT gt30) (qT gt31)) <|
  s1 pt33 (u0 k23 (bb (qT gt28) (bb (qT gt29) (bb (qT gt32) b0)))) <|
  sa pt6 (qT gt33) <|
  sa pt7 qB <|
  se) rfl) cT)))
 (rT gt6 (rT gt7 r0))⟩
theorem h102 : FnGood Pg 102 g102.1 := g102.2
theorem c102 {d : Option Nat} {ty : TypeId} {pos : String} {af : Array Edge} {g : Option (Nat × Bool)} {x : Operand} {xs : Array Operand} {ats : Array TypeId} : DXOk Pg ⟨d, .call { callee := .value x, args := xs, argTypes := ats }, ty, pos, af, g⟩ (xCallD [(102, g102.1)]) := oG (tb1 h102 tb0)
/- wellspring/wellspringref05.shape -/
noncomputable def g224 : {X : Xop // FnGood Pg 224 X} := ⟨_, fN' rfl Tryz.func224 (by decide) Tryz.ntmps224 Tryz.results224 rfl
 (cS (cR (s1 pt2 (u0 k25 b0) <|
  se) rfl) (cS (cS (cR (sm pt3 (qT gt0) <|
  se) rfl) (cB (cS (cS (cR (y2 pt5 (iEql (qT gt3) (qI (.ofNat 2))) <|
  sa pt4 (qT gt5) <|
  se) rfl) (cC gt4 cK (cS (cR (y2 pt6 (iEql (qT gt3) (qI (.ofNat 5))) <|
  sa pt4 (qT gt6) <|
  se) rfl) (cC gt4 cK (cR (y2 pt7 (iEql (qT gt3) (qI (.ofNat 12))) <|
  sa pt4 (qT gt7) <|
  se) rfl))))) (cC gt4 cX (cS (cR (y2 pt10 (iEql (qT gt3) (qI (.ofNat 6))) <|
  sa pt9 (qT gt10) <|
  se) rfl) (cC gt9 cX (cS (cR (y2 pt13 (iEql (qT gt3) (qI (.ofNat 15))) <|
  sa pt12 (qT gt13) <|
  se) rfl) (cC gt12 cX (cS (cR (y2 pt16 (iEql (qT gt3) (qI (.ofNat 33))) <|
  sa pt15 (qT gt16) <|
  se) rfl) (cC gt15 cX (cS (cR (y2 pt19 (iEql (qT gt3) (qI (.ofNat 1))) <|
  sa pt18 (qT gt19) <|
  se) rfl) (cC gt18 (cS (cR (s1 pt20 (u0 k26 (bb (qI (.ofNat 4)) (bb (qI (.ofNat 0)) (bb (qI (.ofNat 0)) b0)))) <|
  y0 (u2 k27 eStore rfl (qT gt2) (qT gt20)) <|
  se) rfl) cT) cX)))))))))))) cX))
 (rR gt2 underlying50 rfl i50 rfl r0)⟩
theorem h224 : FnGood Pg 224 g224.1 := g224.2
theorem c224 {d : Option Nat} {ty : TypeId} {pos : String} {af : Array Edge} {g : Option (Nat × Bool)} {x : Operand} {xs : Array Operand} {ats : Array TypeId} : DXOk Pg ⟨d, .call { callee := .value x, args := xs, argTypes := ats }, ty, pos, af, g⟩ (xCallD [(224, g224.1)]) := oG (tb1 h224 tb0)
/- wellspring/wellspringref05.Expand -/
noncomputable def g181 : {X : Xop // FnGood Pg 181 X} := ⟨_, fN' rfl Tryz.func181 (by decide) Tryz.ntmps181 Tryz.results181 rfl
 (cS (cR (sa pt8 (qV (.one (.str [])) rfl) <|
  sa pt9 (qI (.ofNat 0)) <|
  se) rfl) (cS (cR (sm pt20 (qT gt0) <|
  sm pt21 (qT gt1) <|
  sm pt22 (qT gt2) <|
  s1 pt23 (uC rfl h102 (bb (qT gt20) (bb (qT gt21) (bb (qT gt22) b0)))) <|
  sm pt19 (qT gt23) <|
  y1 pt24 (fEx (qT gt19)) <|
  y1 pt25 (fEx (qT gt19)) <|
  sa pt10 (qT gt24) <|
  sa pt11 (qT gt25) <|
  se) rfl) (cS (cS (cR (sm pt26 (qT gt11) <|
  y1 pt27 (fNo (qT gt26)) <|
  se) rfl) (cC gt27 cX cK)) (cS (cR (sm pt28 (qT gt3) <|
  s1 pt29 (uC rfl h224 (bb (qT gt28) b0)) <|
  s1 pt12 (u0 k25 b0) <|
  y0 (u2 k27 eStore rfl (qT gt12) (qT gt29)) <|
  se) rfl) (cS (cS (cR (y1 pt30 (u1 k28 eLoadN rfl (qT gt12)) <|
  s1 pt31 (u0 k29 b0) <|
  s1 pt32 (u0 k30 (bb (qT gt30) (bb (qT gt31) b0))) <|
  se) rfl) (cC gt32 cX cK)) (cS (cS (cR (s1 pt46 (u0 k31 (bb (qT gt12) (bb (qI (.ofNat 0)) b0))) <|
  y1 pt47 (u1 k5 eLoad rfl (qT gt46)) <|
  sm pt48 (qT gt2) <|
  y2 pt49 (iGtr (qT gt47) (qT gt48)) <|
  se) rfl) (cC gt49 cX cK)) (cS (cR (sm pt50 (qT gt10) <|
  s1 pt51 (u0 k31 (bb (qT gt12) (bb (qI (.ofNat 0)) b0))) <|
  y1 pt52 (u1 k5 eLoad rfl (qT gt51)) <|
  s1 pt53 (u0 k32 (bb (qT gt50) (bb (qT gt52) b0))) <|
  sa pt13 (qT gt53) <|
  se) rfl) (cS (cR (sm pt54 (qT gt1) <|
  s1 pt55 (u0 k31 (bb (qT gt12) (bb (qI (.ofNat 0)) b0))) <|
  y1 pt56 (u1 k5 eLoad rfl (qT gt55)) <|
  y2 pt57 (iAdd (qT gt54) (qT gt56)) <|
  sa pt14 (qT gt57) <|
  se) rfl) (cS (cS (cR (sa pt15 (qI (.ofNat 0)) <|
  se) rfl) (cB (cO (cS (cS (cR (sm pt58 (qT gt15) <|
  s1 pt59 (u0 k31 (bb (qT gt12) (bb (qI (.ofNat 1)) b0))) <|
  y1 pt60 (u1 k5 eLoad rfl (qT gt59)) <|
  y2 pt61 (iLss (qT gt58) (qT gt60)) <|
  se) rfl) (cC gt61 cK cE)) cX)))) (cS (cS (cR (sm pt77 (qT gt14) <|
  s1 pt78 (u0 k31 (bb (qT gt12) (bb (qI (.ofNat 2)) b0))) <|
  y1 pt79 (u1 k5 eLoad rfl (qT gt78)) <|
  y2 pt80 (iAdd (qT gt77) (qT gt79)) <|
  sm pt81 (qT gt1) <|
  sm pt82 (qT gt2) <|
  y2 pt83 (iAdd (qT gt81) (qT gt82)) <|
  y2 pt84 (iNeq (qT gt80) (qT gt83)) <|
  se) rfl) (cC gt84 cX cK)) (cS (cR (sm pt85 (qT gt13) <|
  sm pt86 (qT gt0) <|
  sm pt87 (qT gt14) <|
  sm pt88 (qT gt1) <|
  sm pt89 (qT gt2) <|
  y2 pt90 (iAdd (qT gt88) (qT gt89)) <|
  s1 pt91 (u0 k23 (bb (qT gt86) (bb (qT gt87) (bb (qT gt90) b0)))) <|
  s1 pt92 (u0 oS (bb (qT gt85) (bb (qT gt91) b0))) <|
  sa pt13 (qT gt92) <|
  se) rfl) (cS (cS (cR (sm pt93 (qT gt13) <|
  y1 pt94 (u1 k0 eLenStr rfl (qT gt93)) <|
  y2 pt95 (iGtr (qT gt94) (qI (.ofNat 65535))) <|
  se) rfl) (cC gt95 cX cK)) (cS (cR (sm pt96 (qT gt13) <|
  sa pt8 (qT gt96) <|
  sa pt9 (qI (.ofNat 0)) <|
  se) rfl) cT)))))))))))))
 (rT gt8 (rT gt9 r0))⟩
theorem h181 : FnGood Pg 181 g181.1 := g181.2
theorem c181 {d : Option Nat} {ty : TypeId} {pos : String} {af : Array Edge} {g : Option (Nat × Bool)} {x : Operand} {xs : Array Operand} {ats : Array TypeId} : DXOk Pg ⟨d, .call { callee := .value x, args := xs, argTypes := ats }, ty, pos, af, g⟩ (xCallD [(181, g181.1)]) := oG (tb1 h181 tb0)
/- wellspring/wellspringref05.Check -/
noncomputable def g148 : {X : Xop // FnGood Pg 148 X} := ⟨_, fN' rfl Tryz.func148 (by decide) Tryz.ntmps148 Tryz.results148 rfl
 (cS (cR (sa pt4 qB <|
  se) rfl) (cS (cS (cR (sm pt7 (qT gt1) <|
  y1 pt8 (u1 k0 eLenStr rfl (qT gt7)) <|
  y2 pt9 (iGtr (qT gt8) (qI (.ofNat 65535))) <|
  se) rfl) (cC gt9 cX cK)) (cS (cR (sm pt11 (qT gt1) <|
  sm pt12 (qT gt1) <|
  y1 pt13 (u1 k0 eLenStr rfl (qT gt12)) <|
  sm pt14 (qT gt0) <|
  s1 pt15 (uC rfl h181 (bb (qT gt11) (bb (qI (.ofNat 0)) (bb (qT gt13) (bb (qT gt14) b0))))) <|
  sm pt10 (qT gt15) <|
  y1 pt16 (fEx (qT gt10)) <|
  y1 pt17 (fEx (qT gt10)) <|
  sa pt5 (qT gt16) <|
  sa pt6 (qT gt17) <|
  se) rfl) (cS (cR (sm pt18 (qT gt6) <|
  y2 pt19 (iEql (qT gt18) (qI (.ofNat 0))) <|
  sm pt20 (qT gt19) <|
  g1 gt20 pt21 (fMv (qT gt5)) rfl <|
  g1 gt20 pt22 (fMv (qT gt1)) rfl <|
  g1 gt20 pt23 (u0 oS (bb (qT gt21) (bb (qT gt22) b0))) rfl <|
  s1 pt24 (uP (qT gt20) (qT gt23) qB) <|
  sa pt4 (qT gt24) <|
  se) rfl) cT))))
 (rT gt4 r0)⟩
theorem h148 : FnGood Pg 148 g148.1 := g148.2
theorem c148 {d : Option Nat} {ty : TypeId} {pos : String} {af : Array Edge} {g : Option (Nat × Bool)} {x : Operand} {xs : Array Operand} {ats : Array TypeId} : DXOk Pg ⟨d, .call { callee := .value x, args := xs, argTypes := ats }, ty, pos, af, g⟩ (xCallD [(148, g148.1)]) := oG (tb1 h148 tb0)
/- wellspring/wellspringref06.Check -/
noncomputable def g79 : {X : Xop // FnGood Pg 79 X} := ⟨_, fN' rfl Tryz.func79 (by decide) Tryz.ntmps79 Tryz.results79 rfl
 (cS (cR (s1 pt1 (u0 oX (bb (qT gt0) b0)) <|
  sa pt2 qB <|
  se) rfl) (cS (cR (y1 pt3 (u1 k33 eFaddr rfl (qT gt1)) <|
  y1 pt4 (u1 k3 eLoad rfl (qT gt3)) <|
  s1 pt5 (uC rfl h52 (bb (qT gt4) b0)) <|
  sm pt6 (qT gt5) <|
  g1 gt6 pt7 (u1 k34 eFaddr rfl (qT gt1)) rfl <|
  g1 gt6 pt8 (u1 k5 eLoad rfl (qT gt7)) rfl <|
  g1 gt6 pt9 (iGeq (qT gt8) (qI (.ofNat 0))) rfl <|
  s1 pt10 (uP (qT gt6) (qT gt9) qB) <|
  sm pt11 (qT gt10) <|
  g1 gt11 pt12 (u1 k34 eFaddr rfl (qT gt1)) rfl <|
  g1 gt11 pt13 (u1 k5 eLoad rfl (qT gt12)) rfl <|
  g1 gt11 pt14 (iLeq (qT gt13) (qI (.ofNat 65535))) rfl <|
  s1 pt15 (uP (qT gt11) (qT gt14) qB) <|
  sm pt16 (qT gt15) <|
  g1 gt16 pt17 (u1 k35 eFaddr rfl (qT gt1)) rfl <|
  g1 gt16 pt18 (u1 k5 eLoad rfl (qT gt17)) rfl <|
  g1 gt16 pt19 (iGeq (qT gt18) (qI (.ofNat 0))) rfl <|
  s1 pt20 (uP (qT gt16) (qT gt19) qB) <|
  sm pt21 (qT gt20) <|
  g1 gt21 pt22 (u1 k35 eFaddr rfl (qT gt1)) rfl <|
  g1 gt21 pt23 (u1 k5 eLoad rfl (qT gt22)) rfl <|
  g1 gt21 pt24 (iLeq (qT gt23) (qI (.ofNat 65535))) rfl <|
  s1 pt25 (uP (qT gt21) (qT gt24) qB) <|
  sm pt26 (qT gt25) <|
  g1 gt26 pt27 (u1 k36 eFaddr rfl (qT gt1)) rfl <|
  g1 gt26 pt28 (u1 k5 eLoad rfl (qT gt27)) rfl <|
  g1 gt26 pt29 (iGeq (qT gt28) (qI (.ofNat 0))) rfl <|
  s1 pt30 (uP (qT gt26) (qT gt29) qB) <|
  sm pt31 (qT gt30) <|
  g1 gt31 pt32 (u1 k36 eFaddr rfl (qT gt1)) rfl <|
  g1 gt31 pt33 (u1 k5 eLoad rfl (qT gt32)) rfl <|
  g1 gt31 pt34 (iLss (qT gt33) (qI (.ofNat 2147483648))) rfl <|
  s1 pt35 (uP (qT gt31) (qT gt34) qB) <|
  sm pt36 (qT gt35) <|
  g1 gt36 pt37 (u1 k34 eFaddr rfl (qT gt1)) rfl <|
  g1 gt36 pt38 (u1 k5 eLoad rfl (qT gt37)) rfl <|
  g1 gt36 pt39 (u1 k37 eFaddr rfl (qT gt1)) rfl <|
  g1 gt36 pt40 (u1 k3 eLoad rfl (qT gt39)) rfl <|
  g1 gt36 pt41 (uC rfl h148 (bb (qT gt38) (bb (qT gt40) b0))) rfl <|
  s1 pt42 (uP (qT gt36) (qT gt41) qB) <|
  sa pt2 (qT gt42) <|
  se) rfl) cT))
 (rT gt2 r0)⟩
theorem h79 : FnGood Pg 79 g79.1 := g79.2
theorem c79 {d : Option Nat} {ty : TypeId} {pos : String} {af : Array Edge} {g : Option (Nat × Bool)} {x : Operand} {xs : Array Operand} {ats : Array TypeId} : DXOk Pg ⟨d, .call { callee := .value x, args := xs, argTypes := ats }, ty, pos, af, g⟩ (xCallD [(79, g79.1)]) := oG (tb1 h79 tb0)
/- wellspring/wellspringref08.records -/
noncomputable def g77 : {X : Xop // FnGood Pg 77 X} := ⟨_, fN' rfl Tryz.func77 (by decide) Tryz.ntmps77 Tryz.results77 rfl
 (cS (cR (sa pt2 qB <|
  se) rfl) (cS (cS (cR (sa pt3 (qI (.ofNat 0)) <|
  se) rfl) (cB (cO (cS (cS (cR (sm pt4 (qT gt3) <|
  sm pt5 (qT gt0) <|
  y1 pt6 (u1 k38 eLenSlc rfl (qT gt5)) <|
  y2 pt7 (iLss (qT gt4) (qT gt6)) <|
  se) rfl) (cC gt7 cK cE)) (cS (cB (cS (cR (sm pt10 (qT gt0) <|
  sm pt11 (qT gt3) <|
  y2 pt12 (u2 k39 eIaddr rfl (qT gt10) (qT gt11)) <|
  y1 pt13 (u1 k40 eLoadN rfl (qT gt12)) <|
  s1 pt14 (uC rfl h79 (bb (qT gt13) b0)) <|
  y1 pt15 (fNo (qT gt14)) <|
  se) rfl) (cC gt15 cX cK))) (cR (sm pt8 (qT gt3) <|
  y2 pt9 (iAdd (qT gt8) (qI (.ofNat 1))) <|
  sa pt3 (qT gt9) <|
  se) rfl)))))) (cS (cR (sm pt16 (qT gt0) <|
  y1 pt17 (u1 k38 eLenSlc rfl (qT gt16)) <|
  s1 pt18 (uC rfl h76 (bb (qT gt17) b0)) <|
  sa pt2 (qT gt18) <|
  se) rfl) cT)))
 (rT gt2 r0)⟩
theorem h77 : FnGood Pg 77 g77.1 := g77.2
theorem c77 {d : Option Nat} {ty : TypeId} {pos : String} {af : Array Edge} {g : Option (Nat × Bool)} {x : Operand} {xs : Array Operand} {ats : Array TypeId} : DXOk Pg ⟨d, .call { callee := .value x, args := xs, argTypes := ats }, ty, pos, af, g⟩ (xCallD [(77, g77.1)]) := oG (tb1 h77 tb0)
/- wellspring/wellspringref08.Check -/
noncomputable def g30 : {X : Xop // FnGood Pg 30 X} := ⟨_, fN' rfl Tryz.func30 (by decide) Tryz.ntmps30 Tryz.results30 rfl
 (cS (cR (s1 pt1 (u0 oX (bb (qT gt0) b0)) <|
  sa pt2 qB <|
  se) rfl) (cS (cS (cR (sa pt3 (qI (.ofNat 0)) <|
  se) rfl) (cB (cO (cS (cS (cR (sm pt5 (qT gt3) <|
  y1 pt6 (u1 k41 eFaddr rfl (qT gt1)) <|
  y1 pt7 (u1 k42 eLoad rfl (qT gt6)) <|
  y1 pt8 (u1 k43 eLenSlc rfl (qT gt7)) <|
  y2 pt9 (iLss (qT gt5) (qT gt8)) <|
  se) rfl) (cC gt9 cK cE)) (cS (cB (cS (cR (y1 pt12 (u1 k41 eFaddr rfl (qT gt1)) <|
  y1 pt13 (u1 k42 eLoad rfl (qT gt12)) <|
  sm pt14 (qT gt3) <|
  y2 pt15 (u2 k44 eIaddr rfl (qT gt13) (qT gt14)) <|
  y1 pt16 (u1 k45 eLoadN rfl (qT gt15)) <|
  s1 pt4 (u0 k46 b0) <|
  y0 (u2 k47 eStore rfl (qT gt4) (qT gt16)) <|
  se) rfl) (cS (cR (y1 pt17 (u1 k48 eFaddr rfl (qT gt4)) <|
  y1 pt18 (u1 k3 eLoad rfl (qT gt17)) <|
  s1 pt19 (uC rfl h52 (bb (qT gt18) b0)) <|
  y1 pt20 (fNo (qT gt19)) <|
  sm pt21 (qT gt20) <|
  g1 gt21 pt22 (u1 k49 eFaddr rfl (qT gt4)) rfl <|
  g1 gt21 pt23 (u1 k5 eLoad rfl (qT gt22)) rfl <|
  g1 gt21 pt24 (uC rfl h76 (bb (qT gt23) b0)) rfl <|
  g1 gt21 pt25 (fNo (qT gt24)) rfl <|
  s1 pt26 (uP (qT gt21) qB (qT gt25)) <|
  sm pt27 (qT gt26) <|
  g1 gt27 pt28 (u1 k50 eFaddr rfl (qT gt4)) rfl <|
  g1 gt27 pt29 (u1 k5 eLoad rfl (qT gt28)) rfl <|
  g1 gt27 pt30 (uC rfl h76 (bb (qT gt29) b0)) rfl <|
  g1 gt27 pt31 (fNo (qT gt30)) rfl <|
  s1 pt32 (uP (qT gt27) qB (qT gt31)) <|
  se) rfl) (cC gt32 cX cK)))) (cR (sm pt10 (qT gt3) <|
  y2 pt11 (iAdd (qT gt10) (qI (.ofNat 1))) <|
  sa pt3 (qT gt11) <|
  se) rfl)))))) (cS (cR (y1 pt33 (u1 k51 eFaddr rfl (qT gt1)) <|
  y1 pt34 (u1 k5 eLoad rfl (qT gt33)) <|
  s1 pt35 (uC rfl h76 (bb (qT gt34) b0)) <|
  sm pt36 (qT gt35) <|
  g1 gt36 pt37 (u1 k52 eFaddr rfl (qT gt1)) rfl <|
  g1 gt36 pt38 (u1 k5 eLoad rfl (qT gt37)) rfl <|
  g1 gt36 pt39 (uC rfl h76 (bb (qT gt38) b0)) rfl <|
  s1 pt40 (uP (qT gt36) (qT gt39) qB) <|
  sm pt41 (qT gt40) <|
  g1 gt41 pt42 (u1 k41 eFaddr rfl (qT gt1)) rfl <|
  g1 gt41 pt43 (u1 k42 eLoad rfl (qT gt42)) rfl <|
  g1 gt41 pt44 (u1 k43 eLenSlc rfl (qT gt43)) rfl <|
  g1 gt41 pt45 (uC rfl h76 (bb (qT gt44) b0)) rfl <|
  s1 pt46 (uP (qT gt41) (qT gt45) qB) <|
  sm pt47 (qT gt46) <|
  g1 gt47 pt48 (u1 k53 eFaddr rfl (qT gt1)) rfl <|
  g1 gt47 pt49 (u1 k54 eLoad rfl (qT gt48)) rfl <|
  g1 gt47 pt50 (uC rfl h77 (bb (qT gt49) b0)) rfl <|
  s1 pt51 (uP (qT gt47) (qT gt50) qB) <|
  sm pt52 (qT gt51) <|
  g1 gt52 pt53 (u1 k55 eFaddr rfl (qT gt1)) rfl <|
  g1 gt52 pt54 (u1 k54 eLoad rfl (qT gt53)) rfl <|
  g1 gt52 pt55 (uC rfl h77 (bb (qT gt54) b0)) rfl <|
  s1 pt56 (uP (qT gt52) (qT gt55) qB) <|
  sm pt57 (qT gt56) <|
  g1 gt57 pt58 (u1 k56 eFaddr rfl (qT gt1)) rfl <|
  g1 gt57 pt59 (u1 k54 eLoad rfl (qT gt58)) rfl <|
  g1 gt57 pt60 (uC rfl h77 (bb (qT gt59) b0)) rfl <|
  s1 pt61 (uP (qT gt57) (qT gt60) qB) <|
  sa pt2 (qT gt61) <|
  se) rfl) cT)))
 (rT gt2 r0)⟩
theorem h30 : FnGood Pg 30 g30.1 := g30.2
theorem c30 {d : Option Nat} {ty : TypeId} {pos : String} {af : Array Edge} {g : Option (Nat × Bool)} {x : Operand} {xs : Array Operand} {ats : Array TypeId} : DXOk Pg ⟨d, .call { callee := .value x, args := xs, argTypes := ats }, ty, pos, af, g⟩ (xCallD [(30, g30.1)]) := oG (tb1 h30 tb0)
/- wellspring/wellspringref01.Put -/
noncomputable def g31 : {X : Xop // FnGood Pg 31 X} := ⟨_, fN' rfl Tryz.func31 (by decide) Tryz.ntmps31 Tryz.results31 rfl
 (cS (cR (sa pt4 (qV (.one (.str [])) rfl) <|
  se) rfl) (cS (cS (cR (sm pt7 (qT gt1) <|
  y2 pt8 (iLss (qT gt7) (qI (.ofNat 1))) <|
  sm pt9 (qT gt8) <|
  g1 gt9 pt10 (fMv (qT gt1)) rfl <|
  g1 gt9 pt11 (iGtr (qT gt10) (qI (.ofNat 4))) rfl <|
  s1 pt12 (uP (qT gt9) qB (qT gt11)) <|
  sm pt13 (qT gt12) <|
  g1 gt13 pt14 (fMv (qT gt0)) rfl <|
  g1 gt13 pt15 (iLss (qT gt14) (qI (.ofNat 0))) rfl <|
  s1 pt16 (uP (qT gt13) qB (qT gt15)) <|
  se) rfl) (cC gt16 cX cK)) (cS (cR (sa pt5 (qV (.one (.nils)) rfl) <|
  se) rfl) (cS (cS (cR (sm pt17 (qT gt1) <|
  y2 pt18 (iSub (qT gt17) (qI (.ofNat 1))) <|
  sa pt6 (qT gt18) <|
  se) rfl) (cB (cO (cS (cS (cR (sm pt19 (qT gt6) <|
  y2 pt20 (iGeq (qT gt19) (qI (.ofNat 0))) <|
  se) rfl) (cC gt20 cK cE)) (cS (cB (cR (sm pt23 (qT gt5) <|
  sm pt24 (qT gt0) <|
  sm pt25 (qT gt6) <|
  y2 pt26 (iMul (qI (.ofNat 8)) (qT gt25)) <|
  s1 pt27 (u0 (oH (.inr rfl)) (bb (qT gt24) (bb (qT gt26) b0))) <|
  s1 pt28 (u0 oI (bb (qT gt27) (bb (qI (.ofNat 255)) b0))) <|
  y1 pt29 (u1 k57 eCvt rfl (qT gt28)) <|
  s1 pt30 (u0 k58 (bb (qT gt29) b0)) <|
  s1 pt31 (u0 k59 (bb (qT gt23) (bb (qT gt30) b0))) <|
  sa pt5 (qT gt31) <|
  se) rfl)) (cR (sm pt21 (qT gt6) <|
  y2 pt22 (iSub (qT gt21) (qI (.ofNat 1))) <|
  sa pt6 (qT gt22) <|
  se) rfl)))))) (cS (cS (cR (sm pt32 (qT gt0) <|
  sm pt33 (qT gt1) <|
  y2 pt34 (iMul (qI (.ofNat 8)) (qT gt33)) <|
  s1 pt35 (u0 (oH (.inr rfl)) (bb (qT gt32) (bb (qT gt34) b0))) <|
  y2 pt36 (iGtr (qT gt35) (qI (.ofNat 0))) <|
  se) rfl) (cC gt36 cX cK)) (cS (cR (sm pt37 (qT gt5) <|
  s1 pt38 (u0 k60 (bb (qT gt37) b0)) <|
  sa pt4 (qT gt38) <|
  se) rfl) cT))))))
 (rT gt4 r0)⟩
theorem h31 : FnGood Pg 31 g31.1 := g31.2
theorem c31 {d : Option Nat} {ty : TypeId} {pos : String} {af : Array Edge} {g : Option (Nat × Bool)} {x : Operand} {xs : Array Operand} {ats : Array TypeId} : DXOk Pg ⟨d, .call { callee := .value x, args := xs, argTypes := ats }, ty, pos, af, g⟩ (xCallD [(31, g31.1)]) := oG (tb1 h31 tb0)
/- wellspring/wellspringref02.Small -/
noncomputable def g53 : {X : Xop // FnGood Pg 53 X} := ⟨_, fN' rfl Tryz.func53 (by decide) Tryz.ntmps53 Tryz.results53 rfl
 (cS (cR (sa pt2 (qV (.one (.str [])) rfl) <|
  se) rfl) (cS (cR (sm pt5 (qT gt0) <|
  s1 pt6 (u0 k61 (bb (qT gt5) b0)) <|
  sa pt3 (qT gt6) <|
  se) rfl) (cS (cS (cR (sa pt4 (qI (.ofNat 0)) <|
  se) rfl) (cB (cO (cS (cS (cR (sm pt7 (qT gt4) <|
  sm pt8 (qT gt3) <|
  y1 pt9 (u1 k62 eLenSlc rfl (qT gt8)) <|
  y2 pt10 (iLss (qT gt7) (qT gt9)) <|
  se) rfl) (cC gt10 cK cE)) (cS (cB (cS (cR (sm pt13 (qT gt3) <|
  sm pt14 (qT gt4) <|
  y2 pt15 (u2 k63 eIaddr rfl (qT gt13) (qT gt14)) <|
  y1 pt16 (u1 k64 eLoad rfl (qT gt15)) <|
  s1 pt17 (u0 oI (bb (qT gt16) (bb (qI (.ofNat 65)) b0))) <|
  sm pt18 (qT gt17) <|
  g1 gt18 pt19 (fMv (qT gt3)) rfl <|
  g1 gt18 pt20 (fMv (qT gt4)) rfl <|
  g1 gt18 pt21 (u2 k63 eIaddr rfl (qT gt19) (qT gt20)) rfl <|
  g1 gt18 pt22 (u1 k64 eLoad rfl (qT gt21)) rfl <|
  g1 gt18 pt23 (u0 oI (bb (qT gt22) (bb (qI (.ofNat 90)) b0))) rfl <|
  s1 pt24 (uP (qT gt18) (qT gt23) qB) <|
  se) rfl) (cC gt24 cX cK))) (cR (sm pt11 (qT gt4) <|
  y2 pt12 (iAdd (qT gt11) (qI (.ofNat 1))) <|
  sa pt4 (qT gt12) <|
  se) rfl)))))) (cS (cR (sm pt33 (qT gt3) <|
  s1 pt34 (u0 k60 (bb (qT gt33) b0)) <|
  sa pt2 (qT gt34) <|
  se) rfl) cT))))
 (rT gt2 r0)⟩
theorem h53 : FnGood Pg 53 g53.1 := g53.2
theorem c53 {d : Option Nat} {ty : TypeId} {pos : String} {af : Array Edge} {g : Option (Nat × Bool)} {x : Operand} {xs : Array Operand} {ats : Array TypeId} : DXOk Pg ⟨d, .call { callee := .value x, args := xs, argTypes := ats }, ty, pos, af, g⟩ (xCallD [(53, g53.1)]) := oG (tb1 h53 tb0)
/- wellspring/wellspringref02.Same -/
noncomputable def g146 : {X : Xop // FnGood Pg 146 X} := ⟨_, fN' rfl Tryz.func146 (by decide) Tryz.ntmps146 Tryz.results146 rfl
 (cS (cR (sa pt4 qB <|
  se) rfl) (cS (cR (sm pt5 (qT gt0) <|
  s1 pt6 (uC rfl h52 (bb (qT gt5) b0)) <|
  sm pt7 (qT gt6) <|
  g1 gt7 pt8 (fMv (qT gt1)) rfl <|
  g1 gt7 pt9 (uC rfl h52 (bb (qT gt8) b0)) rfl <|
  s1 pt10 (uP (qT gt7) (qT gt9) qB) <|
  sm pt11 (qT gt10) <|
  g1 gt11 pt12 (fMv (qT gt0)) rfl <|
  g1 gt11 pt13 (uC rfl h53 (bb (qT gt12) b0)) rfl <|
  g1 gt11 pt14 (fMv (qT gt1)) rfl <|
  g1 gt11 pt15 (uC rfl h53 (bb (qT gt14) b0)) rfl <|
  g1 gt11 pt16 (u0 oS (bb (qT gt13) (bb (qT gt15) b0))) rfl <|
  s1 pt17 (uP (qT gt11) (qT gt16) qB) <|
  sa pt4 (qT gt17) <|
  se) rfl) cT))
 (rT gt4 r0)⟩
theorem h146 : FnGood Pg 146 g146.1 := g146.2
theorem c146 {d : Option Nat} {ty : TypeId} {pos : String} {af : Array Edge} {g : Option (Nat × Bool)} {x : Operand} {xs : Array Operand} {ats : Array TypeId} : DXOk Pg ⟨d, .call { callee := .value x, args := xs, argTypes := ats }, ty, pos, af, g⟩ (xCallD [(146, g146.1)]) := oG (tb1 h146 tb0)
/- wellspring/wellspringref04.Write -/
noncomputable def g78 : {X : Xop // FnGood Pg 78 X} := ⟨_, fN' rfl Tryz.func78 (by decide) Tryz.ntmps78 Tryz.results78 rfl
 (cS (cR (sa pt6 (qV (.one (.str [])) rfl) <|
  se) rfl) (cS (cS (cR (sm pt14 (qT gt0) <|
  s1 pt15 (uC rfl h52 (bb (qT gt14) b0)) <|
  y1 pt16 (fNo (qT gt15)) <|
  sm pt17 (qT gt16) <|
  g1 gt17 pt18 (fMv (qT gt2)) rfl <|
  g1 gt17 pt19 (uC rfl h52 (bb (qT gt18) b0)) rfl <|
  g1 gt17 pt20 (fNo (qT gt19)) rfl <|
  s1 pt21 (uP (qT gt17) qB (qT gt20)) <|
  sm pt22 (qT gt21) <|
  g1 gt22 pt23 (fMv (qT gt1)) rfl <|
  g1 gt22 pt24 (iLss (qT gt23) (qI (.ofNat 0))) rfl <|
  s1 pt25 (uP (qT gt22) qB (qT gt24)) <|
  sm pt26 (qT gt25) <|
  g1 gt26 pt27 (fMv (qT gt1)) rfl <|
  g1 gt26 pt28 (iGtr (qT gt27) (qI (.ofNat 16000))) rfl <|
  s1 pt29 (uP (qT gt26) qB (qT gt28)) <|
  se) rfl) (cC gt29 cX cK)) (cS (cR (sm pt30 (qT gt2) <|
  sa pt7 (qT gt30) <|
  se) rfl) (cS (cB (cO (cS (cS (cR (sm pt31 (qT gt7) <|
  y1 pt32 (u1 k0 eLenStr rfl (qT gt31)) <|
  y2 pt33 (iGtr (qT gt32) (qI (.ofNat 1))) <|
  se) rfl) (cC gt33 cK cE)) (cB (cS (cR (sm pt34 (qT gt0) <|
  sa pt8 (qT gt34) <|
  se) rfl) (cS (cB (cO (cS (cS (cR (sm pt35 (qT gt8) <|
  y1 pt36 (u1 k0 eLenStr rfl (qT gt35)) <|
  y2 pt37 (iGtr (qT gt36) (qI (.ofNat 1))) <|
  se) rfl) (cC gt37 cK cE)) (cB (cS (cS (cR (sm pt38 (qT gt8) <|
  sm pt39 (qT gt7) <|
  s1 pt40 (uC rfl h146 (bb (qT gt38) (bb (qT gt39) b0))) <|
  se) rfl) (cC gt40 (cS (cR (sm pt41 (qT gt1) <|
  y2 pt42 (iAdd (qI (.ofNat 49152)) (qT gt41)) <|
  sm pt43 (qT gt0) <|
  y1 pt44 (u1 k0 eLenStr rfl (qT gt43)) <|
  y2 pt45 (iAdd (qT gt42) (qT gt44)) <|
  sm pt46 (qT gt8) <|
  y1 pt47 (u1 k0 eLenStr rfl (qT gt46)) <|
  y2 pt48 (iSub (qT gt45) (qT gt47)) <|
  sa pt9 (qT gt48) <|
  se) rfl) (cS (cD mo (d1 0 0 rfl pt49 oM (aT gt2 a0) <|
  d1 1 0 rfl pt50 oM (aT gt2 a0) <|
  d1 2 2 rfl pt51 k0 (aT gt50 a0) <|
  d1 3 0 rfl pt52 oM (aT gt7 a0) <|
  d1 4 8 rfl pt53 k0 (aT gt52 a0) <|
  d1 5 30 rfl pt54 oI (aT gt51 (aT gt53 a0)) <|
  d1 6 63 rfl pt55 k32 (aT gt49 (aT gt54 a0)) <|
  d1 7 0 rfl pt56 oM (aT gt9 a0) <|
  d1 8 128 rfl pt57 c31 (aU rfl (aT gt56 (aI (.ofNat 2) a0))) <|
  d1 9 511 rfl pt58 oS (aT gt55 (aT gt57 a0)) <|
  d1 10 1023 rfl pt6 oA (aT gt58 a0) <|
  de) rfl rfl rfl) cT)) cK)) cX))))) cX)))))) cX))))
 (rT gt6 r0)⟩
theorem h78 : FnGood Pg 78 g78.1 := g78.2
theorem c78 {d : Option Nat} {ty : TypeId} {pos : String} {af : Array Edge} {g : Option (Nat × Bool)} {x : Operand} {xs : Array Operand} {ats : Array TypeId} : DXOk Pg ⟨d, .call { callee := .value x, args := xs, argTypes := ats }, ty, pos, af, g⟩ (xCallD [(78, g78.1)]) := oG (tb1 h78 tb0)
/- wellspring/wellspringref06.Encode -/
noncomputable def g32 : {X : Xop // FnGood Pg 32 X} := ⟨_, fN' rfl Tryz.func32 (by decide) Tryz.ntmps32 Tryz.results32 rfl
 (cS (cR (s1 pt5 (u0 oX (bb (qT gt2) b0)) <|
  sa pt6 (qV (.one (.str [])) rfl) <|
  se) rfl) (cS (cR (sm pt8 (qT gt0) <|
  sm pt9 (qT gt1) <|
  y1 pt10 (u1 k33 eFaddr rfl (qT gt5)) <|
  y1 pt11 (u1 k3 eLoad rfl (qT gt10)) <|
  s1 pt12 (uC rfl h78 (bb (qT gt8) (bb (qT gt9) (bb (qT gt11) b0)))) <|
  sa pt7 (qT gt12) <|
  se) rfl) (cS (cS (cR (y1 pt13 (u1 k40 eLoadN rfl (qT gt5)) <|
  s1 pt14 (uC rfl h79 (bb (qT gt13) b0)) <|
  y1 pt15 (fNo (qT gt14)) <|
  sm pt16 (qT gt15) <|
  g1 gt16 pt17 (fMv (qT gt7)) rfl <|
  g1 gt16 pt18 (u0 oS (bb (qT gt17) (bb (qV (.one (.str [])) rfl) b0))) rfl <|
  s1 pt19 (uP (qT gt16) qB (qT gt18)) <|
  se) rfl) (cC gt19 cX cK)) (cS (cD mo (d1 0 0 rfl pt20 oM (aT gt7 a0) <|
  d1 1 0 rfl pt21 k34 (aT gt5 a0) <|
  d1 2 2 rfl pt22 k5 (aT gt21 a0) <|
  d1 5 0 rfl pt25 k35 (aT gt5 a0) <|
  d1 6 32 rfl pt26 k5 (aT gt25 a0) <|
  d1 9 0 rfl pt29 k36 (aT gt5 a0) <|
  d1 10 512 rfl pt30 k5 (aT gt29 a0) <|
  d1 13 0 rfl pt33 k37 (aT gt5 a0) <|
  d1 14 8192 rfl pt34 k3 (aT gt33 a0) <|
  d1 15 24576 rfl pt35 k0 (aT gt34 a0) <|
  d1 18 0 rfl pt38 k37 (aT gt5 a0) <|
  d1 19 262144 rfl pt39 k3 (aT gt38 a0) <|
  d1 3 6 rfl pt23 c31 (aU rfl (aT gt22 (aI (.ofNat 2) a0))) <|
  d1 4 15 rfl pt24 oS (aT gt20 (aT gt23 a0)) <|
  d1 7 110 rfl pt27 c31 (aU rfl (aT gt26 (aI (.ofNat 2) a0))) <|
  d1 8 255 rfl pt28 oS (aT gt24 (aT gt27 a0)) <|
  d1 11 1774 rfl pt31 c31 (aU rfl (aT gt30 (aI (.ofNat 4) a0))) <|
  d1 12 4095 rfl pt32 oS (aT gt28 (aT gt31 a0)) <|
  d1 16 61166 rfl pt36 c31 (aU rfl (aT gt35 (aI (.ofNat 2) a0))) <|
  d1 17 131071 rfl pt37 oS (aT gt32 (aT gt36 a0)) <|
  d1 20 1048575 rfl pt40 oS (aT gt37 (aT gt39 a0)) <|
  d1 21 2097151 rfl pt6 oA (aT gt40 a0) <|
  de) rfl rfl rfl) cT))))
 (rT gt6 r0)⟩
theorem h32 : FnGood Pg 32 g32.1 := g32.2
theorem c32 {d : Option Nat} {ty : TypeId} {pos : String} {af : Array Edge} {g : Option (Nat × Bool)} {x : Operand} {xs : Array Operand} {ats : Array TypeId} : DXOk Pg ⟨d, .call { callee := .value x, args := xs, argTypes := ats }, ty, pos, af, g⟩ (xCallD [(32, g32.1)]) := oG (tb1 h32 tb0)
/- wellspring/wellspringref08.Base -/
noncomputable def g33 : {X : Xop // FnGood Pg 33 X} := ⟨_, fN' rfl Tryz.func33 (by decide) Tryz.ntmps33 Tryz.results33 rfl
 (cS (cR (s1 pt1 (u0 oX (bb (qT gt0) b0)) <|
  sa pt2 (qV (.one (.str [])) rfl) <|
  se) rfl) (cS (cS (cR (y1 pt3 (u1 k41 eFaddr rfl (qT gt1)) <|
  y1 pt4 (u1 k42 eLoad rfl (qT gt3)) <|
  y1 pt5 (u1 k43 eLenSlc rfl (qT gt4)) <|
  y2 pt6 (iGtr (qT gt5) (qI (.ofNat 0))) <|
  se) rfl) (cC gt6 (cS (cR (y1 pt7 (u1 k41 eFaddr rfl (qT gt1)) <|
  y1 pt8 (u1 k42 eLoad rfl (qT gt7)) <|
  y2 pt9 (u2 k44 eIaddr rfl (qT gt8) (qI (.ofNat 0))) <|
  y1 pt10 (u1 k48 eFaddr rfl (qT gt9)) <|
  y1 pt11 (u1 k3 eLoad rfl (qT gt10)) <|
  sa pt2 (qT gt11) <|
  se) rfl) cT) cK)) cX))
 (rT gt2 r0)⟩
theorem h33 : FnGood Pg 33 g33.1 := g33.2
theorem c33 {d : Option Nat} {ty : TypeId} {pos : String} {af : Array Edge} {g : Option (Nat × Bool)} {x : Operand} {xs : Array Operand} {ats : Array TypeId} : DXOk Pg ⟨d, .call { callee := .value x, args := xs, argTypes := ats }, ty, pos, af, g⟩ (xCallD [(33, g33.1)]) := oG (tb1 h33 tb0)
/- wellspring/wellspringref08.Encode -/
noncomputable def g8 : {X : Xop // FnGood Pg 8 X} := ⟨_, fN' rfl Tryz.func8 (by decide) Tryz.ntmps8 Tryz.results8 rfl
 (cS (cR (s1 pt1 (u0 oX (bb (qT gt0) b0)) <|
  sa pt2 (qV (.one (.str [])) rfl) <|
  sa pt3 (qI (.ofNat 0)) <|
  se) rfl) (cS (cS (cR (y1 pt8 (u1 k65 eLoadN rfl (qT gt1)) <|
  s1 pt9 (uC rfl h30 (bb (qT gt8) b0)) <|
  y1 pt10 (fNo (qT gt9)) <|
  se) rfl) (cC gt10 cX cK)) (cS (cD mo (d1 0 0 rfl pt11 k51 (aT gt1 a0) <|
  d1 1 1 rfl pt12 k5 (aT gt11 a0) <|
  d1 3 0 rfl pt14 k52 (aT gt1 a0) <|
  d1 4 8 rfl pt15 k5 (aT gt14 a0) <|
  d1 7 0 rfl pt18 k41 (aT gt1 a0) <|
  d1 8 128 rfl pt19 k42 (aT gt18 a0) <|
  d1 9 384 rfl pt20 k43 (aT gt19 a0) <|
  d1 12 0 rfl pt23 k53 (aT gt1 a0) <|
  d1 13 4096 rfl pt24 k54 (aT gt23 a0) <|
  d1 14 12288 rfl pt25 k38 (aT gt24 a0) <|
  d1 17 0 rfl pt28 k55 (aT gt1 a0) <|
  d1 18 131072 rfl pt29 k54 (aT gt28 a0) <|
  d1 19 393216 rfl pt30 k38 (aT gt29 a0) <|
  d1 22 0 rfl pt33 k56 (aT gt1 a0) <|
  d1 23 4194304 rfl pt34 k54 (aT gt33 a0) <|
  d1 24 12582912 rfl pt35 k38 (aT gt34 a0) <|
  d1 2 3 rfl pt13 c31 (aU rfl (aT gt12 (aI (.ofNat 2) a0))) <|
  d1 5 31 rfl pt16 c31 (aU rfl (aT gt15 (aI (.ofNat 2) a0))) <|
  d1 6 63 rfl pt17 oS (aT gt13 (aT gt16 a0)) <|
  d1 10 959 rfl pt21 c31 (aU rfl (aT gt20 (aI (.ofNat 2) a0))) <|
  d1 11 2047 rfl pt22 oS (aT gt17 (aT gt21 a0)) <|
  d1 15 30655 rfl pt26 c31 (aU rfl (aT gt25 (aI (.ofNat 2) a0))) <|
  d1 16 65535 rfl pt27 oS (aT gt22 (aT gt26 a0)) <|
  d1 20 980927 rfl pt31 c31 (aU rfl (aT gt30 (aI (.ofNat 2) a0))) <|
  d1 21 2097151 rfl pt32 oS (aT gt27 (aT gt31 a0)) <|
  d1 25 31389631 rfl pt36 c31 (aU rfl (aT gt35 (aI (.ofNat 2) a0))) <|
  d1 26 67108863 rfl pt37 oS (aT gt32 (aT gt36 a0)) <|
  d1 27 134217727 rfl pt4 oA (aT gt37 a0) <|
  de) rfl rfl rfl) (cS (cS (cR (sa pt5 (qI (.ofNat 0)) <|
  se) rfl) (cB (cO (cS (cS (cR (sm pt38 (qT gt5) <|
  y1 pt39 (u1 k41 eFaddr rfl (qT gt1)) <|
  y1 pt40 (u1 k42 eLoad rfl (qT gt39)) <|
  y1 pt41 (u1 k43 eLenSlc rfl (qT gt40)) <|
  y2 pt42 (iLss (qT gt38) (qT gt41)) <|
  se) rfl) (cC gt42 cK cE)) (cS (cB (cD mo (d1 0 0 rfl pt45 oM (aT gt4 a0) <|
  d1 1 0 rfl pt46 k41 (aT gt1 a0) <|
  d1 2 2 rfl pt47 k42 (aT gt46 a0) <|
  d1 3 0 rfl pt48 oM (aT gt5 a0) <|
  d1 4 14 rfl pt49 k44 (aT gt47 (aT gt48 a0)) <|
  d1 5 30 rfl pt50 k48 (aT gt49 a0) <|
  d1 6 62 rfl pt51 k3 (aT gt50 a0) <|
  d1 7 127 rfl pt52 oS (aT gt45 (aT gt51 a0)) <|
  d1 8 0 rfl pt53 k41 (aT gt1 a0) <|
  d1 9 256 rfl pt54 k42 (aT gt53 a0) <|
  d1 10 0 rfl pt55 oM (aT gt5 a0) <|
  d1 11 1792 rfl pt56 k44 (aT gt54 (aT gt55 a0)) <|
  d1 12 3840 rfl pt57 k49 (aT gt56 a0) <|
  d1 13 7936 rfl pt58 k5 (aT gt57 a0) <|
  d1 16 0 rfl pt61 k41 (aT gt1 a0) <|
  d1 17 65536 rfl pt62 k42 (aT gt61 a0) <|
  d1 18 0 rfl pt63 oM (aT gt5 a0) <|
  d1 19 458752 rfl pt64 k44 (aT gt62 (aT gt63 a0)) <|
  d1 20 983040 rfl pt65 k50 (aT gt64 a0) <|
  d1 21 2031616 rfl pt66 k5 (aT gt65 a0) <|
  d1 14 16128 rfl pt59 c31 (aU rfl (aT gt58 (aI (.ofNat 2) a0))) <|
  d1 15 32767 rfl pt60 oS (aT gt52 (aT gt59 a0)) <|
  d1 22 4161280 rfl pt67 c31 (aU rfl (aT gt66 (aI (.ofNat 2) a0))) <|
  d1 23 8388607 rfl pt68 oS (aT gt60 (aT gt67 a0)) <|
  d1 24 16777215 rfl pt4 oA (aT gt68 a0) <|
  de) rfl rfl rfl)) (cR (sm pt43 (qT gt5) <|
  y2 pt44 (iAdd (qT gt43) (qI (.ofNat 1))) <|
  sa pt5 (qT gt44) <|
  se) rfl)))))) (cS (cR (sa pt6 (qV (.one (.nils)) rfl) <|
  se) rfl) (cS (cR (sm pt69 (qT gt6) <|
  y1 pt70 (u1 k53 eFaddr rfl (qT gt1)) <|
  y1 pt71 (u1 k54 eLoad rfl (qT gt70)) <|
  s1 pt72 (u0 k66 (bb (qT gt69) (bb (qT gt71) b0))) <|
  sa pt6 (qT gt72) <|
  se) rfl) (cS (cR (sm pt73 (qT gt6) <|
  y1 pt74 (u1 k55 eFaddr rfl (qT gt1)) <|
  y1 pt75 (u1 k54 eLoad rfl (qT gt74)) <|
  s1 pt76 (u0 k66 (bb (qT gt73) (bb (qT gt75) b0))) <|
  sa pt6 (qT gt76) <|
  se) rfl) (cS (cR (sm pt77 (qT gt6) <|
  y1 pt78 (u1 k56 eFaddr rfl (qT gt1)) <|
  y1 pt79 (u1 k54 eLoad rfl (qT gt78)) <|
  s1 pt80 (u0 k66 (bb (qT gt77) (bb (qT gt79) b0))) <|
  sa pt6 (qT gt80) <|
  se) rfl) (cS (cS (cR (sa pt7 (qI (.ofNat 0)) <|
  se) rfl) (cB (cO (cS (cS (cR (sm pt81 (qT gt7) <|
  sm pt82 (qT gt6) <|
  y1 pt83 (u1 k38 eLenSlc rfl (qT gt82)) <|
  y2 pt84 (iLss (qT gt81) (qT gt83)) <|
  sm pt85 (qT gt84) <|
  g1 gt85 pt86 (fMv (qT gt4)) rfl <|
  g1 gt85 pt87 (u1 k0 eLenStr rfl (qT gt86)) rfl <|
  g1 gt85 pt88 (iLeq (qT gt87) (qI (.ofNat 65535))) rfl <|
  s1 pt89 (uP (qT gt85) (qT gt88) qB) <|
  se) rfl) (cC gt89 cK cE)) (cS (cB (cD mo (d1 0 0 rfl pt92 oM (aT gt4 a0) <|
  d1 1 0 rfl pt93 k65 (aT gt1 a0) <|
  d1 3 0 rfl pt95 oM (aT gt6 a0) <|
  d1 4 0 rfl pt96 oM (aT gt7 a0) <|
  d1 5 24 rfl pt97 k39 (aT gt95 (aT gt96 a0)) <|
  d1 6 56 rfl pt98 k40 (aT gt97 a0) <|
  d1 2 2 rfl pt94 c33 (aU rfl (aT gt93 a0)) <|
  d1 7 126 rfl pt99 c32 (aU rfl (aT gt94 (aI (.ofNat 12) (aT gt98 a0)))) <|
  d1 8 255 rfl pt100 oS (aT gt92 (aT gt99 a0)) <|
  d1 9 511 rfl pt4 oA (aT gt100 a0) <|
  de) rfl rfl rfl)) (cR (sm pt90 (qT gt7) <|
  y2 pt91 (iAdd (qT gt90) (qI (.ofNat 1))) <|
  sa pt7 (qT gt91) <|
  se) rfl)))))) (cS (cS (cR (sm pt101 (qT gt4) <|
  y1 pt102 (u1 k0 eLenStr rfl (qT gt101)) <|
  y2 pt103 (iGtr (qT gt102) (qI (.ofNat 65535))) <|
  se) rfl) (cC gt103 cX cK)) (cS (cR (sm pt104 (qT gt4) <|
  sa pt2 (qT gt104) <|
  sa pt3 (qI (.ofNat 0)) <|
  se) rfl) cT)))))))))))
 (rT gt2 (rT gt3 r0))⟩
theorem h8 : FnGood Pg 8 g8.1 := g8.2
theorem c8 {d : Option Nat} {ty : TypeId} {pos : String} {af : Array Edge} {g : Option (Nat × Bool)} {x : Operand} {xs : Array Operand} {ats : Array TypeId} : DXOk Pg ⟨d, .call { callee := .value x, args := xs, argTypes := ats }, ty, pos, af, g⟩ (xCallD [(8, g8.1)]) := oG (tb1 h8 tb0)
/- (*wellspring/node.Node).begin -/
noncomputable def g34 : {X : Xop // FnGood Pg 34 X} := ⟨_, fN' rfl Tryz.func34 (by decide) Tryz.ntmps34 Tryz.results34 rfl
 (cS (cR (sa pt8 qB <|
  se) rfl) (cS (cS (cR (sm pt9 (qT gt0) <|
  s1 pt10 (u0 k67 (bb (qT gt9) (bb (qV (.one (.nilp)) rfl) b0))) <|
  sm pt11 (qT gt10) <|
  g1 gt11 pt12 (fMv (qT gt1)) rfl <|
  g1 gt11 pt13 (fMv (qT gt0)) rfl <|
  g1 gt11 pt14 (fNc (qT gt13)) rfl <|
  g1 gt11 pt15 (u1 k68 eFaddr rfl (qT gt14)) rfl <|
  g1 gt11 pt16 (u1 k5 eLoad rfl (qT gt15)) rfl <|
  g1 gt11 pt17 (uC rfl h72 (bb (qT gt12) (bb (qT gt16) (bb (qI (.ofNat 1099511527776)) b0)))) rfl <|
  g1 gt11 pt18 (fNo (qT gt17)) rfl <|
  s1 pt19 (uP (qT gt11) qB (qT gt18)) <|
  sm pt20 (qT gt19) <|
  g1 gt20 pt21 (fMv (qT gt2)) rfl <|
  g1 gt20 pt22 (uC rfl h74 (bb (qT gt21) b0)) rfl <|
  g1 gt20 pt23 (fNo (qT gt22)) rfl <|
  s1 pt24 (uP (qT gt20) qB (qT gt23)) <|
  sm pt25 (qT gt24) <|
  g1 gt25 pt26 (fMv (qT gt3)) rfl <|
  g1 gt25 pt27 (uC rfl h72 (bb (qT gt26) (bb (qI (.ofNat 0)) (bb (qI (.ofNat 65535)) b0)))) rfl <|
  g1 gt25 pt28 (fNo (qT gt27)) rfl <|
  s1 pt29 (uP (qT gt25) qB (qT gt28)) <|
  se) rfl) (cC gt29 cX cK)) (cS (cR (sm pt30 (qT gt0) <|
  sm pt31 (qT gt0) <|
  sm pt32 (qT gt1) <|
  y1 pt33 (fNc (qT gt30)) <|
  y1 pt34 (u1 k68 eFaddr rfl (qT gt33)) <|
  y0 (u2 k69 eStore rfl (qT gt34) (qT gt32)) <|
  y1 pt35 (fNc (qT gt31)) <|
  y1 pt36 (u1 k70 eFaddr rfl (qT gt35)) <|
  y0 (u2 k71 eStore rfl (qT gt36) (qV (.one (.nils)) rfl)) <|
  se) rfl) (cS (cR (sa pt8 qB <|
  se) rfl) cT))))
 (rT gt8 r0)⟩
theorem h34 : FnGood Pg 34 g34.1 := g34.2
theorem c34 {d : Option Nat} {ty : TypeId} {pos : String} {af : Array Edge} {g : Option (Nat × Bool)} {x : Operand} {xs : Array Operand} {ats : Array TypeId} : DXOk Pg ⟨d, .call { callee := .value x, args := xs, argTypes := ats }, ty, pos, af, g⟩ (xCallD [(34, g34.1)]) := oG (tb1 h34 tb0)
/- wellspring/octet.sized -/
noncomputable def g203 : {X : Xop // FnGood Pg 203 X} := ⟨_, fN' rfl Tryz.func203 (by decide) Tryz.ntmps203 Tryz.results203 rfl
 (cS (cR (sa pt2 qB <|
  se) rfl) (cS (cR (sm pt3 (qT gt0) <|
  y2 pt4 (iGeq (qT gt3) (qI (.ofNat 1))) <|
  sm pt5 (qT gt4) <|
  g1 gt5 pt6 (fMv (qT gt0)) rfl <|
  g1 gt5 pt7 (iLeq (qT gt6) (qI (.ofNat 4))) rfl <|
  s1 pt8 (uP (qT gt5) (qT gt7) qB) <|
  sa pt2 (qT gt8) <|
  se) rfl) cT))
 (rT gt2 r0)⟩
theorem h203 : FnGood Pg 203 g203.1 := g203.2
theorem c203 {d : Option Nat} {ty : TypeId} {pos : String} {af : Array Edge} {g : Option (Nat × Bool)} {x : Operand} {xs : Array Operand} {ats : Array TypeId} : DXOk Pg ⟨d, .call { callee := .value x, args := xs, argTypes := ats }, ty, pos, af, g⟩ (xCallD [(203, g203.1)]) := oG (tb1 h203 tb0)
/- wellspring/octet.Take -/
noncomputable def g205 : {X : Xop // FnGood Pg 205 X} := ⟨_, fN' rfl Tryz.func205 (by decide) Tryz.ntmps205 Tryz.results205 rfl
 (cS (cR (sa pt6 (qV (.one (.str [])) rfl) <|
  sa pt7 qB <|
  se) rfl) (cS (cS (cR (sm pt8 (qT gt1) <|
  y2 pt9 (iLss (qT gt8) (qI (.ofNat 0))) <|
  sm pt10 (qT gt9) <|
  g1 gt10 pt11 (fMv (qT gt2)) rfl <|
  g1 gt10 pt12 (iLss (qT gt11) (qI (.ofNat 0))) rfl <|
  s1 pt13 (uP (qT gt10) qB (qT gt12)) <|
  sm pt14 (qT gt13) <|
  g1 gt14 pt15 (fMv (qT gt1)) rfl <|
  g1 gt14 pt16 (fMv (qT gt0)) rfl <|
  g1 gt14 pt17 (u1 k0 eLenStr rfl (qT gt16)) rfl <|
  g1 gt14 pt18 (iGtr (qT gt15) (qT gt17)) rfl <|
  s1 pt19 (uP (qT gt14) qB (qT gt18)) <|
  sm pt20 (qT gt19) <|
  g1 gt20 pt21 (fMv (qT gt2)) rfl <|
  g1 gt20 pt22 (fMv (qT gt0)) rfl <|
  g1 gt20 pt23 (u1 k0 eLenStr rfl (qT gt22)) rfl <|
  g1 gt20 pt24 (fMv (qT gt1)) rfl <|
  g1 gt20 pt25 (iSub (qT gt23) (qT gt24)) rfl <|
  g1 gt20 pt26 (iGtr (qT gt21) (qT gt25)) rfl <|
  s1 pt27 (uP (qT gt20) qB (qT gt26)) <|
  se) rfl) (cC gt27 cX cK)) (cS (cR (sm pt28 (qT gt0) <|
  sm pt29 (qT gt1) <|
  s1 pt30 (u0 k72 (bb (qT gt28) (bb (qT gt29) b0))) <|
  sm pt31 (qT gt2) <|
  s1 pt32 (u0 k32 (bb (qT gt30) (bb (qT gt31) b0))) <|
  sa pt6 (qT gt32) <|
  sa pt7 qB <|
  se) rfl) cT)))
 (rT gt6 (rT gt7 r0))⟩
theorem h205 : FnGood Pg 205 g205.1 := g205.2
theorem c205 {d : Option Nat} {ty : TypeId} {pos : String} {af : Array Edge} {g : Option (Nat × Bool)} {x : Operand} {xs : Array Operand} {ats : Array TypeId} : DXOk Pg ⟨d, .call { callee := .value x, args := xs, argTypes := ats }, ty, pos, af, g⟩ (xCallD [(205, g205.1)]) := oG (tb1 h205 tb0)
/- wellspring/octet.Get -/
noncomputable def g149 : {X : Xop // FnGood Pg 149 X} := ⟨_, fN' rfl Tryz.func149 (by decide) Tryz.ntmps149 Tryz.results149 rfl
 (cS (cR (sa pt6 (qI (.ofNat 0)) <|
  sa pt7 qB <|
  se) rfl) (cS (cR (sm pt13 (qT gt0) <|
  sm pt14 (qT gt1) <|
  sm pt15 (qT gt2) <|
  s1 pt16 (uC rfl h205 (bb (qT gt13) (bb (qT gt14) (bb (qT gt15) b0)))) <|
  sm pt12 (qT gt16) <|
  y1 pt17 (fEx (qT gt12)) <|
  y1 pt18 (fEx (qT gt12)) <|
  sa pt8 (qT gt17) <|
  sa pt9 (qT gt18) <|
  se) rfl) (cS (cS (cR (sm pt19 (qT gt9) <|
  y1 pt20 (fNo (qT gt19)) <|
  sm pt21 (qT gt20) <|
  g1 gt21 pt22 (fMv (qT gt2)) rfl <|
  g1 gt21 pt23 (uC rfl h203 (bb (qT gt22) b0)) rfl <|
  g1 gt21 pt24 (fNo (qT gt23)) rfl <|
  s1 pt25 (uP (qT gt21) qB (qT gt24)) <|
  se) rfl) (cC gt25 cX cK)) (cS (cR (sa pt10 (qI (.ofNat 0)) <|
  se) rfl) (cS (cS (cR (sm pt26 (qT gt2) <|
  sm pt27 (qI (.ofNat 0)) <|
  se) rfl) (cB (cO (cS (cR (y2 pt28 (iLss (qT gt27) (qT gt26)) <|
  se) rfl) (cS (cC gt28 cK cE) (cS (cB (cS (cR (sm pt29 (qT gt27) <|
  sa pt11 (qT gt29) <|
  se) rfl) (cR (sm pt30 (qT gt10) <|
  s1 pt31 (u0 (oH (.inl rfl)) (bb (qT gt30) (bb (qI (.ofNat 8)) b0))) <|
  sm pt32 (qT gt8) <|
  sm pt33 (qT gt11) <|
  y2 pt34 (u2 k21 eIndexS rfl (qT gt32) (qT gt33)) <|
  y1 pt35 (u1 k22 eCvt rfl (qT gt34)) <|
  s1 pt36 (u0 oI (bb (qT gt31) (bb (qT gt35) b0))) <|
  sa pt10 (qT gt36) <|
  se) rfl))) (cR (y2 pt37 (iAdd (qT gt27) (qI (.ofNat 1))) <|
  sm pt27 (qT gt37) <|
  se) rfl))))))) (cS (cR (sm pt38 (qT gt10) <|
  sa pt6 (qT gt38) <|
  sa pt7 qB <|
  se) rfl) cT))))))
 (rT gt6 (rT gt7 r0))⟩
theorem h149 : FnGood Pg 149 g149.1 := g149.2
theorem c149 {d : Option Nat} {ty : TypeId} {pos : String} {af : Array Edge} {g : Option (Nat × Bool)} {x : Operand} {xs : Array Operand} {ats : Array TypeId} : DXOk Pg ⟨d, .call { callee := .value x, args := xs, argTypes := ats }, ty, pos, af, g⟩ (xCallD [(149, g149.1)]) := oG (tb1 h149 tb0)
/- wellspring/msg.Head -/
noncomputable def g80 : {X : Xop // FnGood Pg 80 X} := ⟨_, fN' rfl Tryz.func80 (by decide) Tryz.ntmps80 Tryz.results80 rfl
 (cS (cR (sa pt2 (qI (.ofNat 0)) <|
  sa pt3 (qI (.ofNat 0)) <|
  sa pt4 qB <|
  se) rfl) (cS (cS (cR (sm pt9 (qT gt0) <|
  y1 pt10 (u1 k0 eLenStr rfl (qT gt9)) <|
  y2 pt11 (iLss (qT gt10) (qI (.ofNat 12))) <|
  se) rfl) (cC gt11 cX cK)) (cS (cR (sm pt13 (qT gt0) <|
  s1 pt14 (uC rfl h149 (bb (qT gt13) (bb (qI (.ofNat 0)) (bb (qI (.ofNat 2)) b0)))) <|
  sm pt12 (qT gt14) <|
  y1 pt15 (fEx (qT gt12)) <|
  y1 pt16 (fEx (qT gt12)) <|
  sa pt5 (qT gt15) <|
  sa pt6 (qT gt16) <|
  se) rfl) (cS (cR (sm pt18 (qT gt0) <|
  s1 pt19 (uC rfl h149 (bb (qT gt18) (bb (qI (.ofNat 2)) (bb (qI (.ofNat 2)) b0)))) <|
  sm pt17 (qT gt19) <|
  y1 pt20 (fEx (qT gt17)) <|
  y1 pt21 (fEx (qT gt17)) <|
  sa pt7 (qT gt20) <|
  sa pt8 (qT gt21) <|
  se) rfl) (cS (cR (sm pt22 (qT gt5) <|
  sm pt23 (qT gt7) <|
  sa pt2 (qT gt22) <|
  sa pt3 (qT gt23) <|
  sa pt4 qB <|
  se) rfl) cT)))))
 (rT gt2 (rT gt3 (rT gt4 r0)))⟩
theorem h80 : FnGood Pg 80 g80.1 := g80.2
theorem c80 {d : Option Nat} {ty : TypeId} {pos : String} {af : Array Edge} {g : Option (Nat × Bool)} {x : Operand} {xs : Array Operand} {ats : Array TypeId} : DXOk Pg ⟨d, .call { callee := .value x, args := xs, argTypes := ats }, ty, pos, af, g⟩ (xCallD [(80, g80.1)]) := oG (tb1 h80 tb0)
/- (wellspring/flag.Field).may -/
noncomputable def g138 : {X : Xop // FnGood Pg 138 X} := ⟨_, fN' rfl Tryz.func138 (by decide) Tryz.ntmps138 Tryz.results138 rfl
 (cS (cR (sa pt4 qB <|
  se) rfl) (cS (cR (sm pt5 (qT gt1) <|
  y2 pt6 (iGeq (qT gt5) (qI (.ofNat 0))) <|
  sm pt7 (qT gt6) <|
  g1 gt7 pt8 (fMv (qT gt1)) rfl <|
  g1 gt7 pt9 (iLeq (qT gt8) (qI (.ofNat 65535))) rfl <|
  s1 pt10 (uP (qT gt7) (qT gt9) qB) <|
  sm pt11 (qT gt10) <|
  g1 gt11 pt12 (fMv (qT gt0)) rfl <|
  g1 gt11 pt13 (iGeq (qT gt12) (qI (.ofNat 0))) rfl <|
  s1 pt14 (uP (qT gt11) (qT gt13) qB) <|
  sm pt15 (qT gt14) <|
  g1 gt15 pt16 (fMv (qT gt0)) rfl <|
  g1 gt15 pt17 (iLss (qT gt16) (qI (.ofNat 9))) rfl <|
  s1 pt18 (uP (qT gt15) (qT gt17) qB) <|
  sa pt4 (qT gt18) <|
  se) rfl) cT))
 (rT gt4 r0)⟩
theorem h138 : FnGood Pg 138 g138.1 := g138.2
theorem c138 {d : Option Nat} {ty : TypeId} {pos : String} {af : Array Edge} {g : Option (Nat × Bool)} {x : Operand} {xs : Array Operand} {ats : Array TypeId} : DXOk Pg ⟨d, .call { callee := .value x, args := xs, argTypes := ats }, ty, pos, af, g⟩ (xCallD [(138, g138.1)]) := oG (tb1 h138 tb0)
/- wellspring/flag.places -/
noncomputable def g139 : {X : Xop // FnGood Pg 139 X} := ⟨_, fN' rfl Tryz.func139 (by decide) Tryz.ntmps139 Tryz.results139 rfl
 (cS (cR (s1 pt0 (u0 k73 b0) <|
  se) rfl) (cS (cR (s1 pt1 (u0 k74 (bb (qI (.ofNat 15)) (bb (qI (.ofNat 1)) b0))) <|
  s1 pt2 (u0 k74 (bb (qI (.ofNat 11)) (bb (qI (.ofNat 4)) b0))) <|
  s1 pt3 (u0 k74 (bb (qI (.ofNat 10)) (bb (qI (.ofNat 1)) b0))) <|
  s1 pt4 (u0 k74 (bb (qI (.ofNat 9)) (bb (qI (.ofNat 1)) b0))) <|
  s1 pt5 (u0 k74 (bb (qI (.ofNat 8)) (bb (qI (.ofNat 1)) b0))) <|
  s1 pt6 (u0 k74 (bb (qI (.ofNat 7)) (bb (qI (.ofNat 1)) b0))) <|
  s1 pt7 (u0 k74 (bb (qI (.ofNat 5)) (bb (qI (.ofNat 1)) b0))) <|
  s1 pt8 (u0 k74 (bb (qI (.ofNat 4)) (bb (qI (.ofNat 1)) b0))) <|
  s1 pt9 (u0 k74 (bb (qI (.ofNat 0)) (bb (qI (.ofNat 4)) b0))) <|
  s1 pt10 (u0 k75 (bb (qT gt1) (bb (qT gt2) (bb (qT gt3) (bb (qT gt4) (bb (qT gt5) (bb (qT gt6) (bb (qT gt7) (bb (qT gt8) (bb (qT gt9) b0)))))))))) <|
  y0 (u2 k76 eStore rfl (qT gt0) (qT gt10)) <|
  se) rfl) cT))
 (rR gt0 underlying254 rfl i254 rfl r0)⟩
theorem h139 : FnGood Pg 139 g139.1 := g139.2
theorem c139 {d : Option Nat} {ty : TypeId} {pos : String} {af : Array Edge} {g : Option (Nat × Bool)} {x : Operand} {xs : Array Operand} {ats : Array TypeId} : DXOk Pg ⟨d, .call { callee := .value x, args := xs, argTypes := ats }, ty, pos, af, g⟩ (xCallD [(139, g139.1)]) := oG (tb1 h139 tb0)
/- (wellspring/flag.place).mask -/
noncomputable def g140 : {X : Xop // FnGood Pg 140 X} := ⟨_, fN' rfl Tryz.func140 (by decide) Tryz.ntmps140 Tryz.results140 rfl
 (cS (cR (s1 pt1 (u0 oX (bb (qT gt0) b0)) <|
  sa pt2 (qI (.ofNat 0)) <|
  se) rfl) (cS (cR (y1 pt3 (u1 k77 eFaddr rfl (qT gt1)) <|
  y1 pt4 (u1 k5 eLoad rfl (qT gt3)) <|
  s1 pt5 (u0 (oH (.inl rfl)) (bb (qI (.ofNat 1)) (bb (qT gt4) b0))) <|
  y2 pt6 (iSub (qT gt5) (qI (.ofNat 1))) <|
  sa pt2 (qT gt6) <|
  se) rfl) cT))
 (rT gt2 r0)⟩
theorem h140 : FnGood Pg 140 g140.1 := g140.2
theorem c140 {d : Option Nat} {ty : TypeId} {pos : String} {af : Array Edge} {g : Option (Nat × Bool)} {x : Operand} {xs : Array Operand} {ats : Array TypeId} : DXOk Pg ⟨d, .call { callee := .value x, args := xs, argTypes := ats }, ty, pos, af, g⟩ (xCallD [(140, g140.1)]) := oG (tb1 h140 tb0)
/- (wellspring/flag.Field).Of -/
noncomputable def g81 : {X : Xop // FnGood Pg 81 X} := ⟨_, fN' rfl Tryz.func81 (by decide) Tryz.ntmps81 Tryz.results81 rfl
 (cS (cR (sa pt4 (qI (.ofNat 0)) <|
  se) rfl) (cS (cS (cR (sm pt6 (qT gt0) <|
  sm pt7 (qT gt1) <|
  s1 pt8 (uC rfl h138 (bb (qT gt6) (bb (qT gt7) b0))) <|
  y1 pt9 (fNo (qT gt8)) <|
  se) rfl) (cC gt9 cX cK)) (cS (cR (s1 pt10 (uC rfl h139 b0) <|
  sm pt11 (qT gt0) <|
  s1 pt12 (u0 k78 (bb (qT gt10) (bb (qT gt11) b0))) <|
  s1 pt5 (u0 k79 b0) <|
  y0 (u2 k80 eStore rfl (qT gt5) (qT gt12)) <|
  se) rfl) (cS (cD mo (d1 0 0 rfl pt13 oM (aT gt1 a0) <|
  d1 1 0 rfl pt14 k81 (aT gt5 a0) <|
  d1 2 2 rfl pt15 k5 (aT gt14 a0) <|
  d1 3 7 rfl pt16 (oH (.inr rfl)) (aT gt13 (aT gt15 a0)) <|
  d1 4 0 rfl pt17 k82 (aT gt5 a0) <|
  d1 5 16 rfl pt18 c140 (aU rfl (aT gt17 a0)) <|
  d1 6 63 rfl pt19 oI (aT gt16 (aT gt18 a0)) <|
  d1 7 127 rfl pt4 oA (aT gt19 a0) <|
  de) rfl rfl rfl) cT))))
 (rT gt4 r0)⟩
theorem h81 : FnGood Pg 81 g81.1 := g81.2
theorem c81 {d : Option Nat} {ty : TypeId} {pos : String} {af : Array Edge} {g : Option (Nat × Bool)} {x : Operand} {xs : Array Operand} {ats : Array TypeId} : DXOk Pg ⟨d, .call { callee := .value x, args := xs, argTypes := ats }, ty, pos, af, g⟩ (xCallD [(81, g81.1)]) := oG (tb1 h81 tb0)
end Go.Proofs.YtddbhljljmijcaaGreat.V
