/- Functions of the program, evaluated. -/
import Derived.Test.YtddbhljljmijcaaGreatTe
namespace Go.Proofs.YtddbhljljmijcaaGreat.V
open Go.RowKit Go.Proofs Go.Proofs.Tryz
set_option linter.unusedVariables false
set_option maxRecDepth 100000
/- wellspring/msg.Check -/
noncomputable def g141 : {X : Xop // FnGood Pg 141 X} := ⟨_, fN' rfl Tryz.func141 (by decide) Tryz.ntmps141 Tryz.results141 rfl
 (cS (cR (s1 pt1 (u0 oX (bb (qT gt0) b0)) <|
  sa pt2 qB <|
  se) rfl) (cS (cS (cR (s1 pt6 (uC rfl h143 (bb (qT gt1) b0)) <|
  sm pt7 (qI (.ofNat 0)) <|
  se) rfl) (cB (cO (cS (cR (y2 pt8 (iLss (qT gt7) (qI (.ofNat 3))) <|
  se) rfl) (cS (cC gt8 cK cE) (cS (cB (cS (cR (s1 pt9 (u0 k136 (bb (qT gt6) (bb (qT gt7) b0))) <|
  sa pt4 (qT gt9) <|
  se) rfl) (cS (cR (sm pt10 (qT gt4) <|
  y1 pt11 (fNc (qT gt10)) <|
  y1 pt12 (u1 k54 eLoad rfl (qT gt11)) <|
  y1 pt13 (u1 k38 eLenSlc rfl (qT gt12)) <|
  s1 pt14 (uC rfl h198 (bb (qT gt13) b0)) <|
  y1 pt15 (fNo (qT gt14)) <|
  sm pt16 (qT gt15) <|
  g1 gt16 pt17 (fMv (qT gt4)) rfl <|
  g1 gt16 pt18 (fNc (qT gt17)) rfl <|
  g1 gt16 pt19 (u1 k54 eLoad rfl (qT gt18)) rfl <|
  g1 gt16 pt20 (uC rfl h199 (bb (qT gt19) (bb (qU rfl) b0))) rfl <|
  s1 pt21 (uP (qT gt16) qB (qT gt20)) <|
  se) rfl) (cC gt21 cX cK)))) (cR (y2 pt22 (iAdd (qT gt7) (qI (.ofNat 1))) <|
  sm pt7 (qT gt22) <|
  se) rfl))))))) (cS (cR (sa pt5 (qU rfl) <|
  se) rfl) (cS (cR (y1 pt23 (u1 k51 eFaddr rfl (qT gt1)) <|
  y1 pt24 (u1 k5 eLoad rfl (qT gt23)) <|
  s1 pt25 (uC rfl h198 (bb (qT gt24) b0)) <|
  sm pt26 (qT gt25) <|
  g1 gt26 pt27 (u1 k52 eFaddr rfl (qT gt1)) rfl <|
  g1 gt26 pt28 (u1 k5 eLoad rfl (qT gt27)) rfl <|
  g1 gt26 pt29 (uC rfl h198 (bb (qT gt28) b0)) rfl <|
  s1 pt30 (uP (qT gt26) (qT gt29) qB) <|
  sm pt31 (qT gt30) <|
  g1 gt31 pt32 (u1 k41 eFaddr rfl (qT gt1)) rfl <|
  g1 gt31 pt33 (u1 k42 eLoad rfl (qT gt32)) rfl <|
  g1 gt31 pt34 (u1 k43 eLenSlc rfl (qT gt33)) rfl <|
  g1 gt31 pt35 (uC rfl h198 (bb (qT gt34) b0)) rfl <|
  s1 pt36 (uP (qT gt31) (qT gt35) qB) <|
  sm pt37 (qT gt36) <|
  g1 gt37 pt38 (u1 k41 eFaddr rfl (qT gt1)) rfl <|
  g1 gt37 pt39 (u1 k42 eLoad rfl (qT gt38)) rfl <|
  g1 gt37 pt40 (fMv (qT gt5)) rfl <|
  g1 gt37 pt41 (uC rfl h202 (bb (qT gt39) (bb (qT gt40) b0))) rfl <|
  g1 gt37 pt42 (fNo (qT gt41)) rfl <|
  s1 pt43 (uP (qT gt37) (qT gt42) qB) <|
  sa pt2 (qT gt43) <|
  se) rfl) cT))))
 (rT gt2 r0)⟩
theorem h141 : FnGood Pg 141 g141.1 := g141.2
theorem c141 {d : Option Nat} {ty : TypeId} {pos : String} {af : Array Edge} {g : Option (Nat × Bool)} {x : Operand} {xs : Array Operand} {ats : Array TypeId} : DXOk Pg ⟨d, .call { callee := .value x, args := xs, argTypes := ats }, ty, pos, af, g⟩ (xCallD [(141, g141.1)]) := oG (tb1 h141 tb0)
/- wellspring/msg.Encode -/
noncomputable def g68 : {X : Xop // FnGood Pg 68 X} := ⟨_, fN' rfl Tryz.func68 (by decide) Tryz.ntmps68 Tryz.results68 rfl
 (cS (cR (s1 pt1 (u0 oX (bb (qT gt0) b0)) <|
  sa pt2 (qV (.one (.str [])) rfl) <|
  sa pt3 (qI (.ofNat 0)) <|
  se) rfl) (cS (cS (cR (y1 pt14 (u1 k65 eLoadN rfl (qT gt1)) <|
  s1 pt15 (uC rfl h141 (bb (qT gt14) b0)) <|
  y1 pt16 (fNo (qT gt15)) <|
  se) rfl) (cC gt16 cX cK)) (cS (cD mo (d1 0 0 rfl pt17 k51 (aT gt1 a0) <|
  d1 1 1 rfl pt18 k5 (aT gt17 a0) <|
  d1 3 0 rfl pt20 k52 (aT gt1 a0) <|
  d1 4 8 rfl pt21 k5 (aT gt20 a0) <|
  d1 7 0 rfl pt24 k41 (aT gt1 a0) <|
  d1 8 128 rfl pt25 k42 (aT gt24 a0) <|
  d1 9 384 rfl pt26 k43 (aT gt25 a0) <|
  d1 2 3 rfl pt19 c142 (aU rfl (aT gt18 (aI (.ofNat 2) a0))) <|
  d1 5 31 rfl pt22 c142 (aU rfl (aT gt21 (aI (.ofNat 2) a0))) <|
  d1 6 63 rfl pt23 oS (aT gt19 (aT gt22 a0)) <|
  d1 10 959 rfl pt27 c142 (aU rfl (aT gt26 (aI (.ofNat 2) a0))) <|
  d1 11 2047 rfl pt28 oS (aT gt23 (aT gt27 a0)) <|
  d1 12 4095 rfl pt4 oA (aT gt28 a0) <|
  de) rfl rfl rfl) (cS (cS (cR (s1 pt29 (uC rfl h143 (bb (qT gt1) b0)) <|
  sm pt30 (qI (.ofNat 0)) <|
  se) rfl) (cB (cO (cS (cR (y2 pt31 (iLss (qT gt30) (qI (.ofNat 3))) <|
  se) rfl) (cS (cC gt31 cK cE) (cS (cB (cS (cR (s1 pt32 (u0 k136 (bb (qT gt29) (bb (qT gt30) b0))) <|
  sa pt6 (qT gt32) <|
  se) rfl) (cR (sm pt33 (qT gt4) <|
  sm pt34 (qT gt6) <|
  y1 pt35 (fNc (qT gt34)) <|
  y1 pt36 (u1 k54 eLoad rfl (qT gt35)) <|
  y1 pt37 (u1 k38 eLenSlc rfl (qT gt36)) <|
  s1 pt38 (uC rfl h142 (bb (qT gt37) (bb (qI (.ofNat 2)) b0))) <|
  s1 pt39 (u0 oS (bb (qT gt33) (bb (qT gt38) b0))) <|
  sa pt4 (qT gt39) <|
  se) rfl))) (cR (y2 pt40 (iAdd (qT gt30) (qI (.ofNat 1))) <|
  sm pt30 (qT gt40) <|
  se) rfl))))))) (cS (cR (sa pt7 (qV (.one (.str [0])) rfl) <|
  se) rfl) (cS (cS (cR (y1 pt41 (u1 k41 eFaddr rfl (qT gt1)) <|
  y1 pt42 (u1 k42 eLoad rfl (qT gt41)) <|
  y1 pt43 (u1 k43 eLenSlc rfl (qT gt42)) <|
  sm pt44 (qI (.ofNat 0)) <|
  se) rfl) (cB (cO (cS (cR (y2 pt45 (iLss (qT gt44) (qT gt43)) <|
  se) rfl) (cS (cC gt45 cK cE) (cS (cB (cS (cR (sm pt46 (qT gt44) <|
  y2 pt47 (u2 k44 eIaddr rfl (qT gt42) (qT gt44)) <|
  y1 pt48 (u1 k45 eLoadN rfl (qT gt47)) <|
  s1 pt9 (u0 k46 b0) <|
  sa pt8 (qT gt46) <|
  y0 (u2 k47 eStore rfl (qT gt9) (qT gt48)) <|
  se) rfl) (cS (cS (cR (sm pt49 (qT gt8) <|
  y2 pt50 (iEql (qT gt49) (qI (.ofNat 0))) <|
  se) rfl) (cC gt50 (cR (y1 pt51 (u1 k48 eFaddr rfl (qT gt9)) <|
  y1 pt52 (u1 k3 eLoad rfl (qT gt51)) <|
  sa pt7 (qT gt52) <|
  se) rfl) cK)) (cD mo (d1 0 0 rfl pt53 oM (aT gt4 a0) <|
  d1 1 0 rfl pt54 k48 (aT gt9 a0) <|
  d1 2 2 rfl pt55 k3 (aT gt54 a0) <|
  d1 3 0 rfl pt56 k49 (aT gt9 a0) <|
  d1 4 8 rfl pt57 k5 (aT gt56 a0) <|
  d1 7 0 rfl pt60 k50 (aT gt9 a0) <|
  d1 8 128 rfl pt61 k5 (aT gt60 a0) <|
  d1 5 24 rfl pt58 c142 (aU rfl (aT gt57 (aI (.ofNat 2) a0))) <|
  d1 6 62 rfl pt59 oS (aT gt55 (aT gt58 a0)) <|
  d1 9 440 rfl pt62 c142 (aU rfl (aT gt61 (aI (.ofNat 2) a0))) <|
  d1 10 1022 rfl pt63 oS (aT gt59 (aT gt62 a0)) <|
  d1 11 2047 rfl pt64 oS (aT gt53 (aT gt63 a0)) <|
  d1 12 4095 rfl pt4 oA (aT gt64 a0) <|
  de) rfl rfl rfl)))) (cR (y2 pt65 (iAdd (qT gt44) (qI (.ofNat 1))) <|
  sm pt44 (qT gt65) <|
  se) rfl))))))) (cS (cS (cR (s1 pt66 (uC rfl h143 (bb (qT gt1) b0)) <|
  sm pt67 (qI (.ofNat 0)) <|
  se) rfl) (cB (cO (cS (cR (y2 pt68 (iLss (qT gt67) (qI (.ofNat 3))) <|
  se) rfl) (cS (cC gt68 cK cE) (cS (cB (cS (cR (s1 pt69 (u0 k136 (bb (qT gt66) (bb (qT gt67) b0))) <|
  sa pt11 (qT gt69) <|
  se) rfl) (cS (cR (sm pt70 (qT gt11) <|
  y1 pt71 (fNc (qT gt70)) <|
  y1 pt72 (u1 k54 eLoad rfl (qT gt71)) <|
  y1 pt73 (u1 k38 eLenSlc rfl (qT gt72)) <|
  sm pt74 (qI (.ofNat 0)) <|
  se) rfl) (cB (cO (cS (cR (y2 pt75 (iLss (qT gt74) (qT gt73)) <|
  se) rfl) (cS (cC gt75 cK cE) (cS (cB (cS (cR (y2 pt76 (u2 k39 eIaddr rfl (qT gt72) (qT gt74)) <|
  y1 pt77 (u1 k40 eLoadN rfl (qT gt76)) <|
  s1 pt13 (u0 k126 b0) <|
  y0 (u2 k129 eStore rfl (qT gt13) (qT gt77)) <|
  se) rfl) (cS (cS (cR (sm pt78 (qT gt4) <|
  y1 pt79 (u1 k0 eLenStr rfl (qT gt78)) <|
  y2 pt80 (iGtr (qT gt79) (qI (.ofNat 65535))) <|
  se) rfl) (cC gt80 cE cK)) (cR (sm pt81 (qT gt4) <|
  sm pt82 (qT gt7) <|
  y1 pt83 (u1 k40 eLoadN rfl (qT gt13)) <|
  s1 pt84 (uC rfl h118 (bb (qT gt82) (bb (qI (.ofNat 12)) (bb (qT gt83) b0)))) <|
  s1 pt85 (u0 oS (bb (qT gt81) (bb (qT gt84) b0))) <|
  sa pt4 (qT gt85) <|
  se) rfl)))) (cR (y2 pt86 (iAdd (qT gt74) (qI (.ofNat 1))) <|
  sm pt74 (qT gt86) <|
  se) rfl))))))))) (cR (y2 pt87 (iAdd (qT gt67) (qI (.ofNat 1))) <|
  sm pt67 (qT gt87) <|
  se) rfl))))))) (cS (cS (cR (sm pt88 (qT gt4) <|
  y1 pt89 (u1 k0 eLenStr rfl (qT gt88)) <|
  y2 pt90 (iGtr (qT gt89) (qI (.ofNat 65535))) <|
  se) rfl) (cC gt90 cX cK)) (cS (cR (sm pt91 (qT gt4) <|
  sa pt2 (qT gt91) <|
  sa pt3 (qI (.ofNat 0)) <|
  se) rfl) cT)))))))))
 (rT gt2 (rT gt3 r0))⟩
theorem h68 : FnGood Pg 68 g68.1 := g68.2
theorem c68 {d : Option Nat} {ty : TypeId} {pos : String} {af : Array Edge} {g : Option (Nat × Bool)} {x : Operand} {xs : Array Operand} {ats : Array TypeId} : DXOk Pg ⟨d, .call { callee := .value x, args := xs, argTypes := ats }, ty, pos, af, g⟩ (xCallD [(68, g68.1)]) := oG (tb1 h68 tb0)
/- wellspring/edns.in -/
noncomputable def g197 : {X : Xop // FnGood Pg 197 X} := ⟨_, fN' rfl Tryz.func197 (by decide) Tryz.ntmps197 Tryz.results197 rfl
 (cS (cR (sa pt4 qB <|
  se) rfl) (cS (cR (sm pt5 (qT gt0) <|
  y2 pt6 (iGeq (qT gt5) (qI (.ofNat 0))) <|
  sm pt7 (qT gt6) <|
  g1 gt7 pt8 (fMv (qT gt0)) rfl <|
  g1 gt7 pt9 (fMv (qT gt1)) rfl <|
  g1 gt7 pt10 (iLeq (qT gt8) (qT gt9)) rfl <|
  s1 pt11 (uP (qT gt7) (qT gt10) qB) <|
  sa pt4 (qT gt11) <|
  se) rfl) cT))
 (rT gt4 r0)⟩
theorem h197 : FnGood Pg 197 g197.1 := g197.2
theorem c197 {d : Option Nat} {ty : TypeId} {pos : String} {af : Array Edge} {g : Option (Nat × Bool)} {x : Operand} {xs : Array Operand} {ats : Array TypeId} : DXOk Pg ⟨d, .call { callee := .value x, args := xs, argTypes := ats }, ty, pos, af, g⟩ (xCallD [(197, g197.1)]) := oG (tb1 h197 tb0)
/- (wellspring/edns.Opt).Record -/
noncomputable def g137 : {X : Xop // FnGood Pg 137 X} := ⟨_, fN' rfl Tryz.func137 (by decide) Tryz.ntmps137 Tryz.results137 rfl
 (cS (cR (s1 pt1 (u0 oX (bb (qT gt0) b0)) <|
  s1 pt2 (u0 k126 b0) <|
  sa pt3 qB <|
  se) rfl) (cS (cS (cR (y1 pt5 (u1 k242 eFaddr rfl (qT gt1)) <|
  y1 pt6 (u1 k108 eLoad rfl (qT gt5)) <|
  y1 pt7 (fNo (qT gt6)) <|
  sm pt8 (qT gt7) <|
  g1 gt8 pt9 (u1 k317 eFaddr rfl (qT gt1)) rfl <|
  g1 gt8 pt10 (u1 k5 eLoad rfl (qT gt9)) rfl <|
  g1 gt8 pt11 (uC rfl h197 (bb (qT gt10) (bb (qI (.ofNat 65535)) b0))) rfl <|
  g1 gt8 pt12 (fNo (qT gt11)) rfl <|
  s1 pt13 (uP (qT gt8) qB (qT gt12)) <|
  sm pt14 (qT gt13) <|
  g1 gt14 pt15 (u1 k318 eFaddr rfl (qT gt1)) rfl <|
  g1 gt14 pt16 (u1 k5 eLoad rfl (qT gt15)) rfl <|
  g1 gt14 pt17 (uC rfl h197 (bb (qT gt16) (bb (qI (.ofNat 127)) b0))) rfl <|
  g1 gt14 pt18 (fNo (qT gt17)) rfl <|
  s1 pt19 (uP (qT gt14) qB (qT gt18)) <|
  sm pt20 (qT gt19) <|
  g1 gt20 pt21 (u1 k148 eFaddr rfl (qT gt1)) rfl <|
  g1 gt20 pt22 (u1 k5 eLoad rfl (qT gt21)) rfl <|
  g1 gt20 pt23 (uC rfl h197 (bb (qT gt22) (bb (qI (.ofNat 255)) b0))) rfl <|
  g1 gt20 pt24 (fNo (qT gt23)) rfl <|
  s1 pt25 (uP (qT gt20) qB (qT gt24)) <|
  se) rfl) (cC gt25 cX cK)) (cS (cR (y1 pt27 (u1 k317 eFaddr rfl (qT gt1)) <|
  y1 pt28 (u1 k5 eLoad rfl (qT gt27)) <|
  y1 pt29 (u1 k318 eFaddr rfl (qT gt1)) <|
  y1 pt30 (u1 k5 eLoad rfl (qT gt29)) <|
  s1 pt31 (u0 (oH (.inl rfl)) (bb (qT gt30) (bb (qI (.ofNat 24)) b0))) <|
  y1 pt32 (u1 k148 eFaddr rfl (qT gt1)) <|
  y1 pt33 (u1 k5 eLoad rfl (qT gt32)) <|
  s1 pt34 (u0 (oH (.inl rfl)) (bb (qT gt33) (bb (qI (.ofNat 16)) b0))) <|
  s1 pt35 (u0 oI (bb (qT gt31) (bb (qT gt34) b0))) <|
  s1 pt36 (u0 k128 (bb (qV (.one (.str [0])) rfl) (bb (qI (.ofNat 41)) (bb (qT gt28) (bb (qT gt35) b0))))) <|
  s1 pt4 (u0 k126 b0) <|
  y0 (u2 k129 eStore rfl (qT gt4) (qT gt36)) <|
  se) rfl) (cS (cS (cR (y1 pt37 (u1 k319 eFaddr rfl (qT gt1)) <|
  y1 pt38 (u1 k108 eLoad rfl (qT gt37)) <|
  se) rfl) (cC gt38 cX cK)) (cS (cR (y1 pt43 (u1 k40 eLoadN rfl (qT gt4)) <|
  y0 (u2 k129 eStore rfl (qT gt2) (qT gt43)) <|
  sa pt3 qB <|
  se) rfl) cT)))))
 (rR gt2 underlying40 rfl i40 rfl (rT gt3 r0))⟩
theorem h137 : FnGood Pg 137 g137.1 := g137.2
theorem c137 {d : Option Nat} {ty : TypeId} {pos : String} {af : Array Edge} {g : Option (Nat × Bool)} {x : Operand} {xs : Array Operand} {ats : Array TypeId} : DXOk Pg ⟨d, .call { callee := .value x, args := xs, argTypes := ats }, ty, pos, af, g⟩ (xCallD [(137, g137.1)]) := oG (tb1 h137 tb0)
/- wellspring/query.in -/
noncomputable def g212 : {X : Xop // FnGood Pg 212 X} := ⟨_, fN' rfl Tryz.func212 (by decide) Tryz.ntmps212 Tryz.results212 rfl
 (cS (cR (sa pt2 qB <|
  se) rfl) (cS (cR (sm pt3 (qT gt0) <|
  y2 pt4 (iGeq (qT gt3) (qI (.ofNat 0))) <|
  sm pt5 (qT gt4) <|
  g1 gt5 pt6 (fMv (qT gt0)) rfl <|
  g1 gt5 pt7 (iLeq (qT gt6) (qI (.ofNat 65535))) rfl <|
  s1 pt8 (uP (qT gt5) (qT gt7) qB) <|
  sa pt2 (qT gt8) <|
  se) rfl) cT))
 (rT gt2 r0)⟩
theorem h212 : FnGood Pg 212 g212.1 := g212.2
theorem c212 {d : Option Nat} {ty : TypeId} {pos : String} {af : Array Edge} {g : Option (Nat × Bool)} {x : Operand} {xs : Array Operand} {ats : Array TypeId} : DXOk Pg ⟨d, .call { callee := .value x, args := xs, argTypes := ats }, ty, pos, af, g⟩ (xCallD [(212, g212.1)]) := oG (tb1 h212 tb0)
/- (wellspring/query.Out).Check -/
noncomputable def g163 : {X : Xop // FnGood Pg 163 X} := ⟨_, fN' rfl Tryz.func163 (by decide) Tryz.ntmps163 Tryz.results163 rfl
 (cS (cR (s1 pt1 (u0 oX (bb (qT gt0) b0)) <|
  sa pt2 qB <|
  se) rfl) (cS (cR (y1 pt4 (u1 k320 eFaddr rfl (qT gt1)) <|
  y1 pt5 (u1 k3 eLoad rfl (qT gt4)) <|
  y1 pt6 (u1 k0 eLenStr rfl (qT gt5)) <|
  y2 pt7 (iEql (qT gt6) (qI (.ofNat 4))) <|
  sm pt8 (qT gt7) <|
  g1 gt8 pt9 (u1 k320 eFaddr rfl (qT gt1)) rfl <|
  g1 gt8 pt10 (u1 k3 eLoad rfl (qT gt9)) rfl <|
  g1 gt8 pt11 (u1 k0 eLenStr rfl (qT gt10)) rfl <|
  g1 gt8 pt12 (iEql (qT gt11) (qI (.ofNat 16))) rfl <|
  s1 pt13 (uP (qT gt8) qB (qT gt12)) <|
  sa pt3 (qT gt13) <|
  se) rfl) (cS (cR (sm pt14 (qT gt3) <|
  sm pt15 (qT gt14) <|
  g1 gt15 pt16 (u1 k321 eFaddr rfl (qT gt1)) rfl <|
  g1 gt15 pt17 (u1 k5 eLoad rfl (qT gt16)) rfl <|
  g1 gt15 pt18 (uC rfl h212 (bb (qT gt17) b0)) rfl <|
  s1 pt19 (uP (qT gt15) (qT gt18) qB) <|
  sm pt20 (qT gt19) <|
  g1 gt20 pt21 (u1 k322 eFaddr rfl (qT gt1)) rfl <|
  g1 gt20 pt22 (u1 k5 eLoad rfl (qT gt21)) rfl <|
  g1 gt20 pt23 (uC rfl h212 (bb (qT gt22) b0)) rfl <|
  s1 pt24 (uP (qT gt20) (qT gt23) qB) <|
  sm pt25 (qT gt24) <|
  g1 gt25 pt26 (u1 k323 eFaddr rfl (qT gt1)) rfl <|
  g1 gt25 pt27 (u1 k48 eFaddr rfl (qT gt26)) rfl <|
  g1 gt25 pt28 (u1 k3 eLoad rfl (qT gt27)) rfl <|
  g1 gt25 pt29 (uC rfl h83 (bb (qT gt28) b0)) rfl <|
  s1 pt30 (uP (qT gt25) (qT gt29) qB) <|
  sm pt31 (qT gt30) <|
  g1 gt31 pt32 (u1 k323 eFaddr rfl (qT gt1)) rfl <|
  g1 gt31 pt33 (u1 k49 eFaddr rfl (qT gt32)) rfl <|
  g1 gt31 pt34 (u1 k5 eLoad rfl (qT gt33)) rfl <|
  g1 gt31 pt35 (uC rfl h212 (bb (qT gt34) b0)) rfl <|
  s1 pt36 (uP (qT gt31) (qT gt35) qB) <|
  sm pt37 (qT gt36) <|
  g1 gt37 pt38 (u1 k323 eFaddr rfl (qT gt1)) rfl <|
  g1 gt37 pt39 (u1 k50 eFaddr rfl (qT gt38)) rfl <|
  g1 gt37 pt40 (u1 k5 eLoad rfl (qT gt39)) rfl <|
  g1 gt37 pt41 (uC rfl h212 (bb (qT gt40) b0)) rfl <|
  s1 pt42 (uP (qT gt37) (qT gt41) qB) <|
  sa pt2 (qT gt42) <|
  se) rfl) cT)))
 (rT gt2 r0)⟩
theorem h163 : FnGood Pg 163 g163.1 := g163.2
theorem c163 {d : Option Nat} {ty : TypeId} {pos : String} {af : Array Edge} {g : Option (Nat × Bool)} {x : Operand} {xs : Array Operand} {ats : Array TypeId} : DXOk Pg ⟨d, .call { callee := .value x, args := xs, argTypes := ats }, ty, pos, af, g⟩ (xCallD [(163, g163.1)]) := oG (tb1 h163 tb0)
/- (wellspring/query.Out).Bytes -/
noncomputable def g175 : {X : Xop // FnGood Pg 175 X} := ⟨_, fN' rfl Tryz.func175 (by decide) Tryz.ntmps175 Tryz.results175 rfl
 (cS (cR (s1 pt1 (u0 oX (bb (qT gt0) b0)) <|
  sa pt2 (qV (.one (.str [])) rfl) <|
  se) rfl) (cS (cS (cR (y1 pt7 (u1 k324 eLoadN rfl (qT gt1)) <|
  s1 pt8 (uC rfl h163 (bb (qT gt7) b0)) <|
  y1 pt9 (fNo (qT gt8)) <|
  se) rfl) (cC gt9 cX cK)) (cS (cR (s1 pt11 (u0 k325 (bb qB (bb (qI (.ofNat 1232)) b0))) <|
  s1 pt12 (uC rfl h137 (bb (qT gt11) b0)) <|
  sm pt10 (qT gt12) <|
  y1 pt13 (fEx (qT gt10)) <|
  y1 pt14 (fEx (qT gt10)) <|
  s1 pt3 (u0 k126 b0) <|
  y0 (u2 k129 eStore rfl (qT gt3) (qT gt13)) <|
  sa pt4 (qT gt14) <|
  se) rfl) (cS (cR (y1 pt16 (u1 k321 eFaddr rfl (qT gt1)) <|
  y1 pt17 (u1 k5 eLoad rfl (qT gt16)) <|
  y1 pt18 (u1 k323 eFaddr rfl (qT gt1)) <|
  y1 pt19 (u1 k45 eLoadN rfl (qT gt18)) <|
  s1 pt20 (u0 k133 (bb (qT gt19) b0)) <|
  y1 pt21 (u1 k40 eLoadN rfl (qT gt3)) <|
  s1 pt22 (u0 k137 (bb (qT gt21) b0)) <|
  s1 pt23 (u0 k326 (bb (qT gt17) (bb (qT gt20) (bb (qT gt22) b0)))) <|
  s1 pt24 (uC rfl h68 (bb (qT gt23) b0)) <|
  sm pt15 (qT gt24) <|
  y1 pt25 (fEx (qT gt15)) <|
  y1 pt26 (fEx (qT gt15)) <|
  sa pt5 (qT gt25) <|
  sa pt6 (qT gt26) <|
  se) rfl) (cS (cR (sm pt27 (qT gt5) <|
  sa pt2 (qT gt27) <|
  se) rfl) cT)))))
 (rT gt2 r0)⟩
theorem h175 : FnGood Pg 175 g175.1 := g175.2
theorem c175 {d : Option Nat} {ty : TypeId} {pos : String} {af : Array Edge} {g : Option (Nat × Bool)} {x : Operand} {xs : Array Operand} {ats : Array TypeId} : DXOk Pg ⟨d, .call { callee := .value x, args := xs, argTypes := ats }, ty, pos, af, g⟩ (xCallD [(175, g175.1)]) := oG (tb1 h175 tb0)
/- (*wellspring/node.Node).ask -/
noncomputable def g100 : {X : Xop // FnGood Pg 100 X} := ⟨_, fN' rfl Tryz.func100 (by decide) Tryz.ntmps100 Tryz.results100 rfl
 (cS (cR (s1 pt4 (u0 oX (bb (qT gt0) b0)) <|
  s1 pt7 (u0 oX (bb (qT gt3) b0)) <|
  se) rfl) (cS (cR (s1 pt12 (u0 (oF0 rfl) (bb (qT gt4) b0)) <|
  sa pt8 (qT gt12) <|
  se) rfl) (cS (cR (sm pt14 (qT gt1) <|
  y1 pt15 (u1 k313 eLoad rfl (qT gt4)) <|
  y1 pt16 (fNc (qT gt15)) <|
  y1 pt17 (u1 k327 eFaddr rfl (qT gt16)) <|
  y1 pt18 (u1 k9 eFaddr rfl (qT gt17)) <|
  y1 pt19 (u1 k5 eLoad rfl (qT gt18)) <|
  s1 pt20 (uC rfl h173 (bb (qT gt14) (bb (qT gt19) b0))) <|
  sm pt13 (qT gt20) <|
  y1 pt21 (fEx (qT gt13)) <|
  y1 pt22 (fEx (qT gt13)) <|
  sa pt9 (qT gt21) <|
  sa pt10 (qT gt22) <|
  se) rfl) (cS (cD mo (d1 0 0 rfl pt23 oM (aT gt8 a0) <|
  d1 2 0 rfl pt25 oM (aT gt8 a0) <|
  d1 5 0 rfl pt28 k328 (aT gt7 a0) <|
  d1 6 32 rfl pt29 k3 (aT gt28 a0) <|
  d1 7 0 rfl pt30 k329 (aT gt7 a0) <|
  d1 8 128 rfl pt31 k45 (aT gt30 a0) <|
  d1 9 0 rfl pt32 oM (aT gt9 a0) <|
  d1 10 0 rfl pt33 oM (aT gt2 a0) <|
  d1 12 0 rfl pt11 k330 a0 <|
  d1 1 1 rfl pt24 c172 (aT gt23 (aI (.ofNat 65536) a0)) <|
  d1 3 7 rfl pt26 c172 (aT gt25 (aI (.ofNat 60000) a0)) <|
  d1 4 15 rfl pt27 oI (aI (.ofNat 1024) (aT gt26 a0)) <|
  d1 11 2047 rfl pt34 k331 (aT gt24 (aT gt27 (aT gt29 (aT gt31 (aT gt32 (aT gt33 a0)))))) <|
  d0 13 8191 rfl k332 (aT gt11 (aT gt34 a0)) <|
  de) rfl rfl rfl) (cS (cD mo (d1 0 0 rfl pt35 k329 (aT gt7 a0) <|
  d1 1 1 rfl pt36 k48 (aT gt35 a0) <|
  d1 2 3 rfl pt37 k3 (aT gt36 a0) <|
  d1 3 0 rfl pt38 oM (aT gt8 a0) <|
  d1 4 8 rfl pt39 c172 (aT gt38 (aI (.ofNat 1099511627776) a0)) <|
  d1 5 31 rfl pt40 c174 (aU rfl (aT gt37 (aT gt39 a0))) <|
  d1 6 63 rfl pt41 k323 (aT gt11 a0) <|
  d1 7 127 rfl pt42 k48 (aT gt41 a0) <|
  d0 8 255 rfl k115 (aT gt42 (aT gt40 a0)) <|
  de) rfl rfl rfl) (cS (cD mo (d1 0 0 rfl pt43 k313 (aT gt4 a0) <|
  d1 1 0 rfl pt44 k313 (aT gt4 a0) <|
  d1 2 2 rfl pt45 oC (aT gt44 a0) <|
  d1 3 6 rfl pt46 k333 (aT gt45 a0) <|
  d1 4 14 rfl pt47 k334 (aT gt46 a0) <|
  d1 5 0 rfl pt48 k324 (aT gt11 a0) <|
  d1 6 32 rfl pt49 k335 (aT gt48 a0) <|
  d1 7 126 rfl pt50 k336 (aT gt47 (aT gt49 a0)) <|
  d1 8 255 rfl pt51 oC (aT gt43 a0) <|
  d1 9 511 rfl pt52 k333 (aT gt51 a0) <|
  d0 10 1023 rfl k337 (aT gt52 (aT gt50 a0)) <|
  de) rfl rfl rfl) (cD mo (d1 0 0 rfl pt53 k313 (aT gt4 a0) <|
  d1 1 0 rfl pt54 k313 (aT gt4 a0) <|
  d1 2 2 rfl pt55 oC (aT gt54 a0) <|
  d1 3 6 rfl pt56 k70 (aT gt55 a0) <|
  d1 4 14 rfl pt57 k258 (aT gt56 a0) <|
  d1 5 0 rfl pt58 k320 (aT gt11 a0) <|
  d1 6 32 rfl pt59 k3 (aT gt58 a0) <|
  d1 7 0 rfl pt60 k322 (aT gt11 a0) <|
  d1 8 128 rfl pt61 k5 (aT gt60 a0) <|
  d1 9 0 rfl pt62 k324 (aT gt11 a0) <|
  d1 10 512 rfl pt63 c175 (aU rfl (aT gt62 a0)) <|
  d1 11 2016 rfl pt64 k338 (aT gt59 (aI (.ofNat 53) (aT gt61 (aV (.one (.bool true)) rfl (aT gt63 a0))))) <|
  d1 12 4064 rfl pt65 k262 (aT gt64 a0) <|
  d1 13 8190 rfl pt66 k263 (aT gt57 (aT gt65 a0)) <|
  d1 14 16383 rfl pt67 oC (aT gt53 a0) <|
  d1 15 32767 rfl pt68 k70 (aT gt67 a0) <|
  d0 16 65535 rfl k71 (aT gt68 (aT gt66 a0)) <|
  de) rfl rfl rfl)))))))
 r0⟩
theorem h100 : FnGood Pg 100 g100.1 := g100.2
theorem c100 {d : Option Nat} {ty : TypeId} {pos : String} {af : Array Edge} {g : Option (Nat × Bool)} {x : Operand} {xs : Array Operand} {ats : Array TypeId} : DXOk Pg ⟨d, .call { callee := .value x, args := xs, argTypes := ats }, ty, pos, af, g⟩ (xCallD [(100, g100.1)]) := oG (tb1 h100 tb0)
/- wellspring/group.in -/
noncomputable def g187 : {X : Xop // FnGood Pg 187 X} := ⟨_, fN' rfl Tryz.func187 (by decide) Tryz.ntmps187 Tryz.results187 rfl
 (cS (cR (sa pt4 qB <|
  se) rfl) (cS (cR (sm pt5 (qT gt0) <|
  y2 pt6 (iGeq (qT gt5) (qI (.ofNat 0))) <|
  sm pt7 (qT gt6) <|
  g1 gt7 pt8 (fMv (qT gt0)) rfl <|
  g1 gt7 pt9 (fMv (qT gt1)) rfl <|
  g1 gt7 pt10 (iLeq (qT gt8) (qT gt9)) rfl <|
  s1 pt11 (uP (qT gt7) (qT gt10) qB) <|
  sa pt4 (qT gt11) <|
  se) rfl) cT))
 (rT gt4 r0)⟩
theorem h187 : FnGood Pg 187 g187.1 := g187.2
theorem c187 {d : Option Nat} {ty : TypeId} {pos : String} {af : Array Edge} {g : Option (Nat × Bool)} {x : Operand} {xs : Array Operand} {ats : Array TypeId} : DXOk Pg ⟨d, .call { callee := .value x, args := xs, argTypes := ats }, ty, pos, af, g⟩ (xCallD [(187, g187.1)]) := oG (tb1 h187 tb0)
/- wellspring/data.split -/
noncomputable def g235 : {X : Xop // FnGood Pg 235 X} := ⟨_, fN' rfl Tryz.func235 (by decide) Tryz.ntmps235 Tryz.results235 rfl
 (cS (cR (s1 pt4 (u0 k112 b0) <|
  sa pt5 qB <|
  se) rfl) (cS (cS (cR (sm pt8 (qT gt0) <|
  sm pt9 (qT gt1) <|
  s1 pt10 (uC rfl h226 (bb (qT gt8) (bb (qT gt9) b0))) <|
  y1 pt11 (fNo (qT gt10)) <|
  se) rfl) (cC gt11 cX cK)) (cS (cR (s1 pt14 (uC rfl h242 b0) <|
  sm pt15 (qT gt0) <|
  s1 pt16 (u0 k122 (bb (qT gt14) (bb (qT gt15) b0))) <|
  sm pt13 (qT gt16) <|
  y1 pt17 (fEx (qT gt13)) <|
  y1 pt18 (fEx (qT gt13)) <|
  s1 pt6 (u0 k123 b0) <|
  y0 (u2 k124 eStore rfl (qT gt6) (qT gt17)) <|
  sa pt7 (qT gt18) <|
  se) rfl) (cS (cS (cR (sm pt19 (qT gt7) <|
  y1 pt20 (fNo (qT gt19)) <|
  se) rfl) (cC gt20 cX cK)) (cS (cR (sm pt23 (qT gt1) <|
  sm pt24 (qT gt1) <|
  y1 pt25 (u1 k0 eLenStr rfl (qT gt24)) <|
  y1 pt26 (u1 k125 eLoadN rfl (qT gt6)) <|
  s1 pt27 (uC rfl h243 (bb (qT gt23) (bb (qI (.ofNat 0)) (bb (qT gt25) (bb (qT gt26) b0))))) <|
  y1 pt28 (fEx (qT gt27)) <|
  y1 pt29 (fEx (qT gt27)) <|
  y0 (u2 k120 eStore rfl (qT gt4) (qT gt28)) <|
  sa pt5 (qT gt29) <|
  se) rfl) cT)))))
 (rR gt4 underlying338 rfl i338 rfl (rT gt5 r0))⟩
theorem h235 : FnGood Pg 235 g235.1 := g235.2
theorem c235 {d : Option Nat} {ty : TypeId} {pos : String} {af : Array Edge} {g : Option (Nat × Bool)} {x : Operand} {xs : Array Operand} {ats : Array TypeId} : DXOk Pg ⟨d, .call { callee := .value x, args := xs, argTypes := ats }, ty, pos, af, g⟩ (xCallD [(235, g235.1)]) := oG (tb1 h235 tb0)
/- wellspring/data.Low -/
noncomputable def g227 : {X : Xop // FnGood Pg 227 X} := ⟨_, fN' rfl Tryz.func227 (by decide) Tryz.ntmps227 Tryz.results227 rfl
 (cS (cR (sa pt4 (qV (.one (.str [])) rfl) <|
  se) rfl) (cS (cR (sm pt10 (qT gt0) <|
  sm pt11 (qT gt1) <|
  s1 pt12 (uC rfl h235 (bb (qT gt10) (bb (qT gt11) b0))) <|
  sm pt9 (qT gt12) <|
  y1 pt13 (fEx (qT gt9)) <|
  y1 pt14 (fEx (qT gt9)) <|
  s1 pt5 (u0 k112 b0) <|
  y0 (u2 k120 eStore rfl (qT gt5) (qT gt13)) <|
  sa pt6 (qT gt14) <|
  se) rfl) (cS (cS (cR (y1 pt15 (u1 k121 eFaddr rfl (qT gt5)) <|
  y1 pt16 (u1 k12 eLoad rfl (qT gt15)) <|
  y1 pt17 (u1 k1 eLenSlc rfl (qT gt16)) <|
  sm pt18 (qI (.ofNat 0)) <|
  se) rfl) (cB (cO (cS (cR (y2 pt19 (iLss (qT gt18) (qT gt17)) <|
  se) rfl) (cS (cC gt19 cK cE) cX))))) (cS (cR (y1 pt30 (u1 k118 eLoadN rfl (qT gt5)) <|
  s1 pt31 (uC rfl h244 (bb (qT gt30) b0)) <|
  sa pt4 (qT gt31) <|
  se) rfl) cT))))
 (rT gt4 r0)⟩
theorem h227 : FnGood Pg 227 g227.1 := g227.2
theorem c227 {d : Option Nat} {ty : TypeId} {pos : String} {af : Array Edge} {g : Option (Nat × Bool)} {x : Operand} {xs : Array Operand} {ats : Array TypeId} : DXOk Pg ⟨d, .call { callee := .value x, args := xs, argTypes := ats }, ty, pos, af, g⟩ (xCallD [(227, g227.1)]) := oG (tb1 h227 tb0)
/- slices.Index[[]string,string] -/
noncomputable def g252 : {X : Xop // FnGood Pg 252 X} := ⟨_, fN' rfl Tryz.func252 (by decide) Tryz.ntmps252 Tryz.results252 rfl
 (cS (cR (sa pt4 (qI (.ofNat 0)) <|
  se) rfl) (cS (cS (cR (sm pt6 (qT gt0) <|
  y1 pt7 (u1 k1 eLenSlc rfl (qT gt6)) <|
  sm pt8 (qI (.ofNat 0)) <|
  se) rfl) (cB (cO (cS (cR (y2 pt9 (iLss (qT gt8) (qT gt7)) <|
  se) rfl) (cS (cC gt9 cK cE) (cS (cB (cS (cR (sm pt10 (qT gt8) <|
  sa pt5 (qT gt10) <|
  se) rfl) (cS (cR (sm pt11 (qT gt1) <|
  sm pt12 (qT gt0) <|
  sm pt13 (qT gt5) <|
  y2 pt14 (u2 k2 eIaddr rfl (qT gt12) (qT gt13)) <|
  y1 pt15 (u1 k3 eLoad rfl (qT gt14)) <|
  s1 pt16 (u0 oS (bb (qT gt11) (bb (qT gt15) b0))) <|
  se) rfl) (cC gt16 cX cK)))) (cR (y2 pt18 (iAdd (qT gt8) (qI (.ofNat 1))) <|
  sm pt8 (qT gt18) <|
  se) rfl))))))) (cS (cR (sa pt4 (qI (.negSucc 0)) <|
  se) rfl) cT)))
 (rT gt4 r0)⟩
theorem h252 : FnGood Pg 252 g252.1 := g252.2
theorem c252 {d : Option Nat} {ty : TypeId} {pos : String} {af : Array Edge} {g : Option (Nat × Bool)} {x : Operand} {xs : Array Operand} {ats : Array TypeId} : DXOk Pg ⟨d, .call { callee := .value x, args := xs, argTypes := ats }, ty, pos, af, g⟩ (xCallD [(252, g252.1)]) := oG (tb1 h252 tb0)
/- slices.Contains[[]string,string] -/
noncomputable def g228 : {X : Xop // FnGood Pg 228 X} := ⟨_, fN' rfl Tryz.func228 (by decide) Tryz.ntmps228 Tryz.results228 rfl
 (cS (cR (sa pt4 qB <|
  se) rfl) (cS (cR (sm pt5 (qT gt0) <|
  sm pt6 (qT gt1) <|
  s1 pt7 (uC rfl h252 (bb (qT gt5) (bb (qT gt6) b0))) <|
  y2 pt8 (iGeq (qT gt7) (qI (.ofNat 0))) <|
  sa pt4 (qT gt8) <|
  se) rfl) cT))
 (rT gt4 r0)⟩
theorem h228 : FnGood Pg 228 g228.1 := g228.2
theorem c228 {d : Option Nat} {ty : TypeId} {pos : String} {af : Array Edge} {g : Option (Nat × Bool)} {x : Operand} {xs : Array Operand} {ats : Array TypeId} : DXOk Pg ⟨d, .call { callee := .value x, args := xs, argTypes := ats }, ty, pos, af, g⟩ (xCallD [(228, g228.1)]) := oG (tb1 h228 tb0)
/- wellspring/group.Check -/
noncomputable def g183 : {X : Xop // FnGood Pg 183 X} := ⟨_, fN' rfl Tryz.func183 (by decide) Tryz.ntmps183 Tryz.results183 rfl
 (cS (cR (s1 pt1 (u0 oX (bb (qT gt0) b0)) <|
  sa pt2 qB <|
  se) rfl) (cS (cR (y1 pt6 (u1 k171 eFaddr rfl (qT gt1)) <|
  y1 pt7 (u1 k45 eLoadN rfl (qT gt6)) <|
  s1 pt3 (u0 k46 b0) <|
  y0 (u2 k47 eStore rfl (qT gt3) (qT gt7)) <|
  se) rfl) (cS (cS (cD mo (d1 0 0 rfl pt8 k48 (aT gt3 a0) <|
  d1 1 1 rfl pt9 k3 (aT gt8 a0) <|
  d1 2 3 rfl pt10 c83 (aU rfl (aT gt9 a0)) <|
  d1 3 7 rfl pt11 oN (aT gt10 a0) <|
  d1 4 15 rfl pt12 oM (aT gt11 a0) <|
  e1 5 31 gt12 rfl pt13 k48 (aT gt3 a0) rfl <|
  e1 6 63 gt12 rfl pt14 k3 (aT gt13 a0) rfl <|
  e1 8 31 gt12 rfl pt16 k48 (aT gt3 a0) rfl <|
  e1 9 287 gt12 rfl pt17 k3 (aT gt16 a0) rfl <|
  e1 7 127 gt12 rfl pt15 c36 (aU rfl (aT gt14 a0)) rfl <|
  e1 10 1023 gt12 rfl pt18 oS (aT gt15 (aT gt17 a0)) rfl <|
  d1 11 2047 rfl pt19 oP (aT gt12 (aV (.one (.bool true)) rfl (aT gt18 a0))) <|
  d1 12 4095 rfl pt20 oM (aT gt19 a0) <|
  e1 13 8191 gt20 rfl pt21 k49 (aT gt3 a0) rfl <|
  e1 14 16383 gt20 rfl pt22 k5 (aT gt21 a0) rfl <|
  e1 15 32767 gt20 rfl pt23 c187 (aU rfl (aT gt22 (aI (.ofNat 65535) a0))) rfl <|
  e1 16 65535 gt20 rfl pt24 oN (aT gt23 a0) rfl <|
  d1 17 131071 rfl pt25 oP (aT gt20 (aV (.one (.bool true)) rfl (aT gt24 a0))) <|
  d1 18 262143 rfl pt26 oM (aT gt25 a0) <|
  e1 19 524287 gt26 rfl pt27 k50 (aT gt3 a0) rfl <|
  e1 20 1048575 gt26 rfl pt28 k5 (aT gt27 a0) rfl <|
  e1 21 2097151 gt26 rfl pt29 c187 (aU rfl (aT gt28 (aI (.ofNat 65535) a0))) rfl <|
  e1 22 4194303 gt26 rfl pt30 oN (aT gt29 a0) rfl <|
  d1 23 8388607 rfl pt31 oP (aT gt26 (aV (.one (.bool true)) rfl (aT gt30 a0))) <|
  d1 24 16777215 rfl pt32 oM (aT gt31 a0) <|
  e1 25 33554431 gt32 rfl pt33 k339 (aT gt1 a0) rfl <|
  e1 26 67108863 gt32 rfl pt34 k5 (aT gt33 a0) rfl <|
  e1 27 134217727 gt32 rfl pt35 c187 (aU rfl (aT gt34 (aI (.ofNat 2147483647) a0))) rfl <|
  e1 28 268435455 gt32 rfl pt36 oN (aT gt35 a0) rfl <|
  d1 29 536870911 rfl pt37 oP (aT gt32 (aV (.one (.bool true)) rfl (aT gt36 a0))) <|
  de) rfl rfl rfl) (cC gt37 cX cK)) (cS (cS (cR (y1 pt38 (u1 k153 eFaddr rfl (qT gt1)) <|
  y1 pt39 (u1 k12 eLoad rfl (qT gt38)) <|
  y1 pt40 (u1 k1 eLenSlc rfl (qT gt39)) <|
  sm pt41 (qI (.ofNat 0)) <|
  se) rfl) (cB (cO (cS (cR (y2 pt42 (iLss (qT gt41) (qT gt40)) <|
  se) rfl) (cS (cC gt42 cK cE) (cS (cB (cS (cR (sm pt43 (qT gt41) <|
  y2 pt44 (u2 k2 eIaddr rfl (qT gt39) (qT gt41)) <|
  y1 pt45 (u1 k3 eLoad rfl (qT gt44)) <|
  sa pt4 (qT gt43) <|
  sa pt5 (qT gt45) <|
  se) rfl) (cS (cR (y1 pt46 (u1 k49 eFaddr rfl (qT gt3)) <|
  y1 pt47 (u1 k5 eLoad rfl (qT gt46)) <|
  sm pt48 (qT gt5) <|
  s1 pt49 (uC rfl h226 (bb (qT gt47) (bb (qT gt48) b0))) <|
  y1 pt50 (fNo (qT gt49)) <|
  sm pt51 (qT gt50) <|
  g1 gt51 pt52 (u1 k49 eFaddr rfl (qT gt3)) rfl <|
  g1 gt51 pt53 (u1 k5 eLoad rfl (qT gt52)) rfl <|
  g1 gt51 pt54 (fMv (qT gt5)) rfl <|
  g1 gt51 pt55 (uC rfl h227 (bb (qT gt53) (bb (qT gt54) b0))) rfl <|
  g1 gt51 pt56 (fMv (qT gt5)) rfl <|
  g1 gt51 pt57 (u0 oS (bb (qT gt55) (bb (qT gt56) b0))) rfl <|
  s1 pt58 (uP (qT gt51) qB (qT gt57)) <|
  sm pt59 (qT gt58) <|
  g1 gt59 pt60 (u1 k153 eFaddr rfl (qT gt1)) rfl <|
  g1 gt59 pt61 (u1 k12 eLoad rfl (qT gt60)) rfl <|
  g1 gt59 pt62 (fMv (qT gt4)) rfl <|
  g1 gt59 pt63 (u0 k340 (bb (qT gt61) (bb (qT gt62) b0))) rfl <|
  g1 gt59 pt64 (fMv (qT gt5)) rfl <|
  g1 gt59 pt65 (uC rfl h228 (bb (qT gt63) (bb (qT gt64) b0))) rfl <|
  s1 pt66 (uP (qT gt59) qB (qT gt65)) <|
  se) rfl) (cC gt66 cX cK)))) (cR (y2 pt67 (iAdd (qT gt41) (qI (.ofNat 1))) <|
  sm pt41 (qT gt67) <|
  se) rfl))))))) (cS (cR (y1 pt68 (u1 k153 eFaddr rfl (qT gt1)) <|
  y1 pt69 (u1 k12 eLoad rfl (qT gt68)) <|
  y1 pt70 (u1 k1 eLenSlc rfl (qT gt69)) <|
  y2 pt71 (iGtr (qT gt70) (qI (.ofNat 0))) <|
  sa pt2 (qT gt71) <|
  se) rfl) cT)))))
 (rT gt2 r0)⟩
theorem h183 : FnGood Pg 183 g183.1 := g183.2
theorem c183 {d : Option Nat} {ty : TypeId} {pos : String} {af : Array Edge} {g : Option (Nat × Bool)} {x : Operand} {xs : Array Operand} {ats : Array TypeId} : DXOk Pg ⟨d, .call { callee := .value x, args := xs, argTypes := ats }, ty, pos, af, g⟩ (xCallD [(183, g183.1)]) := oG (tb1 h183 tb0)
/- slices.Grow[[]string,string] -/
noncomputable def g231 : {X : Xop // FnGood Pg 231 X} := ⟨_, fN' rfl Tryz.func231 (by decide) Tryz.ntmps231 Tryz.results231 rfl
 (cS (cR (sa pt4 (qV (.one (.nils)) rfl) <|
  se) rfl) (cS (cS (cR (sm pt5 (qT gt1) <|
  y2 pt6 (iLss (qT gt5) (qI (.ofNat 0))) <|
  se) rfl) (cC gt6 cX cK)) (cS (cS (cR (sm pt8 (qT gt1) <|
  sm pt9 (qT gt0) <|
  s1 pt10 (u0 k341 (bb (qT gt9) b0)) <|
  sm pt11 (qT gt0) <|
  y1 pt12 (u1 k1 eLenSlc rfl (qT gt11)) <|
  y2 pt13 (iSub (qT gt10) (qT gt12)) <|
  y2 pt14 (iSub (qT gt8) (qT gt13)) <|
  sa pt1 (qT gt14) <|
  se) rfl) (cS (cR (sm pt15 (qT gt1) <|
  y2 pt16 (iGtr (qT gt15) (qI (.ofNat 0))) <|
  se) rfl) (cC gt16 (cR (sm pt17 (qT gt0) <|
  sm pt18 (qT gt0) <|
  s1 pt19 (u0 k341 (bb (qT gt18) b0)) <|
  s1 pt20 (u0 k340 (bb (qT gt17) (bb (qT gt19) b0))) <|
  sm pt21 (qT gt1) <|
  s1 pt22 (u0 k342 (bb (qT gt20) (bb (qT gt21) b0))) <|
  sm pt23 (qT gt0) <|
  y1 pt24 (u1 k1 eLenSlc rfl (qT gt23)) <|
  s1 pt25 (u0 k340 (bb (qT gt22) (bb (qT gt24) b0))) <|
  sa pt0 (qT gt25) <|
  se) rfl) cK))) (cS (cR (sm pt26 (qT gt0) <|
  sa pt4 (qT gt26) <|
  se) rfl) cT))))
 (rT gt4 r0)⟩
theorem h231 : FnGood Pg 231 g231.1 := g231.2
theorem c231 {d : Option Nat} {ty : TypeId} {pos : String} {af : Array Edge} {g : Option (Nat × Bool)} {x : Operand} {xs : Array Operand} {ats : Array TypeId} : DXOk Pg ⟨d, .call { callee := .value x, args := xs, argTypes := ats }, ty, pos, af, g⟩ (xCallD [(231, g231.1)]) := oG (tb1 h231 tb0)
/- slices.Concat[[]string,string] -/
noncomputable def g188 : {X : Xop // FnGood Pg 188 X} := ⟨_, fN' rfl Tryz.func188 (by decide) Tryz.ntmps188 Tryz.results188 rfl
 (cS (cR (sa pt2 (qV (.one (.nils)) rfl) <|
  se) rfl) (cS (cR (sa pt3 (qI (.ofNat 0)) <|
  se) rfl) (cS (cS (cR (sm pt9 (qT gt0) <|
  y1 pt10 (u1 k343 eLenSlc rfl (qT gt9)) <|
  sm pt11 (qI (.ofNat 0)) <|
  se) rfl) (cB (cO (cS (cR (y2 pt12 (iLss (qT gt11) (qT gt10)) <|
  se) rfl) (cS (cC gt12 cK cE) (cS (cB (cS (cR (y2 pt13 (u2 k344 eIaddr rfl (qT gt9) (qT gt11)) <|
  y1 pt14 (u1 k12 eLoad rfl (qT gt13)) <|
  sa pt5 (qT gt14) <|
  se) rfl) (cS (cR (sm pt15 (qT gt3) <|
  sm pt16 (qT gt5) <|
  y1 pt17 (u1 k1 eLenSlc rfl (qT gt16)) <|
  y2 pt18 (iAdd (qT gt15) (qT gt17)) <|
  sa pt3 (qT gt18) <|
  se) rfl) (cS (cR (sm pt19 (qT gt3) <|
  y2 pt20 (iLss (qT gt19) (qI (.ofNat 0))) <|
  se) rfl) (cC gt20 cX cK))))) (cR (y2 pt22 (iAdd (qT gt11) (qI (.ofNat 1))) <|
  sm pt11 (qT gt22) <|
  se) rfl))))))) (cS (cR (sm pt23 (qT gt3) <|
  s1 pt24 (uC rfl h231 (bb (qV (.one (.nils)) rfl) (bb (qT gt23) b0))) <|
  sa pt6 (qT gt24) <|
  se) rfl) (cS (cS (cR (sm pt25 (qT gt0) <|
  y1 pt26 (u1 k343 eLenSlc rfl (qT gt25)) <|
  sm pt27 (qI (.ofNat 0)) <|
  se) rfl) (cB (cO (cS (cR (y2 pt28 (iLss (qT gt27) (qT gt26)) <|
  se) rfl) (cS (cC gt28 cK cE) (cS (cB (cS (cR (y2 pt29 (u2 k344 eIaddr rfl (qT gt25) (qT gt27)) <|
  y1 pt30 (u1 k12 eLoad rfl (qT gt29)) <|
  sa pt8 (qT gt30) <|
  se) rfl) (cR (sm pt31 (qT gt6) <|
  sm pt32 (qT gt8) <|
  s1 pt33 (u0 k15 (bb (qT gt31) (bb (qT gt32) b0))) <|
  sa pt6 (qT gt33) <|
  se) rfl))) (cR (y2 pt34 (iAdd (qT gt27) (qI (.ofNat 1))) <|
  sm pt27 (qT gt34) <|
  se) rfl))))))) (cS (cR (sm pt35 (qT gt6) <|
  sa pt2 (qT gt35) <|
  se) rfl) cT))))))
 (rT gt2 r0)⟩
theorem h188 : FnGood Pg 188 g188.1 := g188.2
theorem c188 {d : Option Nat} {ty : TypeId} {pos : String} {af : Array Edge} {g : Option (Nat × Bool)} {x : Operand} {xs : Array Operand} {ats : Array TypeId} : DXOk Pg ⟨d, .call { callee := .value x, args := xs, argTypes := ats }, ty, pos, af, g⟩ (xCallD [(188, g188.1)]) := oG (tb1 h188 tb0)
/- wellspring/group.Flat -/
noncomputable def g117 : {X : Xop // FnGood Pg 117 X} := ⟨_, fN' rfl Tryz.func117 (by decide) Tryz.ntmps117 Tryz.results117 rfl
 (cS (cR (s1 pt3 (u0 oX (bb (qT gt0) b0)) <|
  sa pt6 (qV (.one (.nils)) rfl) <|
  se) rfl) (cS (cS (cR (y1 pt11 (u1 k169 eLoadN rfl (qT gt3)) <|
  s1 pt12 (uC rfl h183 (bb (qT gt11) b0)) <|
  y1 pt13 (fNo (qT gt12)) <|
  sm pt14 (qT gt13) <|
  g1 gt14 pt15 (fMv (qT gt1)) rfl <|
  g1 gt14 pt16 (uC rfl h187 (bb (qT gt15) (bb (qI (.ofNat 2147483647)) b0))) rfl <|
  g1 gt14 pt17 (fNo (qT gt16)) rfl <|
  s1 pt18 (uP (qT gt14) qB (qT gt17)) <|
  sm pt19 (qT gt18) <|
  g1 gt19 pt20 (fMv (qT gt2)) rfl <|
  g1 gt19 pt21 (iLss (qT gt20) (qI (.ofNat 0))) rfl <|
  s1 pt22 (uP (qT gt19) qB (qT gt21)) <|
  se) rfl) (cC gt22 cX cK)) (cS (cR (sm pt23 (qT gt2) <|
  y1 pt24 (u1 k153 eFaddr rfl (qT gt3)) <|
  y1 pt25 (u1 k12 eLoad rfl (qT gt24)) <|
  y1 pt26 (u1 k1 eLenSlc rfl (qT gt25)) <|
  s1 pt27 (u0 oI (bb (qT gt23) (bb (qT gt26) b0))) <|
  sa pt7 (qT gt27) <|
  se) rfl) (cS (cR (sa pt8 (qV (.one (.nils)) rfl) <|
  se) rfl) (cS (cS (cD mo (d1 0 0 rfl pt28 k153 (aT gt3 a0) <|
  d1 1 1 rfl pt29 k12 (aT gt28 a0) <|
  d1 2 0 rfl pt30 oM (aT gt7 a0) <|
  d1 3 7 rfl pt31 k345 (aT gt29 (aT gt30 a0)) <|
  d1 4 0 rfl pt32 k153 (aT gt3 a0) <|
  d1 5 16 rfl pt33 k12 (aT gt32 a0) <|
  d1 6 0 rfl pt34 oM (aT gt7 a0) <|
  d1 7 112 rfl pt35 k340 (aT gt33 (aT gt34 a0)) <|
  d1 8 255 rfl pt36 k346 (aT gt31 (aT gt35 a0)) <|
  d1 11 0 rfl pt39 oM (aI (.ofNat 0) a0) <|
  d1 9 511 rfl pt37 c188 (aU rfl (aT gt36 a0)) <|
  d1 10 1023 rfl pt38 k1 (aT gt37 a0) <|
  de) rfl rfl rfl) (cB (cO (cS (cR (y2 pt40 (iLss (qT gt39) (qT gt38)) <|
  se) rfl) (cS (cC gt40 cK cE) (cS (cB (cS (cR (y2 pt41 (u2 k2 eIaddr rfl (qT gt37) (qT gt39)) <|
  y1 pt42 (u1 k3 eLoad rfl (qT gt41)) <|
  sa pt10 (qT gt42) <|
  se) rfl) (cR (sm pt43 (qT gt8) <|
  y1 pt44 (u1 k171 eFaddr rfl (qT gt3)) <|
  y1 pt45 (u1 k48 eFaddr rfl (qT gt44)) <|
  y1 pt46 (u1 k3 eLoad rfl (qT gt45)) <|
  y1 pt47 (u1 k171 eFaddr rfl (qT gt3)) <|
  y1 pt48 (u1 k49 eFaddr rfl (qT gt47)) <|
  y1 pt49 (u1 k5 eLoad rfl (qT gt48)) <|
  y1 pt50 (u1 k171 eFaddr rfl (qT gt3)) <|
  y1 pt51 (u1 k50 eFaddr rfl (qT gt50)) <|
  y1 pt52 (u1 k5 eLoad rfl (qT gt51)) <|
  sm pt53 (qT gt1) <|
  sm pt54 (qT gt10) <|
  s1 pt55 (u0 k347 (bb (qT gt46) (bb (qT gt49) (bb (qT gt52) (bb (qT gt53) (bb (qT gt54) b0)))))) <|
  s1 pt56 (u0 k137 (bb (qT gt55) b0)) <|
  s1 pt57 (u0 k66 (bb (qT gt43) (bb (qT gt56) b0))) <|
  sa pt8 (qT gt57) <|
  se) rfl))) (cR (y2 pt58 (iAdd (qT gt39) (qI (.ofNat 1))) <|
  sm pt39 (qT gt58) <|
  se) rfl))))))) (cS (cR (sm pt59 (qT gt8) <|
  sa pt6 (qT gt59) <|
  se) rfl) cT))))))
 (rT gt6 r0)⟩
theorem h117 : FnGood Pg 117 g117.1 := g117.2
theorem c117 {d : Option Nat} {ty : TypeId} {pos : String} {af : Array Edge} {g : Option (Nat × Bool)} {x : Operand} {xs : Array Operand} {ats : Array TypeId} : DXOk Pg ⟨d, .call { callee := .value x, args := xs, argTypes := ats }, ty, pos, af, g⟩ (xCallD [(117, g117.1)]) := oG (tb1 h117 tb0)
/- wellspring/reply.pieces -/
noncomputable def g63 : {X : Xop // FnGood Pg 63 X} := ⟨_, fN' rfl Tryz.func63 (by decide) Tryz.ntmps63 Tryz.results63 rfl
 (cS (cR (s1 pt2 (u0 oX (bb (qT gt0) b0)) <|
  sa pt4 (qV (.one (.nils)) rfl) <|
  se) rfl) (cS (cR (sa pt5 (qV (.one (.nils)) rfl) <|
  se) rfl) (cS (cS (cR (y1 pt8 (u1 k196 eFaddr rfl (qT gt2)) <|
  y1 pt9 (u1 k197 eLoad rfl (qT gt8)) <|
  y1 pt10 (u1 k348 eLenSlc rfl (qT gt9)) <|
  sm pt11 (qI (.ofNat 0)) <|
  se) rfl) (cB (cO (cS (cR (y2 pt12 (iLss (qT gt11) (qT gt10)) <|
  se) rfl) (cS (cC gt12 cK cE) (cS (cB (cS (cR (y2 pt13 (u2 k349 eIaddr rfl (qT gt9) (qT gt11)) <|
  y1 pt14 (u1 k174 eLoadN rfl (qT gt13)) <|
  s1 pt7 (u0 k162 b0) <|
  y0 (u2 k168 eStore rfl (qT gt7) (qT gt14)) <|
  se) rfl) (cR (sm pt15 (qT gt5) <|
  y1 pt16 (u1 k173 eFaddr rfl (qT gt7)) <|
  y1 pt17 (u1 k169 eLoadN rfl (qT gt16)) <|
  y1 pt18 (u1 k350 eFaddr rfl (qT gt7)) <|
  y1 pt19 (u1 k5 eLoad rfl (qT gt18)) <|
  sm pt20 (qT gt1) <|
  s1 pt21 (uC rfl h117 (bb (qT gt17) (bb (qT gt19) (bb (qT gt20) b0)))) <|
  s1 pt22 (u0 k351 (bb (qT gt21) (bb qB b0))) <|
  s1 pt23 (u0 k352 (bb (qT gt22) b0)) <|
  s1 pt24 (u0 k353 (bb (qT gt15) (bb (qT gt23) b0))) <|
  sa pt5 (qT gt24) <|
  se) rfl))) (cR (y2 pt25 (iAdd (qT gt11) (qI (.ofNat 1))) <|
  sm pt11 (qT gt25) <|
  se) rfl))))))) (cS (cS (cR (y1 pt26 (u1 k187 eFaddr rfl (qT gt2)) <|
  y1 pt27 (u1 k5 eLoad rfl (qT gt26)) <|
  y2 pt28 (iNeq (qT gt27) (qI (.ofNat 0))) <|
  se) rfl) (cC gt28 cX cK)) (cS (cR (sm pt40 (qT gt5) <|
  sa pt4 (qT gt40) <|
  se) rfl) cT)))))
 (rT gt4 r0)⟩
theorem h63 : FnGood Pg 63 g63.1 := g63.2
theorem c63 {d : Option Nat} {ty : TypeId} {pos : String} {af : Array Edge} {g : Option (Nat × Bool)} {x : Operand} {xs : Array Operand} {ats : Array TypeId} : DXOk Pg ⟨d, .call { callee := .value x, args := xs, argTypes := ats }, ty, pos, af, g⟩ (xCallD [(63, g63.1)]) := oG (tb1 h63 tb0)
/- (wellspring/reply.Ask).head -/
noncomputable def g65 : {X : Xop // FnGood Pg 65 X} := ⟨_, fN' rfl Tryz.func65 (by decide) Tryz.ntmps65 Tryz.results65 rfl
 (cS (cR (s1 pt2 (u0 oX (bb (qT gt0) b0)) <|
  s1 pt4 (u0 k130 b0) <|
  se) rfl) (cS (cD mo (d1 0 0 rfl pt8 k240 (aT gt2 a0) <|
  d1 1 1 rfl pt9 k5 (aT gt8 a0) <|
  d1 2 0 rfl pt10 k250 (aT gt2 a0) <|
  d1 3 4 rfl pt11 k5 (aT gt10 a0) <|
  d1 4 0 rfl pt12 oM (aT gt1 a0) <|
  d1 7 0 rfl pt5 k130 a0 <|
  d1 5 28 rfl pt13 c130 (aU rfl (aT gt11 (aT gt12 a0))) <|
  d1 6 63 rfl pt14 k131 (aT gt9 (aT gt13 a0)) <|
  d0 8 255 rfl k132 (aT gt5 (aT gt14 a0)) <|
  de) rfl rfl rfl) (cS (cS (cR (y1 pt15 (u1 k146 eFaddr rfl (qT gt2)) <|
  y1 pt16 (u1 k48 eFaddr rfl (qT gt15)) <|
  y1 pt17 (u1 k3 eLoad rfl (qT gt16)) <|
  s1 pt18 (u0 oS (bb (qT gt17) (bb (qV (.one (.str [])) rfl) b0))) <|
  se) rfl) (cC gt18 (cR (y1 pt19 (u1 k146 eFaddr rfl (qT gt2)) <|
  y1 pt20 (u1 k45 eLoadN rfl (qT gt19)) <|
  s1 pt21 (u0 k133 (bb (qT gt20) b0)) <|
  y1 pt22 (u1 k41 eFaddr rfl (qT gt5)) <|
  y0 (u2 k135 eStore rfl (qT gt22) (qT gt21)) <|
  se) rfl) cK)) (cS (cS (cR (y1 pt23 (u1 k147 eFaddr rfl (qT gt2)) <|
  y1 pt24 (u1 k242 eFaddr rfl (qT gt23)) <|
  y1 pt25 (u1 k108 eLoad rfl (qT gt24)) <|
  se) rfl) (cC gt25 cX cK)) (cS (cR (y1 pt39 (u1 k65 eLoadN rfl (qT gt5)) <|
  y0 (u2 k132 eStore rfl (qT gt4) (qT gt39)) <|
  se) rfl) cT)))))
 (rR gt4 underlying37 rfl i37 rfl r0)⟩
theorem h65 : FnGood Pg 65 g65.1 := g65.2
theorem c65 {d : Option Nat} {ty : TypeId} {pos : String} {af : Array Edge} {g : Option (Nat × Bool)} {x : Operand} {xs : Array Operand} {ats : Array TypeId} : DXOk Pg ⟨d, .call { callee := .value x, args := xs, argTypes := ats }, ty, pos, af, g⟩ (xCallD [(65, g65.1)]) := oG (tb1 h65 tb0)
/- wellspring/reply.code -/
noncomputable def g66 : {X : Xop // FnGood Pg 66 X} := ⟨_, fN' rfl Tryz.func66 (by decide) Tryz.ntmps66 Tryz.results66 rfl
 (cS (cR (s1 pt1 (u0 oX (bb (qT gt0) b0)) <|
  sa pt2 (qI (.ofNat 0)) <|
  se) rfl) (cS (cS (cR (y1 pt3 (u1 k187 eFaddr rfl (qT gt1)) <|
  y1 pt4 (u1 k5 eLoad rfl (qT gt3)) <|
  y2 pt5 (iEql (qT gt4) (qI (.ofNat 2))) <|
  se) rfl) (cC gt5 cX cK)) (cS (cR (sa pt2 (qI (.ofNat 0)) <|
  se) rfl) cT)))
 (rT gt2 r0)⟩
theorem h66 : FnGood Pg 66 g66.1 := g66.2
theorem c66 {d : Option Nat} {ty : TypeId} {pos : String} {af : Array Edge} {g : Option (Nat × Bool)} {x : Operand} {xs : Array Operand} {ats : Array TypeId} : DXOk Pg ⟨d, .call { callee := .value x, args := xs, argTypes := ats }, ty, pos, af, g⟩ (xCallD [(66, g66.1)]) := oG (tb1 h66 tb0)
/- wellspring/reply.Build$1 -/
noncomputable def g64 : {X : Xop // FnGood Pg 64 X} := ⟨_, fN' rfl Tryz.func64 (by decide) Tryz.ntmps64 Tryz.results64 rfl
 (cS (cR (sa pt5 (qV (.one (.str [])) rfl) <|
  sa pt6 (qI (.ofNat 0)) <|
  se) rfl) (cS (cD mo (d1 0 0 rfl pt10 k149 (aT gt1 a0) <|
  d1 1 0 rfl pt11 k188 (aT gt2 a0) <|
  d1 4 0 rfl pt7 k130 a0 <|
  d1 2 2 rfl pt12 c66 (aU rfl (aT gt11 a0)) <|
  d1 3 7 rfl pt13 c65 (aU rfl (aT gt10 (aT gt12 a0))) <|
  d0 5 31 rfl k132 (aT gt7 (aT gt13 a0)) <|
  de) rfl rfl rfl) (cS (cS (cR (y1 pt14 (u1 k354 eLoad rfl (qT gt3)) <|
  sm pt15 (qT gt0) <|
  s1 pt16 (u0 k355 (bb (qT gt14) (bb (qT gt15) b0))) <|
  y1 pt17 (u1 k356 eLenSlc rfl (qT gt16)) <|
  sm pt18 (qI (.ofNat 0)) <|
  se) rfl) (cB (cO (cS (cR (y2 pt19 (iLss (qT gt18) (qT gt17)) <|
  se) rfl) (cS (cC gt19 cK cE) (cS (cB (cS (cR (y2 pt20 (u2 k357 eIaddr rfl (qT gt16) (qT gt18)) <|
  y1 pt21 (u1 k358 eLoadN rfl (qT gt20)) <|
  s1 pt9 (u0 k359 b0) <|
  y0 (u2 k360 eStore rfl (qT gt9) (qT gt21)) <|
  se) rfl) (cS (cR (y1 pt22 (u1 k361 eFaddr rfl (qT gt9)) <|
  y1 pt23 (u1 k108 eLoad rfl (qT gt22)) <|
  se) rfl) (cC gt23 cX (cR (y1 pt27 (u1 k53 eFaddr rfl (qT gt7)) <|
  y1 pt28 (u1 k54 eLoad rfl (qT gt27)) <|
  y1 pt29 (u1 k362 eFaddr rfl (qT gt9)) <|
  y1 pt30 (u1 k54 eLoad rfl (qT gt29)) <|
  s1 pt31 (u0 k66 (bb (qT gt28) (bb (qT gt30) b0))) <|
  y1 pt32 (u1 k53 eFaddr rfl (qT gt7)) <|
  y0 (u2 k138 eStore rfl (qT gt32) (qT gt31)) <|
  se) rfl))))) (cR (y2 pt33 (iAdd (qT gt18) (qI (.ofNat 1))) <|
  sm pt18 (qT gt33) <|
  se) rfl))))))) (cS (cS (cR (sm pt34 (qT gt0) <|
  y1 pt35 (u1 k354 eLoad rfl (qT gt3)) <|
  y1 pt36 (u1 k356 eLenSlc rfl (qT gt35)) <|
  y2 pt37 (iLss (qT gt34) (qT gt36)) <|
  se) rfl) (cC gt37 cX cK)) (cS (cR (y1 pt45 (u1 k65 eLoadN rfl (qT gt7)) <|
  s1 pt46 (uC rfl h68 (bb (qT gt45) b0)) <|
  y1 pt47 (fEx (qT gt46)) <|
  y1 pt48 (fEx (qT gt46)) <|
  sa pt5 (qT gt47) <|
  sa pt6 (qT gt48) <|
  se) rfl) cT)))))
 (rT gt5 (rT gt6 r0))⟩
theorem h64 : FnGood Pg 64 g64.1 := g64.2
theorem c64 {d : Option Nat} {ty : TypeId} {pos : String} {af : Array Edge} {g : Option (Nat × Bool)} {x : Operand} {xs : Array Operand} {ats : Array TypeId} : DXOk Pg ⟨d, .call { callee := .value x, args := xs, argTypes := ats }, ty, pos, af, g⟩ (xCallD [(64, g64.1)]) := oG (tb1 h64 tb0)
/- wellspring/reply.Build -/
noncomputable def g21 : {X : Xop // FnGood Pg 21 X} := ⟨_, fN' rfl Tryz.func21 (by decide) Tryz.ntmps21 Tryz.results21 rfl
 (cS (cR (s1 pt3 (u0 oX (bb (qT gt0) b0)) <|
  s1 pt4 (u0 oX (bb (qT gt1) b0)) <|
  sa pt6 (qV (.one (.str [])) rfl) <|
  se) rfl) (cS (cS (cR (y1 pt12 (u1 k187 eFaddr rfl (qT gt4)) <|
  y1 pt13 (u1 k5 eLoad rfl (qT gt12)) <|
  y2 pt14 (iLss (qT gt13) (qI (.ofNat 0))) <|
  sm pt15 (qT gt14) <|
  g1 gt15 pt16 (u1 k187 eFaddr rfl (qT gt4)) rfl <|
  g1 gt15 pt17 (u1 k5 eLoad rfl (qT gt16)) rfl <|
  g1 gt15 pt18 (iGtr (qT gt17) (qI (.ofNat 2))) rfl <|
  s1 pt19 (uP (qT gt15) qB (qT gt18)) <|
  se) rfl) (cC gt19 cX cK)) (cS (cR (y1 pt22 (u1 k188 eLoadN rfl (qT gt4)) <|
  sm pt23 (qT gt2) <|
  s1 pt24 (uC rfl h63 (bb (qT gt22) (bb (qT gt23) b0))) <|
  s1 pt7 (u0 k363 b0) <|
  y0 (u2 k364 eStore rfl (qT gt7) (qT gt24)) <|
  se) rfl) (cS (cR (s1 pt25 (u0 (oF0 rfl) (bb (qT gt3) (bb (qT gt4) (bb (qT gt7) b0)))) <|
  sa pt8 (qT gt25) <|
  se) rfl) (cS (cS (cR (y1 pt26 (u1 k354 eLoad rfl (qT gt7)) <|
  y1 pt27 (u1 k356 eLenSlc rfl (qT gt26)) <|
  sa pt9 (qT gt27) <|
  se) rfl) (cB (cO (cS (cS (cR (sm pt28 (qT gt9) <|
  y2 pt29 (iGeq (qT gt28) (qI (.ofNat 0))) <|
  se) rfl) (cC gt29 cK cE)) (cS (cB (cS (cR (sm pt33 (qT gt8) <|
  sm pt34 (qT gt9) <|
  s1 pt35 (u0 c64 (bb (qT gt33) (bb (qT gt34) b0))) <|
  sm pt32 (qT gt35) <|
  y1 pt36 (fEx (qT gt32)) <|
  y1 pt37 (fEx (qT gt32)) <|
  sa pt10 (qT gt36) <|
  sa pt11 (qT gt37) <|
  se) rfl) (cB (cS (cR (sm pt39 (qT gt11) <|
  y2 pt40 (iEql (qT gt39) (qI (.ofNat 1))) <|
  sa pt38 (qT gt40) <|
  se) rfl) (cC gt38 cX (cS (cR (sm pt42 (qT gt11) <|
  y2 pt43 (iEql (qT gt42) (qI (.ofNat 0))) <|
  sm pt44 (qT gt43) <|
  g1 gt44 pt45 (fMv (qT gt10)) rfl <|
  g1 gt44 pt46 (u1 k0 eLenStr rfl (qT gt45)) rfl <|
  g1 gt44 pt47 (u1 k147 eFaddr rfl (qT gt3)) rfl <|
  g1 gt44 pt48 (u1 k142 eLoadN rfl (qT gt47)) rfl <|
  g1 gt44 pt49 (uC rfl h22 (bb (qT gt48) b0)) rfl <|
  g1 gt44 pt50 (iLeq (qT gt46) (qT gt49)) rfl <|
  s1 pt51 (uP (qT gt44) (qT gt50) qB) <|
  sa pt41 (qT gt51) <|
  se) rfl) (cC gt41 (cS (cR (sm pt52 (qT gt10) <|
  sa pt6 (qT gt52) <|
  se) rfl) cT) cK))))))) cX))))) cX)))))
 (rT gt6 r0)⟩
theorem h21 : FnGood Pg 21 g21.1 := g21.2
theorem c21 {d : Option Nat} {ty : TypeId} {pos : String} {af : Array Edge} {g : Option (Nat × Bool)} {x : Operand} {xs : Array Operand} {ats : Array TypeId} : DXOk Pg ⟨d, .call { callee := .value x, args := xs, argTypes := ats }, ty, pos, af, g⟩ (xCallD [(21, g21.1)]) := oG (tb1 h21 tb0)
/- (wellspring/chain.Chain).Keys -/
noncomputable def g159 : {X : Xop // FnGood Pg 159 X} := ⟨_, fN' rfl Tryz.func159 (by decide) Tryz.ntmps159 Tryz.results159 rfl
 (cS (cR (s1 pt1 (u0 oX (bb (qT gt0) b0)) <|
  sa pt2 (qV (.one (.nils)) rfl) <|
  se) rfl) (cS (cR (sa pt3 (qV (.one (.nils)) rfl) <|
  se) rfl) (cS (cS (cR (y1 pt6 (u1 k196 eFaddr rfl (qT gt1)) <|
  y1 pt7 (u1 k197 eLoad rfl (qT gt6)) <|
  y1 pt8 (u1 k348 eLenSlc rfl (qT gt7)) <|
  sm pt9 (qI (.ofNat 0)) <|
  se) rfl) (cB (cO (cS (cR (y2 pt10 (iLss (qT gt9) (qT gt8)) <|
  se) rfl) (cS (cC gt10 cK cE) (cS (cB (cS (cR (y2 pt11 (u2 k349 eIaddr rfl (qT gt7) (qT gt9)) <|
  y1 pt12 (u1 k174 eLoadN rfl (qT gt11)) <|
  s1 pt5 (u0 k162 b0) <|
  y0 (u2 k168 eStore rfl (qT gt5) (qT gt12)) <|
  se) rfl) (cR (sm pt13 (qT gt3) <|
  y1 pt14 (u1 k173 eFaddr rfl (qT gt5)) <|
  y1 pt15 (u1 k171 eFaddr rfl (qT gt14)) <|
  y1 pt16 (u1 k45 eLoadN rfl (qT gt15)) <|
  s1 pt17 (u0 k133 (bb (qT gt16) b0)) <|
  s1 pt18 (u0 k134 (bb (qT gt13) (bb (qT gt17) b0))) <|
  sa pt3 (qT gt18) <|
  se) rfl))) (cR (y2 pt19 (iAdd (qT gt9) (qI (.ofNat 1))) <|
  sm pt9 (qT gt19) <|
  se) rfl))))))) (cS (cR (sm pt20 (qT gt3) <|
  sa pt2 (qT gt20) <|
  se) rfl) cT))))
 (rT gt2 r0)⟩
theorem h159 : FnGood Pg 159 g159.1 := g159.2
theorem c159 {d : Option Nat} {ty : TypeId} {pos : String} {af : Array Edge} {g : Option (Nat × Bool)} {x : Operand} {xs : Array Operand} {ats : Array TypeId} : DXOk Pg ⟨d, .call { callee := .value x, args := xs, argTypes := ats }, ty, pos, af, g⟩ (xCallD [(159, g159.1)]) := oG (tb1 h159 tb0)
/- (*wellspring/node.Node).answer -/
noncomputable def g89 : {X : Xop // FnGood Pg 89 X} := ⟨_, fN' rfl Tryz.func89 (by decide) Tryz.ntmps89 Tryz.results89 rfl
 (cS (cR (s1 pt6 (u0 oX (bb (qT gt2) b0)) <|
  s1 pt7 (u0 oX (bb (qT gt3) b0)) <|
  se) rfl) (cS (cD mo (d1 0 0 rfl pt8 oM (aT gt0 a0) <|
  d1 1 0 rfl pt9 k278 (aT gt6 a0) <|
  d1 2 0 rfl pt10 k276 (aT gt6 a0) <|
  d1 3 4 rfl pt11 k149 (aT gt10 a0) <|
  d1 4 0 rfl pt12 k188 (aT gt7 a0) <|
  d1 5 0 rfl pt13 oM (aT gt0 a0) <|
  d1 6 32 rfl pt14 oC (aT gt13 a0) <|
  d1 7 96 rfl pt15 k277 (aT gt14 a0) <|
  d1 8 224 rfl pt16 k5 (aT gt15 a0) <|
  d1 9 508 rfl pt17 c21 (aU rfl (aT gt11 (aT gt12 (aT gt16 a0)))) <|
  d1 10 1023 rfl pt18 c85 (aU rfl (aT gt8 (aT gt9 (aT gt17 a0)))) <|
  de) rfl rfl rfl) (cS (cR (sm pt19 (qT gt0) <|
  y1 pt20 (fNc (qT gt19)) <|
  y1 pt21 (u1 k277 eFaddr rfl (qT gt20)) <|
  y1 pt22 (u1 k5 eLoad rfl (qT gt21)) <|
  y2 pt23 (iAdd (qT gt22) (qI (.ofNat 1))) <|
  y1 pt24 (fNc (qT gt19)) <|
  y1 pt25 (u1 k277 eFaddr rfl (qT gt24)) <|
  y0 (u2 k69 eStore rfl (qT gt25) (qT gt23)) <|
  se) rfl) (cR (sm pt26 (qT gt0) <|
  sm pt27 (qT gt1) <|
  y1 pt28 (u1 k188 eLoadN rfl (qT gt7)) <|
  s1 pt29 (uC rfl h159 (bb (qT gt28) b0)) <|
  s1 pt30 (uC rfl h155 (bb (qT gt26) (bb (qT gt27) (bb (qT gt29) b0)))) <|
  se) rfl))))
 r0⟩
theorem h89 : FnGood Pg 89 g89.1 := g89.2
theorem c89 {d : Option Nat} {ty : TypeId} {pos : String} {af : Array Edge} {g : Option (Nat × Bool)} {x : Operand} {xs : Array Operand} {ats : Array TypeId} : DXOk Pg ⟨d, .call { callee := .value x, args := xs, argTypes := ats }, ty, pos, af, g⟩ (xCallD [(89, g89.1)]) := oG (tb1 h89 tb0)
/- (*wellspring/node.Node).end$1 -/
noncomputable def g177 : {X : Xop // FnGood Pg 177 X} := ⟨_, fN' rfl Tryz.func177 (by decide) Tryz.ntmps177 Tryz.results177 rfl
 (cS (cR (s1 pt2 (u0 oX (bb (qT gt0) b0)) <|
  sa pt3 qB <|
  se) rfl) (cS (cR (y1 pt4 (u1 k281 eFaddr rfl (qT gt2)) <|
  y1 pt5 (u1 k5 eLoad rfl (qT gt4)) <|
  y1 pt6 (u1 k281 eFaddr rfl (qT gt1)) <|
  y1 pt7 (u1 k5 eLoad rfl (qT gt6)) <|
  y2 pt8 (iEql (qT gt5) (qT gt7)) <|
  sa pt3 (qT gt8) <|
  se) rfl) cT))
 (rT gt3 r0)⟩
theorem h177 : FnGood Pg 177 g177.1 := g177.2
theorem c177 {d : Option Nat} {ty : TypeId} {pos : String} {af : Array Edge} {g : Option (Nat × Bool)} {x : Operand} {xs : Array Operand} {ats : Array TypeId} : DXOk Pg ⟨d, .call { callee := .value x, args := xs, argTypes := ats }, ty, pos, af, g⟩ (xCallD [(177, g177.1)]) := oG (tb1 h177 tb0)
/- wellspring/node.take[wellspring/node.task] -/
noncomputable def g176 : {X : Xop // FnGood Pg 176 X} := ⟨_, fN' rfl Tryz.func176 (by decide) Tryz.ntmps176 Tryz.results176 rfl
 (cS (cR (sa pt4 (qV (.one (.nils)) rfl) <|
  se) rfl) (cS (cR (sa pt5 (qV (.one (.nils)) rfl) <|
  sa pt6 (qV (.one (.nils)) rfl) <|
  se) rfl) (cS (cS (cR (sm pt9 (qT gt0) <|
  y1 pt10 (fNc (qT gt9)) <|
  y1 pt11 (u1 k286 eLoad rfl (qT gt10)) <|
  y1 pt12 (u1 k282 eLenSlc rfl (qT gt11)) <|
  sm pt13 (qI (.ofNat 0)) <|
  se) rfl) (cB (cO (cS (cR (y2 pt14 (iLss (qT gt13) (qT gt12)) <|
  se) rfl) (cS (cC gt14 cK cE) (cS (cB (cS (cR (y2 pt15 (u2 k283 eIaddr rfl (qT gt11) (qT gt13)) <|
  y1 pt16 (u1 k284 eLoadN rfl (qT gt15)) <|
  s1 pt8 (u0 k365 b0) <|
  y0 (u2 k366 eStore rfl (qT gt8) (qT gt16)) <|
  se) rfl) (cS (cR (sm pt17 (qT gt1) <|
  y1 pt18 (u1 k284 eLoadN rfl (qT gt8)) <|
  s1 pt19 (u0 c177 (bb (qT gt17) (bb (qT gt18) b0))) <|
  se) rfl) (cC gt19 (cR (sm pt20 (qT gt5) <|
  y1 pt21 (u1 k284 eLoadN rfl (qT gt8)) <|
  s1 pt22 (u0 k367 (bb (qT gt21) b0)) <|
  s1 pt23 (u0 k368 (bb (qT gt20) (bb (qT gt22) b0))) <|
  sa pt5 (qT gt23) <|
  se) rfl) cX)))) (cR (y2 pt28 (iAdd (qT gt13) (qI (.ofNat 1))) <|
  sm pt13 (qT gt28) <|
  se) rfl))))))) (cS (cR (sm pt29 (qT gt0) <|
  sm pt30 (qT gt6) <|
  y1 pt31 (fNc (qT gt29)) <|
  y0 (u2 k369 eStore rfl (qT gt31) (qT gt30)) <|
  se) rfl) (cS (cR (sm pt32 (qT gt5) <|
  sa pt4 (qT gt32) <|
  se) rfl) cT)))))
 (rT gt4 r0)⟩
theorem h176 : FnGood Pg 176 g176.1 := g176.2
theorem c176 {d : Option Nat} {ty : TypeId} {pos : String} {af : Array Edge} {g : Option (Nat × Bool)} {x : Operand} {xs : Array Operand} {ats : Array TypeId} : DXOk Pg ⟨d, .call { callee := .value x, args := xs, argTypes := ats }, ty, pos, af, g⟩ (xCallD [(176, g176.1)]) := oG (tb1 h176 tb0)
/- (*wellspring/node.Node).end$2 -/
noncomputable def g179 : {X : Xop // FnGood Pg 179 X} := ⟨_, fN' rfl Tryz.func179 (by decide) Tryz.ntmps179 Tryz.results179 rfl
 (cS (cR (s1 pt2 (u0 oX (bb (qT gt0) b0)) <|
  sa pt3 qB <|
  se) rfl) (cS (cR (y1 pt4 (u1 k271 eFaddr rfl (qT gt2)) <|
  y1 pt5 (u1 k45 eLoadN rfl (qT gt4)) <|
  y1 pt6 (u1 k370 eFaddr rfl (qT gt1)) <|
  y1 pt7 (u1 k45 eLoadN rfl (qT gt6)) <|
  s1 pt8 (u0 k266 (bb (qT gt5) (bb (qT gt7) b0))) <|
  sa pt3 (qT gt8) <|
  se) rfl) cT))
 (rT gt3 r0)⟩
theorem h179 : FnGood Pg 179 g179.1 := g179.2
theorem c179 {d : Option Nat} {ty : TypeId} {pos : String} {af : Array Edge} {g : Option (Nat × Bool)} {x : Operand} {xs : Array Operand} {ats : Array TypeId} : DXOk Pg ⟨d, .call { callee := .value x, args := xs, argTypes := ats }, ty, pos, af, g⟩ (xCallD [(179, g179.1)]) := oG (tb1 h179 tb0)
/- wellspring/node.take[wellspring/node.client] -/
noncomputable def g178 : {X : Xop // FnGood Pg 178 X} := ⟨_, fN' rfl Tryz.func178 (by decide) Tryz.ntmps178 Tryz.results178 rfl
 (cS (cR (sa pt4 (qV (.one (.nils)) rfl) <|
  se) rfl) (cS (cR (sa pt5 (qV (.one (.nils)) rfl) <|
  sa pt6 (qV (.one (.nils)) rfl) <|
  se) rfl) (cS (cS (cR (sm pt9 (qT gt0) <|
  y1 pt10 (fNc (qT gt9)) <|
  y1 pt11 (u1 k371 eLoad rfl (qT gt10)) <|
  y1 pt12 (u1 k372 eLenSlc rfl (qT gt11)) <|
  sm pt13 (qI (.ofNat 0)) <|
  se) rfl) (cB (cO (cS (cR (y2 pt14 (iLss (qT gt13) (qT gt12)) <|
  se) rfl) (cS (cC gt14 cK cE) (cS (cB (cS (cR (y2 pt15 (u2 k373 eIaddr rfl (qT gt11) (qT gt13)) <|
  y1 pt16 (u1 k278 eLoadN rfl (qT gt15)) <|
  s1 pt8 (u0 k374 b0) <|
  y0 (u2 k375 eStore rfl (qT gt8) (qT gt16)) <|
  se) rfl) (cS (cR (sm pt17 (qT gt1) <|
  y1 pt18 (u1 k278 eLoadN rfl (qT gt8)) <|
  s1 pt19 (u0 c179 (bb (qT gt17) (bb (qT gt18) b0))) <|
  se) rfl) (cC gt19 (cR (sm pt20 (qT gt5) <|
  y1 pt21 (u1 k278 eLoadN rfl (qT gt8)) <|
  s1 pt22 (u0 k376 (bb (qT gt21) b0)) <|
  s1 pt23 (u0 k377 (bb (qT gt20) (bb (qT gt22) b0))) <|
  sa pt5 (qT gt23) <|
  se) rfl) cX)))) (cR (y2 pt28 (iAdd (qT gt13) (qI (.ofNat 1))) <|
  sm pt13 (qT gt28) <|
  se) rfl))))))) (cS (cR (sm pt29 (qT gt0) <|
  sm pt30 (qT gt6) <|
  y1 pt31 (fNc (qT gt29)) <|
  y0 (u2 k378 eStore rfl (qT gt31) (qT gt30)) <|
  se) rfl) (cS (cR (sm pt32 (qT gt5) <|
  sa pt4 (qT gt32) <|
  se) rfl) cT)))))
 (rT gt4 r0)⟩
theorem h178 : FnGood Pg 178 g178.1 := g178.2
theorem c178 {d : Option Nat} {ty : TypeId} {pos : String} {af : Array Edge} {g : Option (Nat × Bool)} {x : Operand} {xs : Array Operand} {ats : Array TypeId} : DXOk Pg ⟨d, .call { callee := .value x, args := xs, argTypes := ats }, ty, pos, af, g⟩ (xCallD [(178, g178.1)]) := oG (tb1 h178 tb0)
/- (*wellspring/node.Node).end -/
noncomputable def g101 : {X : Xop // FnGood Pg 101 X} := ⟨_, fN' rfl Tryz.func101 (by decide) Tryz.ntmps101 Tryz.results101 rfl
 (cS (cR (s1 pt6 (u0 oX (bb (qT gt2) b0)) <|
  s1 pt7 (u0 oX (bb (qT gt3) b0)) <|
  se) rfl) (cS (cR (sm pt10 (qT gt0) <|
  y1 pt11 (fNc (qT gt10)) <|
  y1 pt12 (u1 k285 eFaddr rfl (qT gt11)) <|
  s1 pt13 (u0 (oF0 rfl) (bb (qT gt6) b0)) <|
  s1 pt14 (uC rfl h176 (bb (qT gt12) (bb (qT gt13) b0))) <|
  se) rfl) (cS (cR (sm pt15 (qT gt0) <|
  y1 pt16 (fNc (qT gt15)) <|
  y1 pt17 (u1 k379 eFaddr rfl (qT gt16)) <|
  s1 pt18 (u0 (oF0 rfl) (bb (qT gt6) b0)) <|
  s1 pt19 (uC rfl h178 (bb (qT gt17) (bb (qT gt18) b0))) <|
  y1 pt20 (u1 k372 eLenSlc rfl (qT gt19)) <|
  sm pt21 (qI (.ofNat 0)) <|
  se) rfl) (cB (cO (cS (cR (y2 pt22 (iLss (qT gt21) (qT gt20)) <|
  se) rfl) (cS (cC gt22 cK cE) (cS (cB (cS (cR (y2 pt23 (u2 k373 eIaddr rfl (qT gt19) (qT gt21)) <|
  y1 pt24 (u1 k278 eLoadN rfl (qT gt23)) <|
  s1 pt9 (u0 k374 b0) <|
  y0 (u2 k375 eStore rfl (qT gt9) (qT gt24)) <|
  se) rfl) (cS (cR (y1 pt25 (u1 k380 eFaddr rfl (qT gt7)) <|
  y1 pt26 (u1 k5 eLoad rfl (qT gt25)) <|
  y2 pt27 (iEql (qT gt26) (qI (.ofNat 1))) <|
  se) rfl) (cC gt27 (cR (sm pt28 (qT gt0) <|
  sm pt29 (qT gt1) <|
  y1 pt30 (u1 k278 eLoadN rfl (qT gt9)) <|
  y1 pt31 (u1 k381 eFaddr rfl (qT gt7)) <|
  y1 pt32 (u1 k188 eLoadN rfl (qT gt31)) <|
  s1 pt33 (uC rfl h89 (bb (qT gt28) (bb (qT gt29) (bb (qT gt30) (bb (qT gt32) b0))))) <|
  se) rfl) cX)))) (cR (y2 pt37 (iAdd (qT gt21) (qI (.ofNat 1))) <|
  sm pt21 (qT gt37) <|
  se) rfl)))))))))
 r0⟩
theorem h101 : FnGood Pg 101 g101.1 := g101.2
theorem c101 {d : Option Nat} {ty : TypeId} {pos : String} {af : Array Edge} {g : Option (Nat × Bool)} {x : Operand} {xs : Array Operand} {ats : Array TypeId} : DXOk Pg ⟨d, .call { callee := .value x, args := xs, argTypes := ats }, ty, pos, af, g⟩ (xCallD [(101, g101.1)]) := oG (tb1 h101 tb0)
/- (*wellspring/node.Node).on -/
noncomputable def g44 : {X : Xop // FnGood Pg 44 X} := ⟨_, fN' rfl Tryz.func44 (by decide) Tryz.ntmps44 Tryz.results44 rfl
 (cS (cR (sm pt10 (qT gt0) <|
  sm pt11 (qT gt2) <|
  s1 pt12 (uC rfl h42 (bb (qT gt10) (bb (qT gt11) b0))) <|
  sa pt6 (qT gt12) <|
  se) rfl) (cS (cS (cR (sm pt13 (qT gt6) <|
  y2 pt14 (iLss (qT gt13) (qI (.ofNat 0))) <|
  se) rfl) (cC gt14 cT cK)) (cS (cD mo (d1 0 0 rfl pt15 oM (aT gt0 a0) <|
  d1 1 1 rfl pt16 oC (aT gt15 a0) <|
  d1 2 3 rfl pt17 k203 (aT gt16 a0) <|
  d1 3 7 rfl pt18 k164 (aT gt17 a0) <|
  d1 4 0 rfl pt19 oM (aT gt0 a0) <|
  d1 5 16 rfl pt20 oC (aT gt19 a0) <|
  d1 6 48 rfl pt21 k204 (aT gt20 a0) <|
  d1 7 112 rfl pt22 k186 (aT gt21 a0) <|
  d1 8 0 rfl pt23 oM (aT gt1 a0) <|
  d1 9 0 rfl pt24 oM (aT gt0 a0) <|
  d1 10 512 rfl pt25 oC (aT gt24 a0) <|
  d1 11 1536 rfl pt26 k327 (aT gt25 a0) <|
  d1 12 3584 rfl pt27 k11 (aT gt26 a0) <|
  d1 13 7680 rfl pt28 k12 (aT gt27 a0) <|
  d1 14 0 rfl pt29 oM (aT gt0 a0) <|
  d1 15 16384 rfl pt30 oC (aT gt29 a0) <|
  d1 16 49152 rfl pt31 k327 (aT gt30 a0) <|
  d1 17 114688 rfl pt32 k8 (aT gt31 a0) <|
  d1 18 245760 rfl pt33 k5 (aT gt32 a0) <|
  d1 19 524287 rfl pt34 k382 (aT gt18 (aT gt22 (aT gt23 (aT gt28 (aT gt33 a0))))) <|
  d1 20 0 rfl pt7 k383 a0 <|
  d0 21 2097151 rfl k384 (aT gt7 (aT gt34 a0)) <|
  de) rfl rfl rfl) (cS (cD mo (d1 0 0 rfl pt36 k292 (aT gt7 a0) <|
  d1 1 0 rfl pt37 oM (aT gt0 a0) <|
  d1 2 2 rfl pt38 oC (aT gt37 a0) <|
  d1 3 6 rfl pt39 k285 (aT gt38 a0) <|
  d1 4 14 rfl pt40 k286 (aT gt39 a0) <|
  d1 5 0 rfl pt41 oM (aT gt6 a0) <|
  d1 6 62 rfl pt42 k283 (aT gt40 (aT gt41 a0)) <|
  d1 7 126 rfl pt43 k385 (aT gt42 a0) <|
  d1 8 254 rfl pt44 k311 (aT gt43 a0) <|
  d1 13 0 rfl pt8 k309 a0 <|
  d1 14 0 rfl pt9 k294 a0 <|
  d1 9 511 rfl pt45 c99 (aU rfl (aT gt36 (aT gt44 a0))) <|
  d1 10 1023 rfl pt35 oM (aT gt45 a0) <|
  d1 11 2047 rfl pt46 oE (aT gt35 a0) <|
  d1 12 2047 rfl pt47 oE (aT gt35 a0) <|
  d0 15 28671 rfl k312 (aT gt8 (aT gt46 a0)) <|
  d0 16 65535 rfl k305 (aT gt9 (aT gt47 a0)) <|
  de) rfl rfl rfl) (cS (cD mo (d1 0 0 rfl pt48 oM (aT gt0 a0) <|
  d1 1 1 rfl pt49 oC (aT gt48 a0) <|
  d1 2 3 rfl pt50 k285 (aT gt49 a0) <|
  d1 3 7 rfl pt51 k286 (aT gt50 a0) <|
  d1 4 0 rfl pt52 oM (aT gt6 a0) <|
  d1 5 0 rfl pt53 k311 (aT gt8 a0) <|
  d1 6 63 rfl pt54 k283 (aT gt51 (aT gt52 a0)) <|
  d1 7 127 rfl pt55 k385 (aT gt54 a0) <|
  d0 8 255 rfl k312 (aT gt55 (aT gt53 a0)) <|
  de) rfl rfl rfl) (cS (cR (y1 pt56 (u1 k380 eFaddr rfl (qT gt9)) <|
  y1 pt57 (u1 k5 eLoad rfl (qT gt56)) <|
  se) rfl) (cB (cS (cR (y2 pt70 (iEql (qT gt57) (qI (.ofNat 0))) <|
  sa pt69 (qT gt70) <|
  se) rfl) (cC gt69 (cR (sm pt71 (qT gt0) <|
  sm pt72 (qT gt1) <|
  sm pt73 (qT gt2) <|
  y1 pt74 (u1 k306 eLoadN rfl (qT gt9)) <|
  s1 pt75 (uC rfl h100 (bb (qT gt71) (bb (qT gt72) (bb (qT gt73) (bb (qT gt74) b0))))) <|
  se) rfl) (cD mo (d1 0 0 rfl pt58 oM (aT gt0 a0) <|
  d1 1 0 rfl pt59 oM (aT gt1 a0) <|
  d1 2 0 rfl pt60 oM (aT gt0 a0) <|
  d1 3 4 rfl pt61 oC (aT gt60 a0) <|
  d1 4 12 rfl pt62 k285 (aT gt61 a0) <|
  d1 5 28 rfl pt63 k286 (aT gt62 a0) <|
  d1 6 0 rfl pt64 oM (aT gt6 a0) <|
  d1 7 124 rfl pt65 k283 (aT gt63 (aT gt64 a0)) <|
  d1 8 252 rfl pt66 k284 (aT gt65 a0) <|
  d1 9 0 rfl pt67 k306 (aT gt9 a0) <|
  d1 10 1023 rfl pt68 c101 (aU rfl (aT gt58 (aT gt59 (aT gt66 (aT gt67 a0))))) <|
  de) rfl rfl rfl))))))))))
 r0⟩
theorem h44 : FnGood Pg 44 g44.1 := g44.2
theorem c44 {d : Option Nat} {ty : TypeId} {pos : String} {af : Array Edge} {g : Option (Nat × Bool)} {x : Operand} {xs : Array Operand} {ats : Array TypeId} : DXOk Pg ⟨d, .call { callee := .value x, args := xs, argTypes := ats }, ty, pos, af, g⟩ (xCallD [(44, g44.1)]) := oG (tb1 h44 tb0)
end Go.Proofs.YtddbhljljmijcaaGreat.V
