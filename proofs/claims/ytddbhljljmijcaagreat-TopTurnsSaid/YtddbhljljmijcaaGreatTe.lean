/- Functions of the program, evaluated. -/
import Derived.Test.YtddbhljljmijcaaGreatTd
namespace Go.Proofs.YtddbhljljmijcaaGreat.V
open Go.RowKit Go.Proofs Go.Proofs.Tryz
set_option linter.unusedVariables false
set_option maxRecDepth 100000
/- (wellspring/patch.copier).copy -/
noncomputable def g61 : {X : Xop // FnGood Pg 61 X} := ⟨_, fN' rfl Tryz.func61 (by decide) Tryz.ntmps61 Tryz.results61 rfl
 (cS (cR (s1 pt2 (u0 oX (bb (qT gt0) b0)) <|
  sa pt4 (qV (.one (.str [])) rfl) <|
  se) rfl) (cS (cR (y1 pt17 (u1 k241 eLoadN rfl (qT gt2)) <|
  s1 pt18 (uC rfl h129 (bb (qT gt17) b0)) <|
  sm pt16 (qT gt18) <|
  y1 pt19 (fEx (qT gt16)) <|
  y1 pt20 (fEx (qT gt16)) <|
  sa pt5 (qT gt19) <|
  sa pt6 (qT gt20) <|
  se) rfl) (cS (cR (y1 pt21 (u1 k233 eFaddr rfl (qT gt2)) <|
  y1 pt22 (u1 k250 eFaddr rfl (qT gt21)) <|
  y1 pt23 (u1 k5 eLoad rfl (qT gt22)) <|
  y1 pt24 (u1 k234 eFaddr rfl (qT gt2)) <|
  y1 pt25 (u1 k239 eFaddr rfl (qT gt24)) <|
  y1 pt26 (u1 k5 eLoad rfl (qT gt25)) <|
  s1 pt27 (uC rfl h130 (bb (qT gt23) (bb (qT gt26) b0))) <|
  sa pt7 (qT gt27) <|
  se) rfl) (cS (cS (cR (sm pt28 (qT gt5) <|
  y1 pt29 (u1 k234 eFaddr rfl (qT gt2)) <|
  y1 pt30 (u1 k214 eFaddr rfl (qT gt29)) <|
  y1 pt31 (u1 k215 eLoad rfl (qT gt30)) <|
  y1 pt32 (u1 k216 eLenSlc rfl (qT gt31)) <|
  y2 pt33 (iLss (qT gt28) (qT gt32)) <|
  se) rfl) (cC gt33 cX cK)) (cS (cR (y1 pt40 (u1 k234 eFaddr rfl (qT gt2)) <|
  y1 pt41 (u1 k214 eFaddr rfl (qT gt40)) <|
  y1 pt42 (u1 k215 eLoad rfl (qT gt41)) <|
  sm pt43 (qT gt5) <|
  s1 pt44 (u0 k251 (bb (qT gt42) (bb (qT gt43) b0))) <|
  s1 pt45 (uC rfl h131 (bb (qT gt44) b0)) <|
  sm pt39 (qT gt45) <|
  y1 pt46 (fEx (qT gt39)) <|
  y1 pt47 (fEx (qT gt39)) <|
  sa pt8 (qT gt46) <|
  sa pt9 (qT gt47) <|
  se) rfl) (cS (cR (y1 pt49 (u1 k241 eLoadN rfl (qT gt2)) <|
  s1 pt50 (uC rfl h132 (bb (qT gt49) b0)) <|
  sm pt48 (qT gt50) <|
  y1 pt51 (fEx (qT gt48)) <|
  y1 pt52 (fEx (qT gt48)) <|
  sa pt10 (qT gt51) <|
  sa pt11 (qT gt52) <|
  se) rfl) (cS (cR (s1 pt12 (u0 k249 b0) <|
  se) rfl) (cS (cS (cR (y1 pt53 (u1 k233 eFaddr rfl (qT gt2)) <|
  y1 pt54 (u1 k240 eFaddr rfl (qT gt53)) <|
  y1 pt55 (u1 k5 eLoad rfl (qT gt54)) <|
  sm pt56 (qT gt7) <|
  sm pt57 (qT gt8) <|
  sm pt58 (qT gt9) <|
  sm pt59 (qT gt11) <|
  s1 pt60 (u0 k252 (bb (qT gt55) (bb (qT gt56) (bb (qI (.ofNat 1)) (bb (qT gt57) (bb (qT gt58) (bb (qT gt59) b0))))))) <|
  y1 pt61 (u1 k253 eLenSlc rfl (qT gt60)) <|
  sm pt62 (qI (.ofNat 0)) <|
  se) rfl) (cB (cO (cS (cR (y2 pt63 (iLss (qT gt62) (qT gt61)) <|
  se) rfl) (cS (cC gt63 cK cE) (cS (cB (cS (cR (y2 pt64 (u2 k254 eIaddr rfl (qT gt60) (qT gt62)) <|
  y1 pt65 (u1 k5 eLoad rfl (qT gt64)) <|
  sa pt14 (qT gt65) <|
  se) rfl) (cR (sm pt66 (qT gt14) <|
  s1 pt67 (uC rfl h134 (bb (qT gt66) b0)) <|
  s1 pt68 (uC rfl h133 (bb (qT gt12) (bb (qT gt67) b0))) <|
  se) rfl))) (cR (y2 pt69 (iAdd (qT gt62) (qI (.ofNat 1))) <|
  sm pt62 (qT gt69) <|
  se) rfl))))))) (cS (cD mo (d1 0 0 rfl pt70 k233 (aT gt2 a0) <|
  d1 1 1 rfl pt71 k146 (aT gt70 a0) <|
  d1 2 3 rfl pt72 k48 (aT gt71 a0) <|
  d1 3 7 rfl pt73 k3 (aT gt72 a0) <|
  d1 4 0 rfl pt74 k233 (aT gt2 a0) <|
  d1 5 16 rfl pt75 k146 (aT gt74 a0) <|
  d1 6 48 rfl pt76 k49 (aT gt75 a0) <|
  d1 7 112 rfl pt77 k5 (aT gt76 a0) <|
  d1 10 0 rfl pt80 k233 (aT gt2 a0) <|
  d1 11 1024 rfl pt81 k146 (aT gt80 a0) <|
  d1 12 3072 rfl pt82 k50 (aT gt81 a0) <|
  d1 13 7168 rfl pt83 k5 (aT gt82 a0) <|
  d1 8 240 rfl pt78 c134 (aU rfl (aT gt77 a0)) <|
  d1 9 511 rfl pt79 oS (aT gt73 (aT gt78 a0)) <|
  d1 14 15856 rfl pt84 c134 (aU rfl (aT gt83 a0)) <|
  d1 15 32767 rfl pt85 oS (aT gt79 (aT gt84 a0)) <|
  d1 16 65535 rfl pt86 c133 (aU rfl (aT gt12 (aT gt85 a0))) <|
  de) rfl rfl rfl) (cS (cS (cR (sm pt87 (qT gt5) <|
  sm pt88 (qI (.ofNat 0)) <|
  se) rfl) (cB (cO (cS (cR (y2 pt89 (iLss (qT gt88) (qT gt87)) <|
  se) rfl) (cS (cC gt89 cK cE) (cS (cB (cS (cR (sm pt90 (qT gt88) <|
  sa pt15 (qT gt90) <|
  se) rfl) (cR (y1 pt91 (u1 k234 eFaddr rfl (qT gt2)) <|
  y1 pt92 (u1 k237 eLoadN rfl (qT gt91)) <|
  sm pt93 (qT gt15) <|
  y1 pt94 (u1 k238 eFaddr rfl (qT gt2)) <|
  y1 pt95 (u1 k5 eLoad rfl (qT gt94)) <|
  sm pt96 (qT gt1) <|
  s1 pt97 (uC rfl h135 (bb (qT gt92) (bb (qT gt93) (bb (qT gt95) (bb (qT gt96) b0))))) <|
  s1 pt98 (uC rfl h133 (bb (qT gt12) (bb (qT gt97) b0))) <|
  se) rfl))) (cR (y2 pt99 (iAdd (qT gt88) (qI (.ofNat 1))) <|
  sm pt88 (qT gt99) <|
  se) rfl))))))) (cS (cR (sm pt100 (qT gt10) <|
  s1 pt101 (uC rfl h133 (bb (qT gt12) (bb (qT gt100) b0))) <|
  se) rfl) (cS (cR (s1 pt102 (uC rfl h136 (bb (qT gt12) b0)) <|
  sa pt4 (qT gt102) <|
  se) rfl) cT))))))))))))
 (rT gt4 r0)⟩
theorem h61 : FnGood Pg 61 g61.1 := g61.2
theorem c61 {d : Option Nat} {ty : TypeId} {pos : String} {af : Array Edge} {g : Option (Nat × Bool)} {x : Operand} {xs : Array Operand} {ats : Array TypeId} : DXOk Pg ⟨d, .call { callee := .value x, args := xs, argTypes := ats }, ty, pos, af, g⟩ (xCallD [(61, g61.1)]) := oG (tb1 h61 tb0)
/- wellspring/patch.Copy -/
noncomputable def g20 : {X : Xop // FnGood Pg 20 X} := ⟨_, fN' rfl Tryz.func20 (by decide) Tryz.ntmps20 Tryz.results20 rfl
 (cS (cR (s1 pt4 (u0 oX (bb (qT gt0) b0)) <|
  s1 pt5 (u0 oX (bb (qT gt1) b0)) <|
  sa pt8 (qV (.one (.str [])) rfl) <|
  sa pt9 qB <|
  se) rfl) (cS (cR (y1 pt11 (u1 k237 eLoadN rfl (qT gt4)) <|
  y1 pt12 (u1 k149 eLoadN rfl (qT gt5)) <|
  sm pt13 (qT gt2) <|
  s1 pt14 (u0 k255 (bb (qT gt11) (bb (qT gt12) (bb (qT gt13) b0)))) <|
  s1 pt10 (u0 k256 b0) <|
  y0 (u2 k257 eStore rfl (qT gt10) (qT gt14)) <|
  se) rfl) (cS (cS (cR (sm pt15 (qT gt3) <|
  y2 pt16 (iLss (qT gt15) (qI (.ofNat 0))) <|
  sm pt17 (qT gt16) <|
  g1 gt17 pt18 (u1 k241 eLoadN rfl (qT gt10)) rfl <|
  g1 gt17 pt19 (uC rfl h60 (bb (qT gt18) b0)) rfl <|
  g1 gt17 pt20 (fNo (qT gt19)) rfl <|
  s1 pt21 (uP (qT gt17) qB (qT gt20)) <|
  se) rfl) (cC gt21 cX cK)) (cS (cR (y1 pt22 (u1 k241 eLoadN rfl (qT gt10)) <|
  sm pt23 (qT gt3) <|
  s1 pt24 (uC rfl h61 (bb (qT gt22) (bb (qT gt23) b0))) <|
  sa pt8 (qT gt24) <|
  sa pt9 qB <|
  se) rfl) cT))))
 (rT gt8 (rT gt9 r0))⟩
theorem h20 : FnGood Pg 20 g20.1 := g20.2
theorem c20 {d : Option Nat} {ty : TypeId} {pos : String} {af : Array Edge} {g : Option (Nat × Bool)} {x : Operand} {xs : Array Operand} {ats : Array TypeId} : DXOk Pg ⟨d, .call { callee := .value x, args := xs, argTypes := ats }, ty, pos, af, g⟩ (xCallD [(20, g20.1)]) := oG (tb1 h20 tb0)
/- (*wellspring/node.Node).tell -/
noncomputable def g85 : {X : Xop // FnGood Pg 85 X} := ⟨_, fN' rfl Tryz.func85 (by decide) Tryz.ntmps85 Tryz.results85 rfl
 (cS (cR (s1 pt4 (u0 oX (bb (qT gt1) b0)) <|
  se) rfl) (cD mo (d1 0 0 rfl pt6 oM (aT gt0 a0) <|
  d1 1 0 rfl pt7 oM (aT gt0 a0) <|
  d1 2 2 rfl pt8 oC (aT gt7 a0) <|
  d1 3 6 rfl pt9 k70 (aT gt8 a0) <|
  d1 4 14 rfl pt10 k258 (aT gt9 a0) <|
  d1 5 0 rfl pt11 k259 (aT gt4 a0) <|
  d1 6 32 rfl pt12 k3 (aT gt11 a0) <|
  d1 7 0 rfl pt13 k260 (aT gt4 a0) <|
  d1 8 128 rfl pt14 k5 (aT gt13 a0) <|
  d1 9 0 rfl pt15 oM (aT gt2 a0) <|
  d1 10 992 rfl pt16 k261 (aT gt12 (aT gt14 (aI (.ofNat 53) (aT gt15 a0)))) <|
  d1 11 2016 rfl pt17 k262 (aT gt16 a0) <|
  d1 12 4094 rfl pt18 k263 (aT gt10 (aT gt17 a0)) <|
  d1 13 8191 rfl pt19 oC (aT gt6 a0) <|
  d1 14 16383 rfl pt20 k70 (aT gt19 a0) <|
  d0 15 32767 rfl k71 (aT gt20 (aT gt18 a0)) <|
  de) rfl rfl rfl))
 r0⟩
theorem h85 : FnGood Pg 85 g85.1 := g85.2
theorem c85 {d : Option Nat} {ty : TypeId} {pos : String} {af : Array Edge} {g : Option (Nat × Bool)} {x : Operand} {xs : Array Operand} {ats : Array TypeId} : DXOk Pg ⟨d, .call { callee := .value x, args := xs, argTypes := ats }, ty, pos, af, g⟩ (xCallD [(85, g85.1)]) := oG (tb1 h85 tb0)
/- slices.Clone[[]wellspring/api.Question,wellspring/api.Question] -/
noncomputable def g185 : {X : Xop // FnGood Pg 185 X} := ⟨_, fN' rfl Tryz.func185 (by decide) Tryz.ntmps185 Tryz.results185 rfl
 (cS (cR (sa pt2 (qV (.one (.nils)) rfl) <|
  se) rfl) (cS (cS (cR (sm pt3 (qT gt0) <|
  s1 pt4 (u0 k264 (bb (qT gt3) (bb (qV (.one (.nils)) rfl) b0))) <|
  se) rfl) (cC gt4 (cS (cR (sa pt2 (qV (.one (.nils)) rfl) <|
  se) rfl) cT) cK)) (cS (cR (s1 pt5 (u0 k265 b0) <|
  sm pt6 (qT gt0) <|
  s1 pt7 (u0 k134 (bb (qT gt5) (bb (qT gt6) b0))) <|
  sa pt2 (qT gt7) <|
  se) rfl) cT)))
 (rT gt2 r0)⟩
theorem h185 : FnGood Pg 185 g185.1 := g185.2
theorem c185 {d : Option Nat} {ty : TypeId} {pos : String} {af : Array Edge} {g : Option (Nat × Bool)} {x : Operand} {xs : Array Operand} {ats : Array TypeId} : DXOk Pg ⟨d, .call { callee := .value x, args := xs, argTypes := ats }, ty, pos, af, g⟩ (xCallD [(185, g185.1)]) := oG (tb1 h185 tb0)
/- wellspring/msg.small -/
noncomputable def g198 : {X : Xop // FnGood Pg 198 X} := ⟨_, fN' rfl Tryz.func198 (by decide) Tryz.ntmps198 Tryz.results198 rfl
 (cS (cR (sa pt2 qB <|
  se) rfl) (cS (cR (sm pt3 (qT gt0) <|
  y2 pt4 (iGeq (qT gt3) (qI (.ofNat 0))) <|
  sm pt5 (qT gt4) <|
  g1 gt5 pt6 (fMv (qT gt0)) rfl <|
  g1 gt5 pt7 (iLeq (qT gt6) (qI (.ofNat 65535))) rfl <|
  s1 pt8 (uP (qT gt5) (qT gt7) qB) <|
  sa pt2 (qT gt8) <|
  se) rfl) cT))
 (rT gt2 r0)⟩
theorem h198 : FnGood Pg 198 g198.1 := g198.2
theorem c198 {d : Option Nat} {ty : TypeId} {pos : String} {af : Array Edge} {g : Option (Nat × Bool)} {x : Operand} {xs : Array Operand} {ats : Array TypeId} : DXOk Pg ⟨d, .call { callee := .value x, args := xs, argTypes := ats }, ty, pos, af, g⟩ (xCallD [(198, g198.1)]) := oG (tb1 h198 tb0)
/- wellspring/msg.Check$2 -/
noncomputable def g201 : {X : Xop // FnGood Pg 201 X} := ⟨_, fN' rfl Tryz.func201 (by decide) Tryz.ntmps201 Tryz.results201 rfl
 (cS (cR (s1 pt1 (u0 oX (bb (qT gt0) b0)) <|
  sa pt2 qB <|
  se) rfl) (cS (cR (y1 pt3 (u1 k48 eFaddr rfl (qT gt1)) <|
  y1 pt4 (u1 k3 eLoad rfl (qT gt3)) <|
  s1 pt5 (uC rfl h83 (bb (qT gt4) b0)) <|
  y1 pt6 (fNo (qT gt5)) <|
  sm pt7 (qT gt6) <|
  g1 gt7 pt8 (u1 k49 eFaddr rfl (qT gt1)) rfl <|
  g1 gt7 pt9 (u1 k5 eLoad rfl (qT gt8)) rfl <|
  g1 gt7 pt10 (uC rfl h198 (bb (qT gt9) b0)) rfl <|
  g1 gt7 pt11 (fNo (qT gt10)) rfl <|
  s1 pt12 (uP (qT gt7) qB (qT gt11)) <|
  sm pt13 (qT gt12) <|
  g1 gt13 pt14 (u1 k50 eFaddr rfl (qT gt1)) rfl <|
  g1 gt13 pt15 (u1 k5 eLoad rfl (qT gt14)) rfl <|
  g1 gt13 pt16 (uC rfl h198 (bb (qT gt15) b0)) rfl <|
  g1 gt13 pt17 (fNo (qT gt16)) rfl <|
  s1 pt18 (uP (qT gt13) qB (qT gt17)) <|
  sa pt2 (qT gt18) <|
  se) rfl) cT))
 (rT gt2 r0)⟩
theorem h201 : FnGood Pg 201 g201.1 := g201.2
theorem c201 {d : Option Nat} {ty : TypeId} {pos : String} {af : Array Edge} {g : Option (Nat × Bool)} {x : Operand} {xs : Array Operand} {ats : Array TypeId} : DXOk Pg ⟨d, .call { callee := .value x, args := xs, argTypes := ats }, ty, pos, af, g⟩ (xCallD [(201, g201.1)]) := oG (tb1 h201 tb0)
/- wellspring/lru.Drop[wellspring/api.Question]$1 -/
noncomputable def g230 : {X : Xop // FnGood Pg 230 X} := ⟨_, fN' rfl Tryz.func230 (by decide) Tryz.ntmps230 Tryz.results230 rfl
 (cS (cR (s1 pt2 (u0 oX (bb (qT gt0) b0)) <|
  sa pt3 qB <|
  se) rfl) (cS (cR (y1 pt4 (u1 k45 eLoadN rfl (qT gt2)) <|
  y1 pt5 (u1 k45 eLoadN rfl (qT gt1)) <|
  s1 pt6 (u0 k266 (bb (qT gt4) (bb (qT gt5) b0))) <|
  sa pt3 (qT gt6) <|
  se) rfl) cT))
 (rT gt3 r0)⟩
theorem h230 : FnGood Pg 230 g230.1 := g230.2
theorem c230 {d : Option Nat} {ty : TypeId} {pos : String} {af : Array Edge} {g : Option (Nat × Bool)} {x : Operand} {xs : Array Operand} {ats : Array TypeId} : DXOk Pg ⟨d, .call { callee := .value x, args := xs, argTypes := ats }, ty, pos, af, g⟩ (xCallD [(230, g230.1)]) := oG (tb1 h230 tb0)
/- slices.IndexFunc[[]wellspring/api.Question,wellspring/api.Question] -/
noncomputable def g238 : {X : Xop // FnGood Pg 238 X} := ⟨_, fN' rfl Tryz.func238 (by decide) Tryz.ntmps238 Tryz.results238 rfl
 (cS (cR (sa pt4 (qI (.ofNat 0)) <|
  se) rfl) (cS (cS (cR (sm pt6 (qT gt0) <|
  y1 pt7 (u1 k43 eLenSlc rfl (qT gt6)) <|
  sm pt8 (qI (.ofNat 0)) <|
  se) rfl) (cB (cO (cS (cR (y2 pt9 (iLss (qT gt8) (qT gt7)) <|
  se) rfl) (cS (cC gt9 cK cE) (cS (cB (cS (cR (sm pt10 (qT gt8) <|
  sa pt5 (qT gt10) <|
  se) rfl) (cS (cR (sm pt11 (qT gt1) <|
  sm pt12 (qT gt0) <|
  sm pt13 (qT gt5) <|
  y2 pt14 (u2 k44 eIaddr rfl (qT gt12) (qT gt13)) <|
  y1 pt15 (u1 k45 eLoadN rfl (qT gt14)) <|
  s1 pt16 (u0 (oG (tb1 h201 (tb1 h230 tb0))) (bb (qT gt11) (bb (qT gt15) b0))) <|
  se) rfl) (cC gt16 (cS (cR (sm pt17 (qT gt5) <|
  sa pt4 (qT gt17) <|
  se) rfl) cT) cK)))) (cR (y2 pt18 (iAdd (qT gt8) (qI (.ofNat 1))) <|
  sm pt8 (qT gt18) <|
  se) rfl))))))) (cS (cR (sa pt4 (qI (.negSucc 0)) <|
  se) rfl) cT)))
 (rT gt4 r0)⟩
theorem h238 : FnGood Pg 238 g238.1 := g238.2
theorem c238 {d : Option Nat} {ty : TypeId} {pos : String} {af : Array Edge} {g : Option (Nat × Bool)} {x : Operand} {xs : Array Operand} {ats : Array TypeId} : DXOk Pg ⟨d, .call { callee := .value x, args := xs, argTypes := ats }, ty, pos, af, g⟩ (xCallD [(238, g238.1)]) := oG (tb1 h238 tb0)
/- slices.DeleteFunc[[]wellspring/api.Question,wellspring/api.Question] -/
noncomputable def g229 : {X : Xop // FnGood Pg 229 X} := ⟨_, fN' rfl Tryz.func229 (by decide) Tryz.ntmps229 Tryz.results229 rfl
 (cS (cR (sa pt4 (qV (.one (.nils)) rfl) <|
  se) rfl) (cS (cR (sm pt8 (qT gt0) <|
  sm pt9 (qT gt1) <|
  s1 pt10 (uC rfl h238 (bb (qT gt8) (bb (qT gt9) b0))) <|
  sa pt5 (qT gt10) <|
  se) rfl) (cS (cS (cR (sm pt11 (qT gt5) <|
  y2 pt12 (iEql (qT gt11) (qI (.negSucc 0))) <|
  se) rfl) (cC gt12 (cS (cR (sm pt13 (qT gt0) <|
  sa pt4 (qT gt13) <|
  se) rfl) cT) cK)) (cS (cS (cR (sm pt14 (qT gt5) <|
  y2 pt15 (iAdd (qT gt14) (qI (.ofNat 1))) <|
  sa pt6 (qT gt15) <|
  se) rfl) (cB (cO (cS (cS (cR (sm pt16 (qT gt6) <|
  sm pt17 (qT gt0) <|
  y1 pt18 (u1 k43 eLenSlc rfl (qT gt17)) <|
  y2 pt19 (iLss (qT gt16) (qT gt18)) <|
  se) rfl) (cC gt19 cK cE)) cX)))) (cS (cR (sm pt36 (qT gt0) <|
  sm pt37 (qT gt5) <|
  s1 pt38 (u0 k267 (bb (qT gt36) (bb (qT gt37) b0))) <|
  s0 (u0 k268 (bb (qT gt38) b0)) <|
  se) rfl) (cS (cR (sm pt39 (qT gt0) <|
  sm pt40 (qT gt5) <|
  s1 pt41 (u0 k269 (bb (qT gt39) (bb (qT gt40) b0))) <|
  sa pt4 (qT gt41) <|
  se) rfl) cT))))))
 (rT gt4 r0)⟩
theorem h229 : FnGood Pg 229 g229.1 := g229.2
theorem c229 {d : Option Nat} {ty : TypeId} {pos : String} {af : Array Edge} {g : Option (Nat × Bool)} {x : Operand} {xs : Array Operand} {ats : Array TypeId} : DXOk Pg ⟨d, .call { callee := .value x, args := xs, argTypes := ats }, ty, pos, af, g⟩ (xCallD [(229, g229.1)]) := oG (tb1 h229 tb0)
/- wellspring/lru.Drop[wellspring/api.Question] -/
noncomputable def g186 : {X : Xop // FnGood Pg 186 X} := ⟨_, fN' rfl Tryz.func186 (by decide) Tryz.ntmps186 Tryz.results186 rfl
 (cS (cR (s1 pt3 (u0 oX (bb (qT gt1) b0)) <|
  sa pt4 (qV (.one (.nils)) rfl) <|
  se) rfl) (cS (cR (sm pt5 (qT gt0) <|
  s1 pt6 (uC rfl h185 (bb (qT gt5) b0)) <|
  s1 pt7 (u0 (oF0 rfl) (bb (qT gt3) b0)) <|
  s1 pt8 (uC rfl h229 (bb (qT gt6) (bb (qT gt7) b0))) <|
  sa pt4 (qT gt8) <|
  se) rfl) cT))
 (rT gt4 r0)⟩
theorem h186 : FnGood Pg 186 g186.1 := g186.2
theorem c186 {d : Option Nat} {ty : TypeId} {pos : String} {af : Array Edge} {g : Option (Nat × Bool)} {x : Operand} {xs : Array Operand} {ats : Array TypeId} : DXOk Pg ⟨d, .call { callee := .value x, args := xs, argTypes := ats }, ty, pos, af, g⟩ (xCallD [(186, g186.1)]) := oG (tb1 h186 tb0)
/- wellspring/lru.Touch[wellspring/api.Question] -/
noncomputable def g110 : {X : Xop // FnGood Pg 110 X} := ⟨_, fN' rfl Tryz.func110 (by decide) Tryz.ntmps110 Tryz.results110 rfl
 (cS (cR (s1 pt3 (u0 oX (bb (qT gt1) b0)) <|
  sa pt4 (qV (.one (.nils)) rfl) <|
  se) rfl) (cS (cD mo (d1 0 0 rfl pt5 oM (aT gt0 a0) <|
  d1 1 0 rfl pt6 k45 (aT gt3 a0) <|
  d1 3 0 rfl pt8 k45 (aT gt3 a0) <|
  d1 4 8 rfl pt9 k133 (aT gt8 a0) <|
  d1 2 3 rfl pt7 c186 (aU rfl (aT gt5 (aT gt6 a0))) <|
  d1 5 31 rfl pt10 k134 (aT gt7 (aT gt9 a0)) <|
  d1 6 63 rfl pt4 oA (aT gt10 a0) <|
  de) rfl rfl rfl) cT))
 (rT gt4 r0)⟩
theorem h110 : FnGood Pg 110 g110.1 := g110.2
theorem c110 {d : Option Nat} {ty : TypeId} {pos : String} {af : Array Edge} {g : Option (Nat × Bool)} {x : Operand} {xs : Array Operand} {ats : Array TypeId} : DXOk Pg ⟨d, .call { callee := .value x, args := xs, argTypes := ats }, ty, pos, af, g⟩ (xCallD [(110, g110.1)]) := oG (tb1 h110 tb0)
/- (*wellspring/store.Store).Get -/
noncomputable def g208 : {X : Xop // FnGood Pg 208 X} := ⟨_, fN' rfl Tryz.func208 (by decide) Tryz.ntmps208 Tryz.results208 rfl
 (cS (cR (s1 pt5 (u0 oX (bb (qT gt2) b0)) <|
  s1 pt6 (u0 k151 b0) <|
  sa pt7 qB <|
  se) rfl) (cS (cR (sm pt11 (qT gt0) <|
  sm pt12 (qT gt1) <|
  y1 pt13 (u1 k45 eLoadN rfl (qT gt5)) <|
  s1 pt14 (uC rfl h120 (bb (qT gt11) (bb (qT gt12) (bb (qT gt13) b0)))) <|
  sm pt10 (qT gt14) <|
  y1 pt15 (fEx (qT gt10)) <|
  y1 pt16 (fEx (qT gt10)) <|
  s1 pt8 (u0 k151 b0) <|
  y0 (u2 k155 eStore rfl (qT gt8) (qT gt15)) <|
  sa pt9 (qT gt16) <|
  se) rfl) (cS (cS (cR (sm pt17 (qT gt9) <|
  se) rfl) (cC gt17 (cD mo (d1 0 0 rfl pt18 oM (aT gt0 a0) <|
  d1 1 0 rfl pt19 oM (aT gt0 a0) <|
  d1 2 2 rfl pt20 oC (aT gt19 a0) <|
  d1 3 6 rfl pt21 k270 (aT gt20 a0) <|
  d1 4 14 rfl pt22 k42 (aT gt21 a0) <|
  d1 5 0 rfl pt23 k45 (aT gt5 a0) <|
  d1 6 62 rfl pt24 c110 (aU rfl (aT gt22 (aT gt23 a0))) <|
  d1 7 127 rfl pt25 oC (aT gt18 a0) <|
  d1 8 255 rfl pt26 k270 (aT gt25 a0) <|
  d0 9 511 rfl k135 (aT gt26 (aT gt24 a0)) <|
  de) rfl rfl rfl) cK)) (cS (cR (y1 pt27 (u1 k154 eLoadN rfl (qT gt8)) <|
  sm pt28 (qT gt9) <|
  y0 (u2 k155 eStore rfl (qT gt6) (qT gt27)) <|
  sa pt7 (qT gt28) <|
  se) rfl) cT))))
 (rR gt6 underlying210 rfl i210 rfl (rT gt7 r0))⟩
theorem h208 : FnGood Pg 208 g208.1 := g208.2
theorem c208 {d : Option Nat} {ty : TypeId} {pos : String} {af : Array Edge} {g : Option (Nat × Bool)} {x : Operand} {xs : Array Operand} {ats : Array TypeId} : DXOk Pg ⟨d, .call { callee := .value x, args := xs, argTypes := ats }, ty, pos, af, g⟩ (xCallD [(208, g208.1)]) := oG (tb1 h208 tb0)
/- (*wellspring/node.Node).uses -/
noncomputable def g155 : {X : Xop // FnGood Pg 155 X} := ⟨_, fN' rfl Tryz.func155 (by decide) Tryz.ntmps155 Tryz.results155 rfl
 (cS (cR (sm pt8 (qT gt2) <|
  y1 pt9 (u1 k43 eLenSlc rfl (qT gt8)) <|
  sm pt10 (qI (.ofNat 0)) <|
  se) rfl) (cB (cO (cS (cR (y2 pt11 (iLss (qT gt10) (qT gt9)) <|
  se) rfl) (cS (cC gt11 cK cE) (cS (cB (cS (cR (y2 pt12 (u2 k44 eIaddr rfl (qT gt8) (qT gt10)) <|
  y1 pt13 (u1 k45 eLoadN rfl (qT gt12)) <|
  s1 pt7 (u0 k46 b0) <|
  y0 (u2 k47 eStore rfl (qT gt7) (qT gt13)) <|
  se) rfl) (cD mo (d1 0 0 rfl pt14 oM (aT gt0 a0) <|
  d1 1 1 rfl pt15 oC (aT gt14 a0) <|
  d1 2 3 rfl pt16 k203 (aT gt15 a0) <|
  d1 3 7 rfl pt17 k164 (aT gt16 a0) <|
  d1 4 0 rfl pt18 oM (aT gt1 a0) <|
  d1 5 0 rfl pt19 k45 (aT gt7 a0) <|
  d1 6 63 rfl pt20 c208 (aU rfl (aT gt17 (aT gt18 (aT gt19 a0)))) <|
  de) rfl rfl rfl))) (cR (y2 pt21 (iAdd (qT gt10) (qI (.ofNat 1))) <|
  sm pt10 (qT gt21) <|
  se) rfl)))))))
 r0⟩
theorem h155 : FnGood Pg 155 g155.1 := g155.2
theorem c155 {d : Option Nat} {ty : TypeId} {pos : String} {af : Array Edge} {g : Option (Nat × Bool)} {x : Operand} {xs : Array Operand} {ats : Array TypeId} : DXOk Pg ⟨d, .call { callee := .value x, args := xs, argTypes := ats }, ty, pos, af, g⟩ (xCallD [(155, g155.1)]) := oG (tb1 h155 tb0)
/- (*wellspring/node.Node).copied -/
noncomputable def g87 : {X : Xop // FnGood Pg 87 X} := ⟨_, fN' rfl Tryz.func87 (by decide) Tryz.ntmps87 Tryz.results87 rfl
 (cS (cR (s1 pt5 (u0 oX (bb (qT gt2) b0)) <|
  sa pt6 qB <|
  se) rfl) (cS (cD mo (d1 0 0 rfl pt12 oM (aT gt0 a0) <|
  d1 1 1 rfl pt13 oC (aT gt12 a0) <|
  d1 2 3 rfl pt14 k211 (aT gt13 a0) <|
  d1 3 7 rfl pt15 k212 (aT gt14 a0) <|
  d1 4 0 rfl pt16 k271 (aT gt5 a0) <|
  d1 5 16 rfl pt17 k45 (aT gt16 a0) <|
  d1 6 63 rfl pt18 k272 (aT gt15 (aT gt17 a0)) <|
  d1 7 127 rfl pt11 oM (aT gt18 a0) <|
  d1 8 255 rfl pt19 oE (aT gt11 a0) <|
  d1 9 255 rfl pt20 oE (aT gt11 a0) <|
  d1 10 0 rfl pt7 k273 a0 <|
  d0 11 1535 rfl k274 (aT gt7 (aT gt19 a0)) <|
  d1 12 4095 rfl pt8 oA (aT gt20 a0) <|
  de) rfl rfl rfl) (cS (cS (cR (sm pt21 (qT gt8) <|
  y1 pt22 (fNo (qT gt21)) <|
  se) rfl) (cC gt22 (cS (cR (sa pt6 qB <|
  se) rfl) cT) cK)) (cS (cD mo (d1 0 0 rfl pt24 k275 (aT gt7 a0) <|
  d1 1 1 rfl pt25 k237 (aT gt24 a0) <|
  d1 2 0 rfl pt26 k276 (aT gt5 a0) <|
  d1 3 4 rfl pt27 k149 (aT gt26 a0) <|
  d1 4 0 rfl pt28 oM (aT gt1 a0) <|
  d1 5 0 rfl pt29 oM (aT gt0 a0) <|
  d1 6 32 rfl pt30 oC (aT gt29 a0) <|
  d1 7 96 rfl pt31 k277 (aT gt30 a0) <|
  d1 8 224 rfl pt32 k5 (aT gt31 a0) <|
  d1 9 511 rfl pt33 c20 (aU rfl (aT gt25 (aT gt27 (aT gt28 (aT gt32 a0))))) <|
  d1 10 1023 rfl pt23 oM (aT gt33 a0) <|
  d1 11 2047 rfl pt34 oE (aT gt23 a0) <|
  d1 12 2047 rfl pt35 oE (aT gt23 a0) <|
  d1 13 4095 rfl pt9 oA (aT gt34 a0) <|
  d1 14 16383 rfl pt10 oA (aT gt35 a0) <|
  de) rfl rfl rfl) (cS (cS (cR (sm pt36 (qT gt10) <|
  y1 pt37 (fNo (qT gt36)) <|
  se) rfl) (cC gt37 cX cK)) (cS (cR (sm pt38 (qT gt0) <|
  y1 pt39 (u1 k278 eLoadN rfl (qT gt5)) <|
  sm pt40 (qT gt9) <|
  s1 pt41 (uC rfl h85 (bb (qT gt38) (bb (qT gt39) (bb (qT gt40) b0)))) <|
  se) rfl) (cS (cR (sm pt42 (qT gt0) <|
  y1 pt43 (fNc (qT gt42)) <|
  y1 pt44 (u1 k277 eFaddr rfl (qT gt43)) <|
  y1 pt45 (u1 k5 eLoad rfl (qT gt44)) <|
  y2 pt46 (iAdd (qT gt45) (qI (.ofNat 1))) <|
  y1 pt47 (fNc (qT gt42)) <|
  y1 pt48 (u1 k277 eFaddr rfl (qT gt47)) <|
  y0 (u2 k69 eStore rfl (qT gt48) (qT gt46)) <|
  se) rfl) (cS (cR (sm pt49 (qT gt0) <|
  y1 pt50 (fNc (qT gt49)) <|
  y1 pt51 (u1 k279 eFaddr rfl (qT gt50)) <|
  y1 pt52 (u1 k5 eLoad rfl (qT gt51)) <|
  y2 pt53 (iAdd (qT gt52) (qI (.ofNat 1))) <|
  y1 pt54 (fNc (qT gt49)) <|
  y1 pt55 (u1 k279 eFaddr rfl (qT gt54)) <|
  y0 (u2 k69 eStore rfl (qT gt55) (qT gt53)) <|
  se) rfl) (cS (cR (sm pt56 (qT gt0) <|
  sm pt57 (qT gt1) <|
  y1 pt58 (u1 k280 eFaddr rfl (qT gt7)) <|
  y1 pt59 (u1 k42 eLoad rfl (qT gt58)) <|
  s1 pt60 (uC rfl h155 (bb (qT gt56) (bb (qT gt57) (bb (qT gt59) b0)))) <|
  se) rfl) (cS (cR (sa pt6 qB <|
  se) rfl) cT))))))))))
 (rT gt6 r0)⟩
theorem h87 : FnGood Pg 87 g87.1 := g87.2
theorem c87 {d : Option Nat} {ty : TypeId} {pos : String} {af : Array Edge} {g : Option (Nat × Bool)} {x : Operand} {xs : Array Operand} {ats : Array TypeId} : DXOk Pg ⟨d, .call { callee := .value x, args := xs, argTypes := ats }, ty, pos, af, g⟩ (xCallD [(87, g87.1)]) := oG (tb1 h87 tb0)
/- (*wellspring/node.Node).find$1 -/
noncomputable def g96 : {X : Xop // FnGood Pg 96 X} := ⟨_, fN' rfl Tryz.func96 (by decide) Tryz.ntmps96 Tryz.results96 rfl
 (cS (cR (s1 pt2 (u0 oX (bb (qT gt0) b0)) <|
  sa pt3 qB <|
  se) rfl) (cS (cR (y1 pt4 (u1 k281 eFaddr rfl (qT gt2)) <|
  y1 pt5 (u1 k5 eLoad rfl (qT gt4)) <|
  y1 pt6 (u1 k5 eLoad rfl (qT gt1)) <|
  y2 pt7 (iEql (qT gt5) (qT gt6)) <|
  sa pt3 (qT gt7) <|
  se) rfl) cT))
 (rT gt3 r0)⟩
theorem h96 : FnGood Pg 96 g96.1 := g96.2
theorem c96 {d : Option Nat} {ty : TypeId} {pos : String} {af : Array Edge} {g : Option (Nat × Bool)} {x : Operand} {xs : Array Operand} {ats : Array TypeId} : DXOk Pg ⟨d, .call { callee := .value x, args := xs, argTypes := ats }, ty, pos, af, g⟩ (xCallD [(96, g96.1)]) := oG (tb1 h96 tb0)
/- slices.IndexFunc[[]wellspring/node.task,wellspring/node.task] -/
noncomputable def g95 : {X : Xop // FnGood Pg 95 X} := ⟨_, fN' rfl Tryz.func95 (by decide) Tryz.ntmps95 Tryz.results95 rfl
 (cS (cR (sa pt4 (qI (.ofNat 0)) <|
  se) rfl) (cS (cS (cR (sm pt6 (qT gt0) <|
  y1 pt7 (u1 k282 eLenSlc rfl (qT gt6)) <|
  sm pt8 (qI (.ofNat 0)) <|
  se) rfl) (cB (cO (cS (cR (y2 pt9 (iLss (qT gt8) (qT gt7)) <|
  se) rfl) (cS (cC gt9 cK cE) (cS (cB (cS (cR (sm pt10 (qT gt8) <|
  sa pt5 (qT gt10) <|
  se) rfl) (cS (cR (sm pt11 (qT gt1) <|
  sm pt12 (qT gt0) <|
  sm pt13 (qT gt5) <|
  y2 pt14 (u2 k283 eIaddr rfl (qT gt12) (qT gt13)) <|
  y1 pt15 (u1 k284 eLoadN rfl (qT gt14)) <|
  s1 pt16 (u0 c96 (bb (qT gt11) (bb (qT gt15) b0))) <|
  se) rfl) (cC gt16 (cS (cR (sm pt17 (qT gt5) <|
  sa pt4 (qT gt17) <|
  se) rfl) cT) cK)))) cX)))))) (cS (cR (sa pt4 (qI (.negSucc 0)) <|
  se) rfl) cT)))
 (rT gt4 r0)⟩
theorem h95 : FnGood Pg 95 g95.1 := g95.2
theorem c95 {d : Option Nat} {ty : TypeId} {pos : String} {af : Array Edge} {g : Option (Nat × Bool)} {x : Operand} {xs : Array Operand} {ats : Array TypeId} : DXOk Pg ⟨d, .call { callee := .value x, args := xs, argTypes := ats }, ty, pos, af, g⟩ (xCallD [(95, g95.1)]) := oG (tb1 h95 tb0)
/- (*wellspring/node.Node).find -/
noncomputable def g42 : {X : Xop // FnGood Pg 42 X} := ⟨_, fN' rfl Tryz.func42 (by decide) Tryz.ntmps42 Tryz.results42 rfl
 (cS (cR (s1 pt3 (u0 oX (bb (qT gt1) b0)) <|
  sa pt4 (qI (.ofNat 0)) <|
  se) rfl) (cS (cR (sm pt5 (qT gt0) <|
  y1 pt6 (fNc (qT gt5)) <|
  y1 pt7 (u1 k285 eFaddr rfl (qT gt6)) <|
  y1 pt8 (u1 k286 eLoad rfl (qT gt7)) <|
  s1 pt9 (u0 (oF0 rfl) (bb (qT gt3) b0)) <|
  s1 pt10 (uC rfl h95 (bb (qT gt8) (bb (qT gt9) b0))) <|
  sa pt4 (qT gt10) <|
  se) rfl) cT))
 (rT gt4 r0)⟩
theorem h42 : FnGood Pg 42 g42.1 := g42.2
theorem c42 {d : Option Nat} {ty : TypeId} {pos : String} {af : Array Edge} {g : Option (Nat × Bool)} {x : Operand} {xs : Array Operand} {ats : Array TypeId} : DXOk Pg ⟨d, .call { callee := .value x, args := xs, argTypes := ats }, ty, pos, af, g⟩ (xCallD [(42, g42.1)]) := oG (tb1 h42 tb0)
/- slices.Clone[[]wellspring/seek.Goal,wellspring/seek.Goal] -/
noncomputable def g170 : {X : Xop // FnGood Pg 170 X} := ⟨_, fN' rfl Tryz.func170 (by decide) Tryz.ntmps170 Tryz.results170 rfl
 (cS (cR (sa pt2 (qV (.one (.nils)) rfl) <|
  se) rfl) (cS (cS (cR (sm pt3 (qT gt0) <|
  s1 pt4 (u0 k287 (bb (qT gt3) (bb (qV (.one (.nils)) rfl) b0))) <|
  se) rfl) (cC gt4 cX cK)) (cS (cR (s1 pt5 (u0 k288 b0) <|
  sm pt6 (qT gt0) <|
  s1 pt7 (u0 k289 (bb (qT gt5) (bb (qT gt6) b0))) <|
  sa pt2 (qT gt7) <|
  se) rfl) cT)))
 (rT gt2 r0)⟩
theorem h170 : FnGood Pg 170 g170.1 := g170.2
theorem c170 {d : Option Nat} {ty : TypeId} {pos : String} {af : Array Edge} {g : Option (Nat × Bool)} {x : Operand} {xs : Array Operand} {ats : Array TypeId} : DXOk Pg ⟨d, .call { callee := .value x, args := xs, argTypes := ats }, ty, pos, af, g⟩ (xCallD [(170, g170.1)]) := oG (tb1 h170 tb0)
/- wellspring/name.Up -/
noncomputable def g219 : {X : Xop // FnGood Pg 219 X} := ⟨_, fN' rfl Tryz.func219 (by decide) Tryz.ntmps219 Tryz.results219 rfl
 (cS (cR (sa pt2 (qV (.one (.str [])) rfl) <|
  sa pt3 qB <|
  se) rfl) (cS (cS (cR (sm pt4 (qT gt0) <|
  s1 pt5 (uC rfl h83 (bb (qT gt4) b0)) <|
  y1 pt6 (fNo (qT gt5)) <|
  sm pt7 (qT gt6) <|
  g1 gt7 pt8 (fMv (qT gt0)) rfl <|
  g1 gt7 pt9 (u0 oS (bb (qT gt8) (bb (qV (.one (.str [0])) rfl) b0))) rfl <|
  s1 pt10 (uP (qT gt7) qB (qT gt9)) <|
  se) rfl) (cC gt10 (cS (cR (sa pt2 (qV (.one (.str [])) rfl) <|
  sa pt3 qB <|
  se) rfl) cT) cK)) (cS (cR (sm pt11 (qT gt0) <|
  sm pt12 (qT gt0) <|
  y2 pt13 (u2 k21 eIndexS rfl (qT gt12) (qI (.ofNat 0))) <|
  y1 pt14 (u1 k22 eCvt rfl (qT gt13)) <|
  y2 pt15 (iAdd (qI (.ofNat 1)) (qT gt14)) <|
  s1 pt16 (u0 k72 (bb (qT gt11) (bb (qT gt15) b0))) <|
  sa pt2 (qT gt16) <|
  sa pt3 qB <|
  se) rfl) cT)))
 (rT gt2 (rT gt3 r0))⟩
theorem h219 : FnGood Pg 219 g219.1 := g219.2
theorem c219 {d : Option Nat} {ty : TypeId} {pos : String} {af : Array Edge} {g : Option (Nat × Bool)} {x : Operand} {xs : Array Operand} {ats : Array TypeId} : DXOk Pg ⟨d, .call { callee := .value x, args := xs, argTypes := ats }, ty, pos, af, g⟩ (xCallD [(219, g219.1)]) := oG (tb1 h219 tb0)
/- (wellspring/seek.World).of -/
noncomputable def g256 : {X : Xop // FnGood Pg 256 X} := ⟨_, fN' rfl Tryz.func256 (by decide) Tryz.ntmps256 Tryz.results256 rfl
 (cS (cR (s1 pt3 (u0 oX (bb (qT gt0) b0)) <|
  sa pt6 (qV (.one (.nils)) rfl) <|
  sa pt7 qB <|
  se) rfl) (cS (cR (y1 pt11 (u1 k290 eFaddr rfl (qT gt3)) <|
  y1 pt12 (u1 k164 eLoad rfl (qT gt11)) <|
  y1 pt13 (u1 k291 eFaddr rfl (qT gt3)) <|
  y1 pt14 (u1 k5 eLoad rfl (qT gt13)) <|
  sm pt15 (qT gt1) <|
  sm pt16 (qT gt2) <|
  s1 pt17 (u0 k104 (bb (qT gt15) (bb (qT gt16) (bb (qI (.ofNat 1)) b0)))) <|
  s1 pt18 (uC rfl h120 (bb (qT gt12) (bb (qT gt14) (bb (qT gt17) b0)))) <|
  sm pt10 (qT gt18) <|
  y1 pt19 (fEx (qT gt10)) <|
  y1 pt20 (fEx (qT gt10)) <|
  s1 pt8 (u0 k151 b0) <|
  y0 (u2 k155 eStore rfl (qT gt8) (qT gt19)) <|
  sa pt9 (qT gt20) <|
  se) rfl) (cS (cR (y1 pt21 (u1 k152 eFaddr rfl (qT gt8)) <|
  y1 pt22 (u1 k153 eFaddr rfl (qT gt21)) <|
  y1 pt23 (u1 k12 eLoad rfl (qT gt22)) <|
  sm pt24 (qT gt9) <|
  sa pt6 (qT gt23) <|
  sa pt7 (qT gt24) <|
  se) rfl) cT)))
 (rT gt6 (rT gt7 r0))⟩
theorem h256 : FnGood Pg 256 g256.1 := g256.2
theorem c256 {d : Option Nat} {ty : TypeId} {pos : String} {af : Array Edge} {g : Option (Nat × Bool)} {x : Operand} {xs : Array Operand} {ats : Array TypeId} : DXOk Pg ⟨d, .call { callee := .value x, args := xs, argTypes := ats }, ty, pos, af, g⟩ (xCallD [(256, g256.1)]) := oG (tb1 h256 tb0)
/- (wellspring/seek.World).Cut -/
noncomputable def g249 : {X : Xop // FnGood Pg 249 X} := ⟨_, fN' rfl Tryz.func249 (by decide) Tryz.ntmps249 Tryz.results249 rfl
 (cS (cR (s1 pt2 (u0 oX (bb (qT gt0) b0)) <|
  sa pt4 (qV (.one (.str [])) rfl) <|
  sa pt5 (qV (.one (.nils)) rfl) <|
  sa pt6 (qV (.one (.nils)) rfl) <|
  se) rfl) (cP (cS (cR (sm pt13 (qT gt1) <|
  s1 pt14 (uC rfl h36 (bb (qT gt13) b0)) <|
  sa pt7 (qT gt14) <|
  se) rfl) (cS (cS (cR (sm pt15 (qT gt7) <|
  s1 pt16 (u0 oS (bb (qT gt15) (bb (qV (.one (.str [])) rfl) b0))) <|
  se) rfl) (cC gt16 cX cK)) (cS (cR (sa pt8 qB <|
  se) rfl) (cS cL (cS (cB (cO (cS (cS (cR (sm pt17 (qT gt8) <|
  se) rfl) (cC gt17 cK cE)) (cB (cS (cR (y1 pt19 (u1 k292 eLoadN rfl (qT gt2)) <|
  sm pt20 (qT gt7) <|
  s1 pt21 (uC rfl h256 (bb (qT gt19) (bb (qT gt20) (bb (qI (.ofNat 2)) b0)))) <|
  sm pt18 (qT gt21) <|
  y1 pt22 (fEx (qT gt18)) <|
  y1 pt23 (fEx (qT gt18)) <|
  sa pt9 (qT gt22) <|
  sa pt10 (qT gt23) <|
  se) rfl) (cS (cS (cR (sm pt24 (qT gt10) <|
  se) rfl) (cC gt24 cX cK)) (cS (cR (sm pt35 (qT gt7) <|
  s1 pt36 (uC rfl h219 (bb (qT gt35) b0)) <|
  sm pt34 (qT gt36) <|
  y1 pt37 (fEx (qT gt34)) <|
  y1 pt38 (fEx (qT gt34)) <|
  sa pt7 (qT gt37) <|
  sa pt8 (qT gt38) <|
  se) rfl) (cS (cR (sm pt39 (qT gt8) <|
  y1 pt40 (fNo (qT gt39)) <|
  se) rfl) (cC gt40 cE cK))))))))) (cS (cR (y1 pt41 (u1 k293 eFaddr rfl (qT gt2)) <|
  y1 pt42 (u1 k12 eLoad rfl (qT gt41)) <|
  s1 pt43 (uC rfl h27 (bb (qT gt42) b0)) <|
  sa pt4 (qV (.one (.str [0])) rfl) <|
  sa pt5 (qT gt43) <|
  sa pt6 (qV (.one (.nils)) rfl) <|
  se) rfl) cT))))))))
 (rT gt4 (rT gt5 (rT gt6 r0)))⟩
theorem h249 : FnGood Pg 249 g249.1 := g249.2
theorem c249 {d : Option Nat} {ty : TypeId} {pos : String} {af : Array Edge} {g : Option (Nat × Bool)} {x : Operand} {xs : Array Operand} {ats : Array TypeId} : DXOk Pg ⟨d, .call { callee := .value x, args := xs, argTypes := ats }, ty, pos, af, g⟩ (xCallD [(249, g249.1)]) := oG (tb1 h249 tb0)
/- (wellspring/seek.World).missing -/
noncomputable def g221 : {X : Xop // FnGood Pg 221 X} := ⟨_, fN' rfl Tryz.func221 (by decide) Tryz.ntmps221 Tryz.results221 rfl
 (cS (cR (s1 pt3 (u0 oX (bb (qT gt0) b0)) <|
  s1 pt6 (u0 k294 b0) <|
  sa pt7 qB <|
  se) rfl) (cS (cD mo (d1 0 0 rfl pt15 oM (aT gt1 a0) <|
  d1 1 1 rfl pt16 oC (aT gt15 a0) <|
  d1 2 3 rfl pt17 k295 (aT gt16 a0) <|
  d1 3 7 rfl pt18 k296 (aT gt17 a0) <|
  d1 4 0 rfl pt19 oM (aT gt1 a0) <|
  d1 5 16 rfl pt20 oC (aT gt19 a0) <|
  d1 6 48 rfl pt21 k295 (aT gt20 a0) <|
  d1 7 112 rfl pt22 k296 (aT gt21 a0) <|
  d1 8 240 rfl pt23 k297 (aT gt22 a0) <|
  d1 9 496 rfl pt24 oI (aT gt23 (aI (.ofNat 1) a0)) <|
  d1 10 1023 rfl pt25 k298 (aT gt18 (aT gt24 a0)) <|
  d1 11 2047 rfl pt8 oA (aT gt25 a0) <|
  de) rfl rfl rfl) (cS (cR (y1 pt27 (u1 k292 eLoadN rfl (qT gt3)) <|
  sm pt28 (qT gt2) <|
  s1 pt29 (uC rfl h249 (bb (qT gt27) (bb (qT gt28) b0))) <|
  sm pt26 (qT gt29) <|
  y1 pt30 (fEx (qT gt26)) <|
  y1 pt31 (fEx (qT gt26)) <|
  y1 pt32 (fEx (qT gt26)) <|
  sa pt9 (qT gt30) <|
  sa pt10 (qT gt31) <|
  sa pt11 (qT gt32) <|
  se) rfl) (cS (cS (cR (sm pt33 (qT gt9) <|
  sm pt34 (qT gt8) <|
  y1 pt35 (fNc (qT gt34)) <|
  y1 pt36 (u1 k299 eFaddr rfl (qT gt35)) <|
  y1 pt37 (u1 k3 eLoad rfl (qT gt36)) <|
  s1 pt38 (u0 oS (bb (qT gt33) (bb (qT gt37) b0))) <|
  se) rfl) (cC gt38 (cR (sm pt39 (qT gt8) <|
  sm pt40 (qT gt8) <|
  sm pt41 (qT gt9) <|
  y1 pt42 (fNc (qT gt39)) <|
  y1 pt43 (u1 k299 eFaddr rfl (qT gt42)) <|
  y0 (u2 k115 eStore rfl (qT gt43) (qT gt41)) <|
  y1 pt44 (fNc (qT gt40)) <|
  y1 pt45 (u1 k300 eFaddr rfl (qT gt44)) <|
  y0 (u2 k69 eStore rfl (qT gt45) (qI (.ofNat 0))) <|
  se) rfl) cK)) (cS (cS (cR (sm pt46 (qT gt10) <|
  y1 pt47 (u1 k1 eLenSlc rfl (qT gt46)) <|
  y2 pt48 (iEql (qT gt47) (qI (.ofNat 0))) <|
  se) rfl) (cC gt48 cX cK)) (cS (cS (cD mo (d1 0 0 rfl pt81 oM (aT gt8 a0) <|
  d1 1 1 rfl pt82 oC (aT gt81 a0) <|
  d1 2 3 rfl pt83 k300 (aT gt82 a0) <|
  d1 3 7 rfl pt84 k5 (aT gt83 a0) <|
  d1 4 15 rfl pt85 oI (aT gt84 (aI (.ofNat 0) a0)) <|
  d1 5 31 rfl pt86 oM (aT gt85 a0) <|
  e1 6 63 gt86 rfl pt87 oM (aT gt8 a0) rfl <|
  e1 7 127 gt86 rfl pt88 oC (aT gt87 a0) rfl <|
  e1 8 255 gt86 rfl pt89 k300 (aT gt88 a0) rfl <|
  e1 9 511 gt86 rfl pt90 k5 (aT gt89 a0) rfl <|
  e1 10 63 gt86 rfl pt91 oM (aT gt10 a0) rfl <|
  e1 11 1087 gt86 rfl pt92 k1 (aT gt91 a0) rfl <|
  e1 12 3135 gt86 rfl pt93 oI (aI (.ofNat 2) (aT gt92 a0)) rfl <|
  e1 13 8191 gt86 rfl pt94 oI (aT gt90 (aT gt93 a0)) rfl <|
  d1 14 16383 rfl pt95 oP (aT gt86 (aV (.one (.bool true)) rfl (aT gt94 a0))) <|
  d1 15 32767 rfl pt96 oM (aT gt95 a0) <|
  e1 16 65535 gt96 rfl pt97 oM (aT gt1 a0) rfl <|
  e1 17 131071 gt96 rfl pt98 oC (aT gt97 a0) rfl <|
  e1 18 262143 gt96 rfl pt99 k301 (aT gt98 a0) rfl <|
  e1 19 524287 gt96 rfl pt100 k5 (aT gt99 a0) rfl <|
  e1 20 65535 gt96 rfl pt101 k302 (aT gt3 a0) rfl <|
  e1 21 1114111 gt96 rfl pt102 k5 (aT gt101 a0) rfl <|
  e1 22 4194303 gt96 rfl pt103 oI (aT gt100 (aT gt102 a0)) rfl <|
  d1 23 8388607 rfl pt104 oP (aT gt96 (aV (.one (.bool true)) rfl (aT gt103 a0))) <|
  de) rfl rfl rfl) (cC gt104 cX cK)) (cS (cD mo (d1 0 0 rfl pt106 oM (aT gt10 a0) <|
  d1 1 0 rfl pt107 oM (aT gt8 a0) <|
  d1 2 2 rfl pt108 oC (aT gt107 a0) <|
  d1 3 6 rfl pt109 k300 (aT gt108 a0) <|
  d1 4 14 rfl pt110 k5 (aT gt109 a0) <|
  d1 5 0 rfl pt111 oM (aT gt10 a0) <|
  d1 6 32 rfl pt112 k1 (aT gt111 a0) <|
  d1 7 126 rfl pt113 oI (aT gt110 (aT gt112 a0)) <|
  d1 8 255 rfl pt114 k2 (aT gt106 (aT gt113 a0)) <|
  d1 9 511 rfl pt115 k3 (aT gt114 a0) <|
  d1 10 0 rfl pt116 oM (aT gt2 a0) <|
  d1 11 0 rfl pt117 oM (aT gt8 a0) <|
  d1 12 2048 rfl pt118 oC (aT gt117 a0) <|
  d1 13 6144 rfl pt119 k303 (aT gt118 a0) <|
  d1 14 14336 rfl pt120 k49 (aT gt119 a0) <|
  d1 15 30720 rfl pt121 k5 (aT gt120 a0) <|
  d1 16 0 rfl pt122 oM (aT gt8 a0) <|
  d1 17 65536 rfl pt123 oC (aT gt122 a0) <|
  d1 18 196608 rfl pt124 k303 (aT gt123 a0) <|
  d1 19 458752 rfl pt125 k50 (aT gt124 a0) <|
  d1 20 983040 rfl pt126 k5 (aT gt125 a0) <|
  d1 21 2096128 rfl pt127 k104 (aT gt116 (aT gt121 (aT gt126 a0))) <|
  d1 22 0 rfl pt128 oM (aT gt9 a0) <|
  d1 23 8388607 rfl pt129 k304 (aI (.ofNat 0) (aT gt115 (aT gt127 (aT gt128 a0)))) <|
  d1 24 0 rfl pt14 k294 a0 <|
  d0 25 33554431 rfl k305 (aT gt14 (aT gt129 a0)) <|
  de) rfl rfl rfl) (cS (cR (sm pt130 (qT gt8) <|
  y1 pt131 (fNc (qT gt130)) <|
  y1 pt132 (u1 k300 eFaddr rfl (qT gt131)) <|
  y1 pt133 (u1 k5 eLoad rfl (qT gt132)) <|
  y2 pt134 (iAdd (qT gt133) (qI (.ofNat 1))) <|
  y1 pt135 (fNc (qT gt130)) <|
  y1 pt136 (u1 k300 eFaddr rfl (qT gt135)) <|
  y0 (u2 k69 eStore rfl (qT gt136) (qT gt134)) <|
  se) rfl) (cS (cR (sm pt137 (qT gt1) <|
  y1 pt138 (fNc (qT gt137)) <|
  y1 pt139 (u1 k301 eFaddr rfl (qT gt138)) <|
  y1 pt140 (u1 k5 eLoad rfl (qT gt139)) <|
  y2 pt141 (iAdd (qT gt140) (qI (.ofNat 1))) <|
  y1 pt142 (fNc (qT gt137)) <|
  y1 pt143 (u1 k301 eFaddr rfl (qT gt142)) <|
  y0 (u2 k69 eStore rfl (qT gt143) (qT gt141)) <|
  se) rfl) (cS (cR (y1 pt144 (u1 k306 eLoadN rfl (qT gt14)) <|
  y0 (u2 k305 eStore rfl (qT gt6) (qT gt144)) <|
  sa pt7 qB <|
  se) rfl) cT))))))))))
 (rR gt6 underlying199 rfl i199 rfl (rT gt7 r0))⟩
theorem h221 : FnGood Pg 221 g221.1 := g221.2
theorem c221 {d : Option Nat} {ty : TypeId} {pos : String} {af : Array Edge} {g : Option (Nat × Bool)} {x : Operand} {xs : Array Operand} {ats : Array TypeId} : DXOk Pg ⟨d, .call { callee := .value x, args := xs, argTypes := ats }, ty, pos, af, g⟩ (xCallD [(221, g221.1)]) := oG (tb1 h221 tb0)
/- (wellspring/seek.World).step -/
noncomputable def g171 : {X : Xop // FnGood Pg 171 X} := ⟨_, fN' rfl Tryz.func171 (by decide) Tryz.ntmps171 Tryz.results171 rfl
 (cS (cR (s1 pt2 (u0 oX (bb (qT gt0) b0)) <|
  s1 pt4 (u0 k294 b0) <|
  sa pt5 qB <|
  se) rfl) (cS (cR (sm pt8 (qT gt1) <|
  y1 pt9 (fNc (qT gt8)) <|
  y1 pt10 (u1 k295 eFaddr rfl (qT gt9)) <|
  y1 pt11 (u1 k296 eLoad rfl (qT gt10)) <|
  y1 pt12 (u1 k297 eLenSlc rfl (qT gt11)) <|
  sa pt6 (qT gt12) <|
  se) rfl) (cS (cS (cR (sm pt13 (qT gt6) <|
  y2 pt14 (iEql (qT gt13) (qI (.ofNat 0))) <|
  se) rfl) (cC gt14 cX cK)) (cS (cD mo (d1 0 0 rfl pt16 k290 (aT gt2 a0) <|
  d1 1 1 rfl pt17 k164 (aT gt16 a0) <|
  d1 2 0 rfl pt18 k307 (aT gt2 a0) <|
  d1 3 4 rfl pt19 k186 (aT gt18 a0) <|
  d1 4 0 rfl pt20 k291 (aT gt2 a0) <|
  d1 5 16 rfl pt21 k5 (aT gt20 a0) <|
  d1 6 0 rfl pt22 oM (aT gt1 a0) <|
  d1 7 64 rfl pt23 oC (aT gt22 a0) <|
  d1 8 192 rfl pt24 k295 (aT gt23 a0) <|
  d1 9 448 rfl pt25 k296 (aT gt24 a0) <|
  d1 10 0 rfl pt26 oM (aT gt6 a0) <|
  d1 11 1024 rfl pt27 oI (aT gt26 (aI (.ofNat 1) a0)) <|
  d1 12 4032 rfl pt28 k298 (aT gt25 (aT gt27 a0)) <|
  d1 13 8128 rfl pt29 k303 (aT gt28 a0) <|
  d1 14 16320 rfl pt30 k45 (aT gt29 a0) <|
  d1 16 0 rfl pt7 k184 a0 <|
  d1 15 32767 rfl pt31 c17 (aU rfl (aT gt17 (aT gt19 (aT gt21 (aT gt30 a0))))) <|
  d0 17 131071 rfl k189 (aT gt7 (aT gt31 a0)) <|
  de) rfl rfl rfl) (cS (cB (cS (cR (y1 pt33 (u1 k187 eFaddr rfl (qT gt7)) <|
  y1 pt34 (u1 k5 eLoad rfl (qT gt33)) <|
  y2 pt35 (iEql (qT gt34) (qI (.ofNat 3))) <|
  sa pt32 (qT gt35) <|
  se) rfl) (cC gt32 (cS (cR (y1 pt36 (u1 k292 eLoadN rfl (qT gt2)) <|
  sm pt37 (qT gt1) <|
  y1 pt38 (u1 k193 eFaddr rfl (qT gt7)) <|
  y1 pt39 (u1 k3 eLoad rfl (qT gt38)) <|
  s1 pt40 (uC rfl h221 (bb (qT gt36) (bb (qT gt37) (bb (qT gt39) b0)))) <|
  y1 pt41 (fEx (qT gt40)) <|
  y1 pt42 (fEx (qT gt40)) <|
  y0 (u2 k305 eStore rfl (qT gt4) (qT gt41)) <|
  sa pt5 (qT gt42) <|
  se) rfl) cT) (cS (cR (y1 pt44 (u1 k187 eFaddr rfl (qT gt7)) <|
  y1 pt45 (u1 k5 eLoad rfl (qT gt44)) <|
  y2 pt46 (iNeq (qT gt45) (qI (.ofNat 4))) <|
  sm pt47 (qT gt46) <|
  g1 gt47 pt48 (fMv (qT gt6)) rfl <|
  g1 gt47 pt49 (iEql (qT gt48) (qI (.ofNat 1))) rfl <|
  s1 pt50 (uP (qT gt47) (qT gt49) qB) <|
  sa pt43 (qT gt50) <|
  se) rfl) (cC gt43 (cS (cR (y1 pt51 (u1 k188 eLoadN rfl (qT gt7)) <|
  s1 pt52 (u0 k308 (bb (qI (.ofNat 1)) (bb (qT gt51) b0))) <|
  y0 (u2 k305 eStore rfl (qT gt4) (qT gt52)) <|
  sa pt5 qB <|
  se) rfl) cT) cX))))) cX)))))
 (rR gt4 underlying199 rfl i199 rfl (rT gt5 r0))⟩
theorem h171 : FnGood Pg 171 g171.1 := g171.2
theorem c171 {d : Option Nat} {ty : TypeId} {pos : String} {af : Array Edge} {g : Option (Nat × Bool)} {x : Operand} {xs : Array Operand} {ats : Array TypeId} : DXOk Pg ⟨d, .call { callee := .value x, args := xs, argTypes := ats }, ty, pos, af, g⟩ (xCallD [(171, g171.1)]) := oG (tb1 h171 tb0)
/- (wellspring/seek.World).Next -/
noncomputable def g99 : {X : Xop // FnGood Pg 99 X} := ⟨_, fN' rfl Tryz.func99 (by decide) Tryz.ntmps99 Tryz.results99 rfl
 (cS (cR (s1 pt2 (u0 oX (bb (qT gt0) b0)) <|
  s1 pt3 (u0 oX (bb (qT gt1) b0)) <|
  s1 pt4 (u0 k309 b0) <|
  s1 pt5 (u0 k294 b0) <|
  se) rfl) (cS (cR (y1 pt8 (u1 k295 eFaddr rfl (qT gt3)) <|
  y1 pt9 (u1 k296 eLoad rfl (qT gt8)) <|
  s1 pt10 (uC rfl h170 (bb (qT gt9) b0)) <|
  y1 pt11 (u1 k295 eFaddr rfl (qT gt3)) <|
  y0 (u2 k310 eStore rfl (qT gt11) (qT gt10)) <|
  se) rfl) (cB (cO (cB (cS (cR (y1 pt13 (u1 k292 eLoadN rfl (qT gt2)) <|
  s1 pt14 (uC rfl h171 (bb (qT gt13) (bb (qT gt3) b0))) <|
  sm pt12 (qT gt14) <|
  y1 pt15 (fEx (qT gt12)) <|
  y1 pt16 (fEx (qT gt12)) <|
  s1 pt6 (u0 k294 b0) <|
  y0 (u2 k305 eStore rfl (qT gt6) (qT gt15)) <|
  sa pt7 (qT gt16) <|
  se) rfl) (cS (cR (sm pt17 (qT gt7) <|
  se) rfl) (cC gt17 (cS (cD mo (d1 0 0 rfl pt18 k311 (aT gt3 a0) <|
  d1 1 0 rfl pt19 k306 (aT gt6 a0) <|
  d0 2 1 rfl k312 (aT gt4 (aT gt18 a0)) <|
  d0 3 7 rfl k305 (aT gt5 (aT gt19 a0)) <|
  de) rfl rfl rfl) cT) cK))))))))
 (rR gt4 underlying120 rfl i120 rfl (rR gt5 underlying199 rfl i199 rfl r0))⟩
theorem h99 : FnGood Pg 99 g99.1 := g99.2
theorem c99 {d : Option Nat} {ty : TypeId} {pos : String} {af : Array Edge} {g : Option (Nat × Bool)} {x : Operand} {xs : Array Operand} {ats : Array TypeId} : DXOk Pg ⟨d, .call { callee := .value x, args := xs, argTypes := ats }, ty, pos, af, g⟩ (xCallD [(99, g99.1)]) := oG (tb1 h99 tb0)
/- (*wellspring/node.Node).ask$1 -/
noncomputable def g172 : {X : Xop // FnGood Pg 172 X} := ⟨_, fN' rfl Tryz.func172 (by decide) Tryz.ntmps172 Tryz.results172 rfl
 (cS (cR (sa pt3 (qI (.ofNat 0)) <|
  se) rfl) (cS (cS (cR (y1 pt5 (u1 k313 eLoad rfl (qT gt1)) <|
  y1 pt6 (fNc (qT gt5)) <|
  y1 pt7 (u1 k314 eFaddr rfl (qT gt6)) <|
  y1 pt8 (u1 k315 eLoad rfl (qT gt7)) <|
  y1 pt9 (u1 k253 eLenSlc rfl (qT gt8)) <|
  y2 pt10 (iEql (qT gt9) (qI (.ofNat 0))) <|
  se) rfl) (cC gt10 (cS (cR (sa pt3 (qI (.ofNat 0)) <|
  se) rfl) cT) cK)) cX))
 (rT gt3 r0)⟩
theorem h172 : FnGood Pg 172 g172.1 := g172.2
theorem c172 {d : Option Nat} {ty : TypeId} {pos : String} {af : Array Edge} {g : Option (Nat × Bool)} {x : Operand} {xs : Array Operand} {ats : Array TypeId} : DXOk Pg ⟨d, .call { callee := .value x, args := xs, argTypes := ats }, ty, pos, af, g⟩ (xCallD [(172, g172.1)]) := oG (tb1 h172 tb0)
/- wellspring/age.Due -/
noncomputable def g173 : {X : Xop // FnGood Pg 173 X} := ⟨_, fN' rfl Tryz.func173 (by decide) Tryz.ntmps173 Tryz.results173 rfl
 (cS (cR (sa pt4 (qI (.ofNat 0)) <|
  sa pt5 qB <|
  se) rfl) (cS (cS (cR (sm pt6 (qT gt0) <|
  s1 pt7 (uC rfl h182 (bb (qT gt6) (bb (qI (.ofNat 1099511627776)) b0))) <|
  y1 pt8 (fNo (qT gt7)) <|
  sm pt9 (qT gt8) <|
  g1 gt9 pt10 (fMv (qT gt1)) rfl <|
  g1 gt9 pt11 (fMv (qT gt0)) rfl <|
  g1 gt9 pt12 (iSub (qI (.ofNat 1099511627776)) (qT gt11)) rfl <|
  g1 gt9 pt13 (uC rfl h182 (bb (qT gt10) (bb (qT gt12) b0))) rfl <|
  g1 gt9 pt14 (fNo (qT gt13)) rfl <|
  s1 pt15 (uP (qT gt9) qB (qT gt14)) <|
  se) rfl) (cC gt15 cX cK)) (cS (cR (sm pt16 (qT gt0) <|
  sm pt17 (qT gt1) <|
  y2 pt18 (iAdd (qT gt16) (qT gt17)) <|
  sa pt4 (qT gt18) <|
  sa pt5 qB <|
  se) rfl) cT)))
 (rT gt4 (rT gt5 r0))⟩
theorem h173 : FnGood Pg 173 g173.1 := g173.2
theorem c173 {d : Option Nat} {ty : TypeId} {pos : String} {af : Array Edge} {g : Option (Nat × Bool)} {x : Operand} {xs : Array Operand} {ats : Array TypeId} : DXOk Pg ⟨d, .call { callee := .value x, args := xs, argTypes := ats }, ty, pos, af, g⟩ (xCallD [(173, g173.1)]) := oG (tb1 h173 tb0)
/- wellspring/mix.Mix$1 -/
noncomputable def g223 : {X : Xop // FnGood Pg 223 X} := ⟨_, fN' rfl Tryz.func223 (by decide) Tryz.ntmps223 Tryz.results223 rfl
 (cS (cR (y1 pt6 (u1 k5 eLoad rfl (qT gt2)) <|
  sm pt7 (qT gt0) <|
  s1 pt8 (u0 oI (bb (qT gt7) (bb (qI (.ofNat 40)) b0))) <|
  s1 pt9 (u0 (oH (.inr rfl)) (bb (qT gt6) (bb (qT gt8) b0))) <|
  s1 pt10 (u0 oI (bb (qT gt9) (bb (qI (.ofNat 1)) b0))) <|
  y2 pt11 (iEql (qT gt10) (qI (.ofNat 1))) <|
  se) rfl) (cC gt11 cX cK))
 r0⟩
theorem h223 : FnGood Pg 223 g223.1 := g223.2
theorem c223 {d : Option Nat} {ty : TypeId} {pos : String} {af : Array Edge} {g : Option (Nat × Bool)} {x : Operand} {xs : Array Operand} {ats : Array TypeId} : DXOk Pg ⟨d, .call { callee := .value x, args := xs, argTypes := ats }, ty, pos, af, g⟩ (xCallD [(223, g223.1)]) := oG (tb1 h223 tb0)
/- wellspring/mix.great -/
noncomputable def g261 : {X : Xop // FnGood Pg 261 X} := ⟨_, fN' rfl Tryz.func261 (by decide) Tryz.ntmps261 Tryz.results261 rfl
 (cS (cR (sa pt2 qB <|
  se) rfl) (cS (cR (sm pt3 (qT gt0) <|
  s1 pt4 (u0 oI (bb (qT gt3) (bb (qI (.ofNat 65)) b0))) <|
  sm pt5 (qT gt4) <|
  g1 gt5 pt6 (fMv (qT gt0)) rfl <|
  g1 gt5 pt7 (u0 oI (bb (qT gt6) (bb (qI (.ofNat 90)) b0))) rfl <|
  s1 pt8 (uP (qT gt5) (qT gt7) qB) <|
  sa pt2 (qT gt8) <|
  se) rfl) cT))
 (rT gt2 r0)⟩
theorem h261 : FnGood Pg 261 g261.1 := g261.2
theorem c261 {d : Option Nat} {ty : TypeId} {pos : String} {af : Array Edge} {g : Option (Nat × Bool)} {x : Operand} {xs : Array Operand} {ats : Array TypeId} : DXOk Pg ⟨d, .call { callee := .value x, args := xs, argTypes := ats }, ty, pos, af, g⟩ (xCallD [(261, g261.1)]) := oG (tb1 h261 tb0)
/- wellspring/mix.letter -/
noncomputable def g251 : {X : Xop // FnGood Pg 251 X} := ⟨_, fN' rfl Tryz.func251 (by decide) Tryz.ntmps251 Tryz.results251 rfl
 (cS (cR (sa pt2 qB <|
  se) rfl) (cS (cR (sm pt3 (qT gt0) <|
  s1 pt4 (uC rfl h261 (bb (qT gt3) b0)) <|
  sm pt5 (qT gt4) <|
  g1 gt5 pt6 (fMv (qT gt0)) rfl <|
  g1 gt5 pt7 (u0 oI (bb (qT gt6) (bb (qI (.ofNat 32)) b0))) rfl <|
  g1 gt5 pt8 (uC rfl h261 (bb (qT gt7) b0)) rfl <|
  g1 gt5 pt9 (fMv (qT gt8)) rfl <|
  g1 gt9 pt10 (fMv (qT gt0)) rfl <|
  g1 gt9 pt11 (u0 oI (bb (qT gt10) (bb (qI (.ofNat 97)) b0))) rfl <|
  g1 gt5 pt12 (uP (qT gt9) (qT gt11) qB) rfl <|
  s1 pt13 (uP (qT gt5) qB (qT gt12)) <|
  sa pt2 (qT gt13) <|
  se) rfl) cT))
 (rT gt2 r0)⟩
theorem h251 : FnGood Pg 251 g251.1 := g251.2
theorem c251 {d : Option Nat} {ty : TypeId} {pos : String} {af : Array Edge} {g : Option (Nat × Bool)} {x : Operand} {xs : Array Operand} {ats : Array TypeId} : DXOk Pg ⟨d, .call { callee := .value x, args := xs, argTypes := ats }, ty, pos, af, g⟩ (xCallD [(251, g251.1)]) := oG (tb1 h251 tb0)
/- wellspring/mix.each -/
noncomputable def g222 : {X : Xop // FnGood Pg 222 X} := ⟨_, fN' rfl Tryz.func222 (by decide) Tryz.ntmps222 Tryz.results222 rfl
 (cS (cS (cR (sm pt6 (qT gt0) <|
  s1 pt7 (uC rfl h83 (bb (qT gt6) b0)) <|
  y1 pt8 (fNo (qT gt7)) <|
  se) rfl) (cC gt8 cT cK)) (cS (cR (sa pt4 (qI (.ofNat 0)) <|
  se) rfl) (cS (cR (sm pt9 (qT gt0) <|
  y1 pt10 (u1 k0 eLenStr rfl (qT gt9)) <|
  sm pt11 (qI (.ofNat 0)) <|
  se) rfl) (cB (cO (cS (cR (y2 pt12 (iLss (qT gt11) (qT gt10)) <|
  se) rfl) (cS (cC gt12 cK cE) (cS (cB (cS (cR (sm pt13 (qT gt11) <|
  sa pt5 (qT gt13) <|
  se) rfl) (cS (cR (sm pt14 (qT gt0) <|
  sm pt15 (qT gt5) <|
  y2 pt16 (u2 k21 eIndexS rfl (qT gt14) (qT gt15)) <|
  s1 pt17 (uC rfl h251 (bb (qT gt16) b0)) <|
  se) rfl) (cC gt17 (cS (cR (sm pt18 (qT gt1) <|
  sm pt19 (qT gt4) <|
  sm pt20 (qT gt5) <|
  s1 pt21 (u0 c223 (bb (qT gt18) (bb (qT gt19) (bb (qT gt20) b0)))) <|
  se) rfl) (cR (sm pt22 (qT gt4) <|
  y2 pt23 (iAdd (qT gt22) (qI (.ofNat 1))) <|
  sa pt4 (qT gt23) <|
  se) rfl)) cK)))) (cR (y2 pt24 (iAdd (qT gt11) (qI (.ofNat 1))) <|
  sm pt11 (qT gt24) <|
  se) rfl)))))))))
 r0⟩
theorem h222 : FnGood Pg 222 g222.1 := g222.2
theorem c222 {d : Option Nat} {ty : TypeId} {pos : String} {af : Array Edge} {g : Option (Nat × Bool)} {x : Operand} {xs : Array Operand} {ats : Array TypeId} : DXOk Pg ⟨d, .call { callee := .value x, args := xs, argTypes := ats }, ty, pos, af, g⟩ (xCallD [(222, g222.1)]) := oG (tb1 h222 tb0)
/- wellspring/mix.Mix -/
noncomputable def g174 : {X : Xop // FnGood Pg 174 X} := ⟨_, fN' rfl Tryz.func174 (by decide) Tryz.ntmps174 Tryz.results174 rfl
 (cS (cR (s1 pt3 (u0 oX (bb (qT gt1) b0)) <|
  sa pt4 (qV (.one (.str [])) rfl) <|
  se) rfl) (cS (cS (cR (y1 pt6 (u1 k5 eLoad rfl (qT gt3)) <|
  y2 pt7 (iLss (qT gt6) (qI (.ofNat 0))) <|
  sm pt8 (qT gt7) <|
  g1 gt8 pt9 (u1 k5 eLoad rfl (qT gt3)) rfl <|
  g1 gt8 pt10 (iGeq (qT gt9) (qI (.ofNat 1099511627776))) rfl <|
  s1 pt11 (uP (qT gt8) qB (qT gt10)) <|
  se) rfl) (cC gt11 cX cK)) (cS (cR (sm pt12 (qT gt0) <|
  s1 pt13 (uC rfl h36 (bb (qT gt12) b0)) <|
  s1 pt14 (u0 k61 (bb (qT gt13) b0)) <|
  s1 pt5 (u0 k316 b0) <|
  y0 (u2 k102 eStore rfl (qT gt5) (qT gt14)) <|
  se) rfl) (cS (cR (sm pt15 (qT gt0) <|
  s1 pt16 (u0 (oF0 rfl) (bb (qT gt3) (bb (qT gt5) b0))) <|
  s1 pt17 (uC rfl h222 (bb (qT gt15) (bb (qT gt16) b0))) <|
  se) rfl) (cS (cR (y1 pt18 (u1 k87 eLoad rfl (qT gt5)) <|
  s1 pt19 (u0 k60 (bb (qT gt18) b0)) <|
  sa pt4 (qT gt19) <|
  se) rfl) cT)))))
 (rT gt4 r0)⟩
theorem h174 : FnGood Pg 174 g174.1 := g174.2
theorem c174 {d : Option Nat} {ty : TypeId} {pos : String} {af : Array Edge} {g : Option (Nat × Bool)} {x : Operand} {xs : Array Operand} {ats : Array TypeId} : DXOk Pg ⟨d, .call { callee := .value x, args := xs, argTypes := ats }, ty, pos, af, g⟩ (xCallD [(174, g174.1)]) := oG (tb1 h174 tb0)
/- wellspring/name.Same -/
noncomputable def g220 : {X : Xop // FnGood Pg 220 X} := ⟨_, fN' rfl Tryz.func220 (by decide) Tryz.ntmps220 Tryz.results220 rfl
 (cS (cR (sa pt4 qB <|
  se) rfl) (cS (cR (sm pt5 (qT gt0) <|
  s1 pt6 (uC rfl h83 (bb (qT gt5) b0)) <|
  sm pt7 (qT gt6) <|
  g1 gt7 pt8 (fMv (qT gt1)) rfl <|
  g1 gt7 pt9 (uC rfl h83 (bb (qT gt8) b0)) rfl <|
  s1 pt10 (uP (qT gt7) (qT gt9) qB) <|
  sm pt11 (qT gt10) <|
  g1 gt11 pt12 (fMv (qT gt0)) rfl <|
  g1 gt11 pt13 (uC rfl h84 (bb (qT gt12) b0)) rfl <|
  g1 gt11 pt14 (fMv (qT gt1)) rfl <|
  g1 gt11 pt15 (uC rfl h84 (bb (qT gt14) b0)) rfl <|
  g1 gt11 pt16 (u0 oS (bb (qT gt13) (bb (qT gt15) b0))) rfl <|
  s1 pt17 (uP (qT gt11) (qT gt16) qB) <|
  sa pt4 (qT gt17) <|
  se) rfl) cT))
 (rT gt4 r0)⟩
theorem h220 : FnGood Pg 220 g220.1 := g220.2
theorem c220 {d : Option Nat} {ty : TypeId} {pos : String} {af : Array Edge} {g : Option (Nat × Bool)} {x : Operand} {xs : Array Operand} {ats : Array TypeId} : DXOk Pg ⟨d, .call { callee := .value x, args := xs, argTypes := ats }, ty, pos, af, g⟩ (xCallD [(220, g220.1)]) := oG (tb1 h220 tb0)
/- wellspring/comp.place -/
noncomputable def g232 : {X : Xop // FnGood Pg 232 X} := ⟨_, fN' rfl Tryz.func232 (by decide) Tryz.ntmps232 Tryz.results232 rfl
 (cS (cR (sa pt4 (qI (.ofNat 0)) <|
  se) rfl) (cS (cS (cR (sm pt7 (qT gt0) <|
  sa pt5 (qT gt7) <|
  sa pt6 qB <|
  se) rfl) (cB (cO (cS (cS (cR (sm pt8 (qT gt6) <|
  sm pt9 (qT gt8) <|
  g1 gt9 pt10 (fMv (qT gt5)) rfl <|
  g1 gt9 pt11 (u1 k0 eLenStr rfl (qT gt10)) rfl <|
  g1 gt9 pt12 (iGtr (qT gt11) (qI (.ofNat 1))) rfl <|
  s1 pt13 (uP (qT gt9) (qT gt12) qB) <|
  se) rfl) (cC gt13 cK cE)) (cS (cB (cS (cR (sm pt19 (qT gt5) <|
  sm pt20 (qT gt1) <|
  s1 pt21 (uC rfl h220 (bb (qT gt19) (bb (qT gt20) b0))) <|
  se) rfl) (cC gt21 (cS (cR (sm pt22 (qT gt0) <|
  y1 pt23 (u1 k0 eLenStr rfl (qT gt22)) <|
  sm pt24 (qT gt5) <|
  y1 pt25 (u1 k0 eLenStr rfl (qT gt24)) <|
  y2 pt26 (iSub (qT gt23) (qT gt25)) <|
  sa pt4 (qT gt26) <|
  se) rfl) cT) cK))) cX))))) cX))
 (rT gt4 r0)⟩
theorem h232 : FnGood Pg 232 g232.1 := g232.2
theorem c232 {d : Option Nat} {ty : TypeId} {pos : String} {af : Array Edge} {g : Option (Nat × Bool)} {x : Operand} {xs : Array Operand} {ats : Array TypeId} : DXOk Pg ⟨d, .call { callee := .value x, args := xs, argTypes := ats }, ty, pos, af, g⟩ (xCallD [(232, g232.1)]) := oG (tb1 h232 tb0)
/- internal/stringslite.HasSuffix -/
noncomputable def g262 : {X : Xop // FnGood Pg 262 X} := ⟨_, fN' rfl Tryz.func262 (by decide) Tryz.ntmps262 Tryz.results262 rfl
 (cS (cR (sa pt4 qB <|
  se) rfl) (cS (cR (sm pt5 (qT gt0) <|
  y1 pt6 (u1 k0 eLenStr rfl (qT gt5)) <|
  sm pt7 (qT gt1) <|
  y1 pt8 (u1 k0 eLenStr rfl (qT gt7)) <|
  y2 pt9 (iGeq (qT gt6) (qT gt8)) <|
  sm pt10 (qT gt9) <|
  g1 gt10 pt11 (fMv (qT gt0)) rfl <|
  g1 gt10 pt12 (fMv (qT gt0)) rfl <|
  g1 gt10 pt13 (u1 k0 eLenStr rfl (qT gt12)) rfl <|
  g1 gt10 pt14 (fMv (qT gt1)) rfl <|
  g1 gt10 pt15 (u1 k0 eLenStr rfl (qT gt14)) rfl <|
  g1 gt10 pt16 (iSub (qT gt13) (qT gt15)) rfl <|
  g1 gt10 pt17 (u0 k72 (bb (qT gt11) (bb (qT gt16) b0))) rfl <|
  g1 gt10 pt18 (fMv (qT gt1)) rfl <|
  g1 gt10 pt19 (u0 oS (bb (qT gt17) (bb (qT gt18) b0))) rfl <|
  s1 pt20 (uP (qT gt10) (qT gt19) qB) <|
  sa pt4 (qT gt20) <|
  se) rfl) cT))
 (rT gt4 r0)⟩
theorem h262 : FnGood Pg 262 g262.1 := g262.2
theorem c262 {d : Option Nat} {ty : TypeId} {pos : String} {af : Array Edge} {g : Option (Nat × Bool)} {x : Operand} {xs : Array Operand} {ats : Array TypeId} : DXOk Pg ⟨d, .call { callee := .value x, args := xs, argTypes := ats }, ty, pos, af, g⟩ (xCallD [(262, g262.1)]) := oG (tb1 h262 tb0)
/- internal/stringslite.TrimSuffix -/
noncomputable def g253 : {X : Xop // FnGood Pg 253 X} := ⟨_, fN' rfl Tryz.func253 (by decide) Tryz.ntmps253 Tryz.results253 rfl
 (cS (cR (sa pt4 (qV (.one (.str [])) rfl) <|
  se) rfl) (cS (cS (cR (sm pt5 (qT gt0) <|
  sm pt6 (qT gt1) <|
  s1 pt7 (uC rfl h262 (bb (qT gt5) (bb (qT gt6) b0))) <|
  se) rfl) (cC gt7 (cS (cR (sm pt8 (qT gt0) <|
  sm pt9 (qT gt0) <|
  y1 pt10 (u1 k0 eLenStr rfl (qT gt9)) <|
  sm pt11 (qT gt1) <|
  y1 pt12 (u1 k0 eLenStr rfl (qT gt11)) <|
  y2 pt13 (iSub (qT gt10) (qT gt12)) <|
  s1 pt14 (u0 k32 (bb (qT gt8) (bb (qT gt13) b0))) <|
  sa pt4 (qT gt14) <|
  se) rfl) cT) cK)) cX))
 (rT gt4 r0)⟩
theorem h253 : FnGood Pg 253 g253.1 := g253.2
theorem c253 {d : Option Nat} {ty : TypeId} {pos : String} {af : Array Edge} {g : Option (Nat × Bool)} {x : Operand} {xs : Array Operand} {ats : Array TypeId} : DXOk Pg ⟨d, .call { callee := .value x, args := xs, argTypes := ats }, ty, pos, af, g⟩ (xCallD [(253, g253.1)]) := oG (tb1 h253 tb0)
/- strings.TrimSuffix -/
noncomputable def g233 : {X : Xop // FnGood Pg 233 X} := ⟨_, fN' rfl Tryz.func233 (by decide) Tryz.ntmps233 Tryz.results233 rfl
 (cS (cR (sa pt4 (qV (.one (.str [])) rfl) <|
  se) rfl) (cS (cR (sm pt5 (qT gt0) <|
  sm pt6 (qT gt1) <|
  s1 pt7 (uC rfl h253 (bb (qT gt5) (bb (qT gt6) b0))) <|
  sa pt4 (qT gt7) <|
  se) rfl) cT))
 (rT gt4 r0)⟩
theorem h233 : FnGood Pg 233 g233.1 := g233.2
theorem c233 {d : Option Nat} {ty : TypeId} {pos : String} {af : Array Edge} {g : Option (Nat × Bool)} {x : Operand} {xs : Array Operand} {ats : Array TypeId} : DXOk Pg ⟨d, .call { callee := .value x, args := xs, argTypes := ats }, ty, pos, af, g⟩ (xCallD [(233, g233.1)]) := oG (tb1 h233 tb0)
/- wellspring/comp.Write -/
noncomputable def g189 : {X : Xop // FnGood Pg 189 X} := ⟨_, fN' rfl Tryz.func189 (by decide) Tryz.ntmps189 Tryz.results189 rfl
 (cS (cR (sa pt6 (qV (.one (.str [])) rfl) <|
  se) rfl) (cS (cS (cR (sm pt10 (qT gt0) <|
  s1 pt11 (uC rfl h83 (bb (qT gt10) b0)) <|
  y1 pt12 (fNo (qT gt11)) <|
  sm pt13 (qT gt12) <|
  g1 gt13 pt14 (fMv (qT gt2)) rfl <|
  g1 gt13 pt15 (uC rfl h83 (bb (qT gt14) b0)) rfl <|
  g1 gt13 pt16 (fNo (qT gt15)) rfl <|
  s1 pt17 (uP (qT gt13) qB (qT gt16)) <|
  sm pt18 (qT gt17) <|
  g1 gt18 pt19 (fMv (qT gt1)) rfl <|
  g1 gt18 pt20 (iLss (qT gt19) (qI (.ofNat 0))) rfl <|
  s1 pt21 (uP (qT gt18) qB (qT gt20)) <|
  sm pt22 (qT gt21) <|
  g1 gt22 pt23 (fMv (qT gt1)) rfl <|
  g1 gt22 pt24 (iGtr (qT gt23) (qI (.ofNat 16000))) rfl <|
  s1 pt25 (uP (qT gt22) qB (qT gt24)) <|
  se) rfl) (cC gt25 cX cK)) (cS (cS (cR (sm pt26 (qT gt2) <|
  sa pt7 (qT gt26) <|
  sa pt8 qB <|
  se) rfl) (cB (cO (cS (cS (cR (sm pt27 (qT gt8) <|
  sm pt28 (qT gt27) <|
  g1 gt28 pt29 (fMv (qT gt7)) rfl <|
  g1 gt28 pt30 (u1 k0 eLenStr rfl (qT gt29)) rfl <|
  g1 gt28 pt31 (iGtr (qT gt30) (qI (.ofNat 1))) rfl <|
  s1 pt32 (uP (qT gt28) (qT gt31) qB) <|
  se) rfl) (cC gt32 cK cE)) (cS (cB (cS (cR (sm pt38 (qT gt0) <|
  sm pt39 (qT gt7) <|
  s1 pt40 (uC rfl h232 (bb (qT gt38) (bb (qT gt39) b0))) <|
  sa pt9 (qT gt40) <|
  se) rfl) (cS (cR (sm pt41 (qT gt9) <|
  y2 pt42 (iGeq (qT gt41) (qI (.ofNat 0))) <|
  se) rfl) (cC gt42 (cS (cR (sm pt43 (qT gt2) <|
  sm pt44 (qT gt7) <|
  s1 pt45 (uC rfl h233 (bb (qT gt43) (bb (qT gt44) b0))) <|
  sm pt46 (qT gt1) <|
  y2 pt47 (iAdd (qI (.ofNat 49152)) (qT gt46)) <|
  sm pt48 (qT gt9) <|
  y2 pt49 (iAdd (qT gt47) (qT gt48)) <|
  s1 pt50 (uC rfl h142 (bb (qT gt49) (bb (qI (.ofNat 2)) b0))) <|
  s1 pt51 (u0 oS (bb (qT gt45) (bb (qT gt50) b0))) <|
  sa pt6 (qT gt51) <|
  se) rfl) cT) cK)))) cX))))) (cS (cR (sm pt52 (qT gt2) <|
  sa pt6 (qT gt52) <|
  se) rfl) cT))))
 (rT gt6 r0)⟩
theorem h189 : FnGood Pg 189 g189.1 := g189.2
theorem c189 {d : Option Nat} {ty : TypeId} {pos : String} {af : Array Edge} {g : Option (Nat × Bool)} {x : Operand} {xs : Array Operand} {ats : Array TypeId} : DXOk Pg ⟨d, .call { callee := .value x, args := xs, argTypes := ats }, ty, pos, af, g⟩ (xCallD [(189, g189.1)]) := oG (tb1 h189 tb0)
/- wellspring/record.Encode -/
noncomputable def g118 : {X : Xop // FnGood Pg 118 X} := ⟨_, fN' rfl Tryz.func118 (by decide) Tryz.ntmps118 Tryz.results118 rfl
 (cS (cR (s1 pt5 (u0 oX (bb (qT gt2) b0)) <|
  sa pt6 (qV (.one (.str [])) rfl) <|
  se) rfl) (cS (cR (sm pt8 (qT gt0) <|
  sm pt9 (qT gt1) <|
  y1 pt10 (u1 k33 eFaddr rfl (qT gt5)) <|
  y1 pt11 (u1 k3 eLoad rfl (qT gt10)) <|
  s1 pt12 (uC rfl h189 (bb (qT gt8) (bb (qT gt9) (bb (qT gt11) b0)))) <|
  sa pt7 (qT gt12) <|
  se) rfl) (cS (cS (cR (sm pt13 (qT gt7) <|
  s1 pt14 (u0 oS (bb (qT gt13) (bb (qV (.one (.str [])) rfl) b0))) <|
  sm pt15 (qT gt14) <|
  g1 gt15 pt16 (u1 k40 eLoadN rfl (qT gt5)) rfl <|
  g1 gt15 pt17 (uC rfl h190 (bb (qT gt16) b0)) rfl <|
  g1 gt15 pt18 (fNo (qT gt17)) rfl <|
  s1 pt19 (uP (qT gt15) qB (qT gt18)) <|
  se) rfl) (cC gt19 cX cK)) (cS (cD mo (d1 0 0 rfl pt20 oM (aT gt7 a0) <|
  d1 1 0 rfl pt21 k34 (aT gt5 a0) <|
  d1 2 2 rfl pt22 k5 (aT gt21 a0) <|
  d1 5 0 rfl pt25 k35 (aT gt5 a0) <|
  d1 6 32 rfl pt26 k5 (aT gt25 a0) <|
  d1 9 0 rfl pt29 k36 (aT gt5 a0) <|
  d1 10 512 rfl pt30 k5 (aT gt29 a0) <|
  d1 13 0 rfl pt33 k37 (aT gt5 a0) <|
  d1 14 8192 rfl pt34 k3 (aT gt33 a0) <|
  d1 15 24576 rfl pt35 k0 (aT gt34 a0) <|
  d1 18 0 rfl pt38 k37 (aT gt5 a0) <|
  d1 19 262144 rfl pt39 k3 (aT gt38 a0) <|
  d1 3 6 rfl pt23 c142 (aU rfl (aT gt22 (aI (.ofNat 2) a0))) <|
  d1 4 15 rfl pt24 oS (aT gt20 (aT gt23 a0)) <|
  d1 7 110 rfl pt27 c142 (aU rfl (aT gt26 (aI (.ofNat 2) a0))) <|
  d1 8 255 rfl pt28 oS (aT gt24 (aT gt27 a0)) <|
  d1 11 1774 rfl pt31 c142 (aU rfl (aT gt30 (aI (.ofNat 4) a0))) <|
  d1 12 4095 rfl pt32 oS (aT gt28 (aT gt31 a0)) <|
  d1 16 61166 rfl pt36 c142 (aU rfl (aT gt35 (aI (.ofNat 2) a0))) <|
  d1 17 131071 rfl pt37 oS (aT gt32 (aT gt36 a0)) <|
  d1 20 1048575 rfl pt40 oS (aT gt37 (aT gt39 a0)) <|
  d1 21 2097151 rfl pt6 oA (aT gt40 a0) <|
  de) rfl rfl rfl) cT))))
 (rT gt6 r0)⟩
theorem h118 : FnGood Pg 118 g118.1 := g118.2
theorem c118 {d : Option Nat} {ty : TypeId} {pos : String} {af : Array Edge} {g : Option (Nat × Bool)} {x : Operand} {xs : Array Operand} {ats : Array TypeId} : DXOk Pg ⟨d, .call { callee := .value x, args := xs, argTypes := ats }, ty, pos, af, g⟩ (xCallD [(118, g118.1)]) := oG (tb1 h118 tb0)
/- slices.ContainsFunc[[]wellspring/api.Question,wellspring/api.Question] -/
noncomputable def g202 : {X : Xop // FnGood Pg 202 X} := ⟨_, fN' rfl Tryz.func202 (by decide) Tryz.ntmps202 Tryz.results202 rfl
 (cS (cR (sa pt4 qB <|
  se) rfl) (cS (cR (sm pt5 (qT gt0) <|
  sm pt6 (qT gt1) <|
  s1 pt7 (uC rfl h238 (bb (qT gt5) (bb (qT gt6) b0))) <|
  y2 pt8 (iGeq (qT gt7) (qI (.ofNat 0))) <|
  sa pt4 (qT gt8) <|
  se) rfl) cT))
 (rT gt4 r0)⟩
theorem h202 : FnGood Pg 202 g202.1 := g202.2
theorem c202 {d : Option Nat} {ty : TypeId} {pos : String} {af : Array Edge} {g : Option (Nat × Bool)} {x : Operand} {xs : Array Operand} {ats : Array TypeId} : DXOk Pg ⟨d, .call { callee := .value x, args := xs, argTypes := ats }, ty, pos, af, g⟩ (xCallD [(202, g202.1)]) := oG (tb1 h202 tb0)
end Go.Proofs.YtddbhljljmijcaaGreat.V
