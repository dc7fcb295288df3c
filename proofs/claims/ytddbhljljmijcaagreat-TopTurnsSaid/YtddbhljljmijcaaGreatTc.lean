/- Functions of the program, evaluated. -/
import Derived.Test.YtddbhljljmijcaaGreatTb
namespace Go.Proofs.YtddbhljljmijcaaGreat.V
open Go.RowKit Go.Proofs Go.Proofs.Tryz
set_option linter.unusedVariables false
set_option maxRecDepth 100000
/- wellspring/msg.sections -/
noncomputable def g143 : {X : Xop // FnGood Pg 143 X} := ⟨_, fN' rfl Tryz.func143 (by decide) Tryz.ntmps143 Tryz.results143 rfl
 (cS (cR (s1 pt2 (u0 k83 b0) <|
  se) rfl) (cS (cD mo (d1 0 0 rfl pt3 oM (aT gt0 a0) <|
  d1 1 1 rfl pt4 oC (aT gt3 a0) <|
  d1 2 3 rfl pt5 k53 (aT gt4 a0) <|
  d1 3 0 rfl pt6 oM (aT gt0 a0) <|
  d1 4 8 rfl pt7 oC (aT gt6 a0) <|
  d1 5 24 rfl pt8 k55 (aT gt7 a0) <|
  d1 6 0 rfl pt9 oM (aT gt0 a0) <|
  d1 7 64 rfl pt10 oC (aT gt9 a0) <|
  d1 8 192 rfl pt11 k56 (aT gt10 a0) <|
  d1 9 511 rfl pt12 k84 (aT gt5 (aT gt8 (aT gt11 a0))) <|
  d0 10 1023 rfl k85 (aT gt2 (aT gt12 a0)) <|
  de) rfl rfl rfl) cT))
 (rR gt2 underlying257 rfl i257 rfl r0)⟩
theorem h143 : FnGood Pg 143 g143.1 := g143.2
theorem c143 {d : Option Nat} {ty : TypeId} {pos : String} {af : Array Edge} {g : Option (Nat × Bool)} {x : Operand} {xs : Array Operand} {ats : Array TypeId} : DXOk Pg ⟨d, .call { callee := .value x, args := xs, argTypes := ats }, ty, pos, af, g⟩ (xCallD [(143, g143.1)]) := oG (tb1 h143 tb0)
/- wellspring/msg.many -/
noncomputable def g160 : {X : Xop // FnGood Pg 160 X} := ⟨_, fN' rfl Tryz.func160 (by decide) Tryz.ntmps160 Tryz.results160 rfl
 (cS (cR (sa pt4 (qI (.ofNat 0)) <|
  se) rfl) (cS (cR (sm pt8 (qT gt0) <|
  sm pt9 (qT gt1) <|
  y2 pt10 (iMul (qI (.ofNat 2)) (qT gt9)) <|
  y2 pt11 (iAdd (qI (.ofNat 4)) (qT gt10)) <|
  s1 pt12 (uC rfl h149 (bb (qT gt8) (bb (qT gt11) (bb (qI (.ofNat 2)) b0)))) <|
  sm pt7 (qT gt12) <|
  y1 pt13 (fEx (qT gt7)) <|
  y1 pt14 (fEx (qT gt7)) <|
  sa pt5 (qT gt13) <|
  sa pt6 (qT gt14) <|
  se) rfl) (cS (cR (sm pt15 (qT gt5) <|
  sa pt4 (qT gt15) <|
  se) rfl) cT)))
 (rT gt4 r0)⟩
theorem h160 : FnGood Pg 160 g160.1 := g160.2
theorem c160 {d : Option Nat} {ty : TypeId} {pos : String} {af : Array Edge} {g : Option (Nat × Bool)} {x : Operand} {xs : Array Operand} {ats : Array TypeId} : DXOk Pg ⟨d, .call { callee := .value x, args := xs, argTypes := ats }, ty, pos, af, g⟩ (xCallD [(160, g160.1)]) := oG (tb1 h160 tb0)
/- (*strings.Builder).String -/
noncomputable def g136 : {X : Xop // FnGood Pg 136 X} := ⟨_, fN' rfl Tryz.func136 (by decide) Tryz.ntmps136 Tryz.results136 rfl
 (cS (cR (sa pt2 (qV (.one (.str [])) rfl) <|
  se) rfl) (cS (cD mo (d1 0 0 rfl pt3 oM (aT gt0 a0) <|
  d1 1 1 rfl pt4 oC (aT gt3 a0) <|
  d1 2 3 rfl pt5 k86 (aT gt4 a0) <|
  d1 3 7 rfl pt6 k87 (aT gt5 a0) <|
  d1 4 15 rfl pt7 bUD (aT gt6 a0) <|
  d1 5 0 rfl pt8 oM (aT gt0 a0) <|
  d1 6 32 rfl pt9 oC (aT gt8 a0) <|
  d1 7 96 rfl pt10 k86 (aT gt9 a0) <|
  d1 8 224 rfl pt11 k87 (aT gt10 a0) <|
  d1 9 480 rfl pt12 k62 (aT gt11 a0) <|
  d1 10 1023 rfl pt13 k88 (aT gt7 (aT gt12 a0)) <|
  d1 11 2047 rfl pt2 oA (aT gt13 a0) <|
  de) rfl rfl rfl) cT))
 (rT gt2 r0)⟩
theorem h136 : FnGood Pg 136 g136.1 := g136.2
theorem c136 {d : Option Nat} {ty : TypeId} {pos : String} {af : Array Edge} {g : Option (Nat × Bool)} {x : Operand} {xs : Array Operand} {ats : Array TypeId} : DXOk Pg ⟨d, .call { callee := .value x, args := xs, argTypes := ats }, ty, pos, af, g⟩ (xCallD [(136, g136.1)]) := oG (tb1 h136 tb0)
/- (*wellspring/comp.reader).end -/
noncomputable def g239 : {X : Xop // FnGood Pg 239 X} := ⟨_, fN' rfl Tryz.func239 (by decide) Tryz.ntmps239 Tryz.results239 rfl
 (cS (cR (sa pt2 (qV (.one (.str [])) rfl) <|
  sa pt3 (qI (.ofNat 0)) <|
  sa pt4 (qI (.ofNat 0)) <|
  se) rfl) (cS (cS (cR (sm pt5 (qT gt0) <|
  y1 pt6 (fNc (qT gt5)) <|
  y1 pt7 (u1 k89 eFaddr rfl (qT gt6)) <|
  y1 pt8 (u1 k5 eLoad rfl (qT gt7)) <|
  y2 pt9 (iEql (qT gt8) (qI (.negSucc 0))) <|
  se) rfl) (cC gt9 (cR (sm pt10 (qT gt0) <|
  sm pt11 (qT gt0) <|
  y1 pt12 (fNc (qT gt11)) <|
  y1 pt13 (u1 k90 eFaddr rfl (qT gt12)) <|
  y1 pt14 (u1 k5 eLoad rfl (qT gt13)) <|
  y2 pt15 (iAdd (qT gt14) (qI (.ofNat 1))) <|
  y1 pt16 (fNc (qT gt10)) <|
  y1 pt17 (u1 k89 eFaddr rfl (qT gt16)) <|
  y0 (u2 k69 eStore rfl (qT gt17) (qT gt15)) <|
  se) rfl) cK)) (cS (cD mo (d1 0 0 rfl pt18 oM (aT gt0 a0) <|
  d1 1 1 rfl pt19 oC (aT gt18 a0) <|
  d1 2 3 rfl pt20 k91 (aT gt19 a0) <|
  d1 5 0 rfl pt23 oM (aT gt0 a0) <|
  d1 6 32 rfl pt24 oC (aT gt23 a0) <|
  d1 7 96 rfl pt25 k89 (aT gt24 a0) <|
  d1 8 224 rfl pt26 k5 (aT gt25 a0) <|
  d1 3 7 rfl pt21 c136 (aU rfl (aT gt20 a0)) <|
  d1 4 15 rfl pt22 oS (aT gt21 (aV (.one (.str [0])) rfl a0)) <|
  d1 9 31 rfl pt2 oA (aT gt22 a0) <|
  d1 10 1023 rfl pt3 oA (aT gt26 a0) <|
  d1 11 2047 rfl pt4 oA (aI (.ofNat 0) a0) <|
  de) rfl rfl rfl) cT)))
 (rT gt2 (rT gt3 (rT gt4 r0)))⟩
theorem h239 : FnGood Pg 239 g239.1 := g239.2
theorem c239 {d : Option Nat} {ty : TypeId} {pos : String} {af : Array Edge} {g : Option (Nat × Bool)} {x : Operand} {xs : Array Operand} {ats : Array TypeId} : DXOk Pg ⟨d, .call { callee := .value x, args := xs, argTypes := ats }, ty, pos, af, g⟩ (xCallD [(239, g239.1)]) := oG (tb1 h239 tb0)
/- (*wellspring/comp.reader).follow -/
noncomputable def g240 : {X : Xop // FnGood Pg 240 X} := ⟨_, fN' rfl Tryz.func240 (by decide) Tryz.ntmps240 Tryz.results240 rfl
 (cS (cR (sa pt2 (qI (.ofNat 0)) <|
  se) rfl) (cS (cD mo (d1 0 0 rfl pt6 oM (aT gt0 a0) <|
  d1 1 1 rfl pt7 oC (aT gt6 a0) <|
  d1 2 3 rfl pt8 k92 (aT gt7 a0) <|
  d1 3 7 rfl pt9 k3 (aT gt8 a0) <|
  d1 4 0 rfl pt10 oM (aT gt0 a0) <|
  d1 5 16 rfl pt11 oC (aT gt10 a0) <|
  d1 6 48 rfl pt12 k90 (aT gt11 a0) <|
  d1 7 112 rfl pt13 k5 (aT gt12 a0) <|
  d1 8 255 rfl pt14 c149 (aU rfl (aT gt9 (aT gt13 (aI (.ofNat 2) a0)))) <|
  d1 9 511 rfl pt5 oM (aT gt14 a0) <|
  d1 10 1023 rfl pt15 oE (aT gt5 a0) <|
  d1 11 1023 rfl pt16 oE (aT gt5 a0) <|
  d1 12 2047 rfl pt3 oA (aT gt15 a0) <|
  d1 13 8191 rfl pt4 oA (aT gt16 a0) <|
  de) rfl rfl rfl) (cS (cB (cS (cR (sm pt18 (qT gt4) <|
  y1 pt19 (fNo (qT gt18)) <|
  sa pt17 (qT gt19) <|
  se) rfl) (cC gt17 cX (cS (cR (sm pt21 (qT gt3) <|
  y2 pt22 (iSub (qT gt21) (qI (.ofNat 49152))) <|
  sm pt23 (qT gt0) <|
  y1 pt24 (fNc (qT gt23)) <|
  y1 pt25 (u1 k93 eFaddr rfl (qT gt24)) <|
  y1 pt26 (u1 k5 eLoad rfl (qT gt25)) <|
  y2 pt27 (iGeq (qT gt22) (qT gt26)) <|
  sa pt20 (qT gt27) <|
  se) rfl) (cC gt20 cX cK))))) (cS (cS (cR (sm pt28 (qT gt0) <|
  y1 pt29 (fNc (qT gt28)) <|
  y1 pt30 (u1 k89 eFaddr rfl (qT gt29)) <|
  y1 pt31 (u1 k5 eLoad rfl (qT gt30)) <|
  y2 pt32 (iEql (qT gt31) (qI (.negSucc 0))) <|
  se) rfl) (cC gt32 (cR (sm pt33 (qT gt0) <|
  sm pt34 (qT gt0) <|
  y1 pt35 (fNc (qT gt34)) <|
  y1 pt36 (u1 k90 eFaddr rfl (qT gt35)) <|
  y1 pt37 (u1 k5 eLoad rfl (qT gt36)) <|
  y2 pt38 (iAdd (qT gt37) (qI (.ofNat 2))) <|
  y1 pt39 (fNc (qT gt33)) <|
  y1 pt40 (u1 k89 eFaddr rfl (qT gt39)) <|
  y0 (u2 k69 eStore rfl (qT gt40) (qT gt38)) <|
  se) rfl) cK)) (cS (cR (sm pt41 (qT gt0) <|
  sm pt42 (qT gt0) <|
  sm pt43 (qT gt3) <|
  y2 pt44 (iSub (qT gt43) (qI (.ofNat 49152))) <|
  sm pt45 (qT gt3) <|
  y2 pt46 (iSub (qT gt45) (qI (.ofNat 49152))) <|
  y1 pt47 (fNc (qT gt41)) <|
  y1 pt48 (u1 k90 eFaddr rfl (qT gt47)) <|
  y0 (u2 k69 eStore rfl (qT gt48) (qT gt44)) <|
  y1 pt49 (fNc (qT gt42)) <|
  y1 pt50 (u1 k93 eFaddr rfl (qT gt49)) <|
  y0 (u2 k69 eStore rfl (qT gt50) (qT gt46)) <|
  se) rfl) (cS (cR (sa pt2 (qI (.ofNat 0)) <|
  se) rfl) cT))))))
 (rT gt2 r0)⟩
theorem h240 : FnGood Pg 240 g240.1 := g240.2
theorem c240 {d : Option Nat} {ty : TypeId} {pos : String} {af : Array Edge} {g : Option (Nat × Bool)} {x : Operand} {xs : Array Operand} {ats : Array TypeId} : DXOk Pg ⟨d, .call { callee := .value x, args := xs, argTypes := ats }, ty, pos, af, g⟩ (xCallD [(240, g240.1)]) := oG (tb1 h240 tb0)
/- internal/abi.NoEscape -/
noncomputable def g236 : {X : Xop // FnGood Pg 236 X} := ⟨_, good_same Tryz.func236 rfl rfl rfl rfl (by decide) (fun V w => rfl)⟩
theorem h236 : FnGood Pg 236 g236.1 := g236.2
theorem c236 {d : Option Nat} {ty : TypeId} {pos : String} {af : Array Edge} {g : Option (Nat × Bool)} {x : Operand} {xs : Array Operand} {ats : Array TypeId} : DXOk Pg ⟨d, .call { callee := .value x, args := xs, argTypes := ats }, ty, pos, af, g⟩ (xCallD [(236, g236.1)]) := oG (tb1 h236 tb0)
/- (*strings.Builder).copyCheck -/
noncomputable def g195 : {X : Xop // FnGood Pg 195 X} := ⟨_, fN' rfl Tryz.func195 (by decide) Tryz.ntmps195 Tryz.results195 rfl
 (cS (cR (sm pt2 (qT gt0) <|
  y1 pt3 (fNc (qT gt2)) <|
  y1 pt4 (u1 k94 eFaddr rfl (qT gt3)) <|
  y1 pt5 (u1 k95 eLoad rfl (qT gt4)) <|
  s1 pt6 (u0 k96 (bb (qT gt5) (bb (qV (.one (.nilp)) rfl) b0))) <|
  se) rfl) (cC gt6 (cR (sm pt7 (qT gt0) <|
  sm pt8 (qT gt0) <|
  s1 pt9 (u0 k97 (bb (qT gt8) b0)) <|
  s1 pt10 (uC rfl h236 (bb (qT gt9) b0)) <|
  s1 pt11 (u0 k98 (bb (qT gt10) b0)) <|
  y1 pt12 (fNc (qT gt7)) <|
  y1 pt13 (u1 k94 eFaddr rfl (qT gt12)) <|
  y0 (u2 k99 eStore rfl (qT gt13) (qT gt11)) <|
  se) rfl) (cS (cR (sm pt14 (qT gt0) <|
  y1 pt15 (fNc (qT gt14)) <|
  y1 pt16 (u1 k94 eFaddr rfl (qT gt15)) <|
  y1 pt17 (u1 k95 eLoad rfl (qT gt16)) <|
  sm pt18 (qT gt0) <|
  s1 pt19 (u0 k100 (bb (qT gt17) (bb (qT gt18) b0))) <|
  se) rfl) (cC gt19 cX cK))))
 r0⟩
theorem h195 : FnGood Pg 195 g195.1 := g195.2
theorem c195 {d : Option Nat} {ty : TypeId} {pos : String} {af : Array Edge} {g : Option (Nat × Bool)} {x : Operand} {xs : Array Operand} {ats : Array TypeId} : DXOk Pg ⟨d, .call { callee := .value x, args := xs, argTypes := ats }, ty, pos, af, g⟩ (xCallD [(195, g195.1)]) := oG (tb1 h195 tb0)
/- (*strings.Builder).WriteString -/
noncomputable def g133 : {X : Xop // FnGood Pg 133 X} := ⟨_, fN' rfl Tryz.func133 (by decide) Tryz.ntmps133 Tryz.results133 rfl
 (cS (cR (sa pt4 (qI (.ofNat 0)) <|
  sa pt5 (qV .any rfl) <|
  se) rfl) (cS (cR (sm pt6 (qT gt0) <|
  s1 pt7 (uC rfl h195 (bb (qT gt6) b0)) <|
  se) rfl) (cS (cR (sm pt8 (qT gt0) <|
  sm pt9 (qT gt0) <|
  y1 pt10 (fNc (qT gt9)) <|
  y1 pt11 (u1 k86 eFaddr rfl (qT gt10)) <|
  y1 pt12 (u1 k87 eLoad rfl (qT gt11)) <|
  sm pt13 (qT gt1) <|
  s1 pt14 (u0 k101 (bb (qT gt12) (bb (qT gt13) b0))) <|
  y1 pt15 (fNc (qT gt8)) <|
  y1 pt16 (u1 k86 eFaddr rfl (qT gt15)) <|
  y0 (u2 k102 eStore rfl (qT gt16) (qT gt14)) <|
  se) rfl) (cS (cR (sm pt17 (qT gt1) <|
  y1 pt18 (u1 k0 eLenStr rfl (qT gt17)) <|
  sa pt4 (qT gt18) <|
  sa pt5 (qV .any rfl) <|
  se) rfl) cT))))
 (rT gt4 (rT gt5 r0))⟩
theorem h133 : FnGood Pg 133 g133.1 := g133.2
theorem c133 {d : Option Nat} {ty : TypeId} {pos : String} {af : Array Edge} {g : Option (Nat × Bool)} {x : Operand} {xs : Array Operand} {ats : Array TypeId} : DXOk Pg ⟨d, .call { callee := .value x, args := xs, argTypes := ats }, ty, pos, af, g⟩ (xCallD [(133, g133.1)]) := oG (tb1 h133 tb0)
/- (*strings.Builder).Len -/
noncomputable def g254 : {X : Xop // FnGood Pg 254 X} := ⟨_, fN' rfl Tryz.func254 (by decide) Tryz.ntmps254 Tryz.results254 rfl
 (cS (cR (sa pt2 (qI (.ofNat 0)) <|
  se) rfl) (cS (cR (sm pt3 (qT gt0) <|
  y1 pt4 (fNc (qT gt3)) <|
  y1 pt5 (u1 k86 eFaddr rfl (qT gt4)) <|
  y1 pt6 (u1 k87 eLoad rfl (qT gt5)) <|
  y1 pt7 (u1 k62 eLenSlc rfl (qT gt6)) <|
  sa pt2 (qT gt7) <|
  se) rfl) cT))
 (rT gt2 r0)⟩
theorem h254 : FnGood Pg 254 g254.1 := g254.2
theorem c254 {d : Option Nat} {ty : TypeId} {pos : String} {af : Array Edge} {g : Option (Nat × Bool)} {x : Operand} {xs : Array Operand} {ats : Array TypeId} : DXOk Pg ⟨d, .call { callee := .value x, args := xs, argTypes := ats }, ty, pos, af, g⟩ (xCallD [(254, g254.1)]) := oG (tb1 h254 tb0)
/- (*wellspring/comp.reader).label -/
noncomputable def g241 : {X : Xop // FnGood Pg 241 X} := ⟨_, fN' rfl Tryz.func241 (by decide) Tryz.ntmps241 Tryz.results241 rfl
 (cS (cR (sa pt4 (qI (.ofNat 0)) <|
  se) rfl) (cS (cD mo (d1 0 0 rfl pt8 oM (aT gt0 a0) <|
  d1 1 1 rfl pt9 oC (aT gt8 a0) <|
  d1 2 3 rfl pt10 k92 (aT gt9 a0) <|
  d1 3 7 rfl pt11 k3 (aT gt10 a0) <|
  d1 4 0 rfl pt12 oM (aT gt0 a0) <|
  d1 5 16 rfl pt13 oC (aT gt12 a0) <|
  d1 6 48 rfl pt14 k90 (aT gt13 a0) <|
  d1 7 112 rfl pt15 k5 (aT gt14 a0) <|
  d1 8 0 rfl pt16 oM (aT gt1 a0) <|
  d1 9 256 rfl pt17 oI (aI (.ofNat 1) (aT gt16 a0)) <|
  d1 10 1023 rfl pt18 c205 (aU rfl (aT gt11 (aT gt15 (aT gt17 a0)))) <|
  d1 11 2047 rfl pt7 oM (aT gt18 a0) <|
  d1 12 4095 rfl pt19 oE (aT gt7 a0) <|
  d1 13 4095 rfl pt20 oE (aT gt7 a0) <|
  d1 14 8191 rfl pt5 oA (aT gt19 a0) <|
  d1 15 32767 rfl pt6 oA (aT gt20 a0) <|
  de) rfl rfl rfl) (cS (cB (cS (cR (sm pt22 (qT gt6) <|
  y1 pt23 (fNo (qT gt22)) <|
  sa pt21 (qT gt23) <|
  se) rfl) (cC gt21 cX (cS (cR (sm pt25 (qT gt0) <|
  y1 pt26 (fNc (qT gt25)) <|
  y1 pt27 (u1 k91 eFaddr rfl (qT gt26)) <|
  s1 pt28 (uC rfl h254 (bb (qT gt27) b0)) <|
  sm pt29 (qT gt5) <|
  y1 pt30 (u1 k0 eLenStr rfl (qT gt29)) <|
  y2 pt31 (iAdd (qT gt28) (qT gt30)) <|
  y2 pt32 (iGeq (qT gt31) (qI (.ofNat 255))) <|
  sa pt24 (qT gt32) <|
  se) rfl) (cC gt24 cX cK))))) (cS (cR (sm pt33 (qT gt0) <|
  y1 pt34 (fNc (qT gt33)) <|
  y1 pt35 (u1 k91 eFaddr rfl (qT gt34)) <|
  sm pt36 (qT gt5) <|
  s1 pt37 (uC rfl h133 (bb (qT gt35) (bb (qT gt36) b0))) <|
  se) rfl) (cS (cR (sm pt38 (qT gt0) <|
  y1 pt39 (fNc (qT gt38)) <|
  y1 pt40 (u1 k90 eFaddr rfl (qT gt39)) <|
  y1 pt41 (u1 k5 eLoad rfl (qT gt40)) <|
  sm pt42 (qT gt5) <|
  y1 pt43 (u1 k0 eLenStr rfl (qT gt42)) <|
  y2 pt44 (iAdd (qT gt41) (qT gt43)) <|
  y1 pt45 (fNc (qT gt38)) <|
  y1 pt46 (u1 k90 eFaddr rfl (qT gt45)) <|
  y0 (u2 k69 eStore rfl (qT gt46) (qT gt44)) <|
  se) rfl) (cS (cR (sa pt4 (qI (.ofNat 0)) <|
  se) rfl) cT))))))
 (rT gt4 r0)⟩
theorem h241 : FnGood Pg 241 g241.1 := g241.2
theorem c241 {d : Option Nat} {ty : TypeId} {pos : String} {af : Array Edge} {g : Option (Nat × Bool)} {x : Operand} {xs : Array Operand} {ats : Array TypeId} : DXOk Pg ⟨d, .call { callee := .value x, args := xs, argTypes := ats }, ty, pos, af, g⟩ (xCallD [(241, g241.1)]) := oG (tb1 h241 tb0)
/- wellspring/comp.Read -/
noncomputable def g209 : {X : Xop // FnGood Pg 209 X} := ⟨_, fN' rfl Tryz.func209 (by decide) Tryz.ntmps209 Tryz.results209 rfl
 (cS (cR (sa pt4 (qV (.one (.str [])) rfl) <|
  sa pt5 (qI (.ofNat 0)) <|
  sa pt6 (qI (.ofNat 0)) <|
  se) rfl) (cP (cS (cR (sm pt11 (qT gt0) <|
  sm pt12 (qT gt1) <|
  sm pt13 (qT gt1) <|
  s1 pt14 (u0 k103 (bb (qT gt11) (bb (qT gt12) (bb (qT gt13) (bb (qI (.negSucc 0)) b0))))) <|
  s1 pt15 (u0 (oXT 6 rfl) (bb (qT gt14) b0)) <|
  sa pt7 (qT gt15) <|
  se) rfl) (cS (cR (sa pt8 (qI (.ofNat 0)) <|
  se) rfl) (cS cL (cS (cB (cO (cS (cS (cR (sm pt16 (qT gt8) <|
  y2 pt17 (iEql (qT gt16) (qI (.ofNat 0))) <|
  se) rfl) (cC gt17 cK cE)) (cB (cS (cD mo (d1 0 0 rfl pt19 oM (aT gt7 a0) <|
  d1 1 1 rfl pt20 oC (aT gt19 a0) <|
  d1 2 3 rfl pt21 k92 (aT gt20 a0) <|
  d1 3 7 rfl pt22 k3 (aT gt21 a0) <|
  d1 4 0 rfl pt23 oM (aT gt7 a0) <|
  d1 5 16 rfl pt24 oC (aT gt23 a0) <|
  d1 6 48 rfl pt25 k90 (aT gt24 a0) <|
  d1 7 112 rfl pt26 k5 (aT gt25 a0) <|
  d1 8 255 rfl pt27 c149 (aU rfl (aT gt22 (aT gt26 (aI (.ofNat 1) a0)))) <|
  d1 9 511 rfl pt18 oM (aT gt27 a0) <|
  d1 10 1023 rfl pt28 oE (aT gt18 a0) <|
  d1 11 1023 rfl pt29 oE (aT gt18 a0) <|
  d1 12 2047 rfl pt9 oA (aT gt28 a0) <|
  d1 13 8191 rfl pt10 oA (aT gt29 a0) <|
  de) rfl rfl rfl) (cB (cS (cR (sm pt34 (qT gt10) <|
  y1 pt35 (fNo (qT gt34)) <|
  sa pt33 (qT gt35) <|
  se) rfl) (cC gt33 cX (cS (cR (sm pt37 (qT gt9) <|
  y2 pt38 (iEql (qT gt37) (qI (.ofNat 0))) <|
  sa pt36 (qT gt38) <|
  se) rfl) (cC gt36 (cS (cR (sm pt39 (qT gt7) <|
  s1 pt40 (uC rfl h239 (bb (qT gt39) b0)) <|
  y1 pt41 (fEx (qT gt40)) <|
  y1 pt42 (fEx (qT gt40)) <|
  y1 pt43 (fEx (qT gt40)) <|
  sa pt4 (qT gt41) <|
  sa pt5 (qT gt42) <|
  sa pt6 (qT gt43) <|
  se) rfl) cT) (cS (cR (sm pt45 (qT gt9) <|
  y2 pt46 (iGeq (qT gt45) (qI (.ofNat 192))) <|
  sa pt44 (qT gt46) <|
  se) rfl) (cC gt44 (cR (sm pt47 (qT gt7) <|
  s1 pt48 (uC rfl h240 (bb (qT gt47) b0)) <|
  sa pt8 (qT gt48) <|
  se) rfl) (cS (cR (sm pt50 (qT gt9) <|
  y2 pt51 (iGtr (qT gt50) (qI (.ofNat 63))) <|
  sa pt49 (qT gt51) <|
  se) rfl) (cC gt49 cX (cR (sm pt30 (qT gt7) <|
  sm pt31 (qT gt9) <|
  s1 pt32 (uC rfl h241 (bb (qT gt30) (bb (qT gt31) b0))) <|
  sa pt8 (qT gt32) <|
  se) rfl))))))))))))))) cX))))))
 (rT gt4 (rT gt5 (rT gt6 r0)))⟩
theorem h209 : FnGood Pg 209 g209.1 := g209.2
theorem c209 {d : Option Nat} {ty : TypeId} {pos : String} {af : Array Edge} {g : Option (Nat × Bool)} {x : Operand} {xs : Array Operand} {ats : Array TypeId} : DXOk Pg ⟨d, .call { callee := .value x, args := xs, argTypes := ats }, ty, pos, af, g⟩ (xCallD [(209, g209.1)]) := oG (tb1 h209 tb0)
/- wellspring/msg.question -/
noncomputable def g161 : {X : Xop // FnGood Pg 161 X} := ⟨_, fN' rfl Tryz.func161 (by decide) Tryz.ntmps161 Tryz.results161 rfl
 (cS (cR (s1 pt4 (u0 k46 b0) <|
  sa pt5 (qI (.ofNat 0)) <|
  sa pt6 (qI (.ofNat 0)) <|
  se) rfl) (cS (cR (sm pt15 (qT gt0) <|
  sm pt16 (qT gt1) <|
  s1 pt17 (uC rfl h209 (bb (qT gt15) (bb (qT gt16) b0))) <|
  sm pt14 (qT gt17) <|
  y1 pt18 (fEx (qT gt14)) <|
  y1 pt19 (fEx (qT gt14)) <|
  y1 pt20 (fEx (qT gt14)) <|
  sa pt7 (qT gt18) <|
  sa pt8 (qT gt19) <|
  sa pt9 (qT gt20) <|
  se) rfl) (cS (cS (cR (sm pt21 (qT gt9) <|
  y2 pt22 (iNeq (qT gt21) (qI (.ofNat 0))) <|
  se) rfl) (cC gt22 cX cK)) (cS (cR (sm pt26 (qT gt0) <|
  sm pt27 (qT gt8) <|
  s1 pt28 (uC rfl h149 (bb (qT gt26) (bb (qT gt27) (bb (qI (.ofNat 2)) b0)))) <|
  sm pt25 (qT gt28) <|
  y1 pt29 (fEx (qT gt25)) <|
  y1 pt30 (fEx (qT gt25)) <|
  sa pt10 (qT gt29) <|
  sa pt11 (qT gt30) <|
  se) rfl) (cS (cR (sm pt32 (qT gt0) <|
  sm pt33 (qT gt8) <|
  y2 pt34 (iAdd (qT gt33) (qI (.ofNat 2))) <|
  s1 pt35 (uC rfl h149 (bb (qT gt32) (bb (qT gt34) (bb (qI (.ofNat 2)) b0)))) <|
  sm pt31 (qT gt35) <|
  y1 pt36 (fEx (qT gt31)) <|
  y1 pt37 (fEx (qT gt31)) <|
  sa pt12 (qT gt36) <|
  sa pt13 (qT gt37) <|
  se) rfl) (cS (cS (cR (sm pt38 (qT gt13) <|
  y1 pt39 (fNo (qT gt38)) <|
  se) rfl) (cC gt39 cX cK)) (cS (cR (sm pt41 (qT gt7) <|
  sm pt42 (qT gt10) <|
  sm pt43 (qT gt12) <|
  s1 pt44 (u0 k104 (bb (qT gt41) (bb (qT gt42) (bb (qT gt43) b0)))) <|
  sm pt45 (qT gt8) <|
  y2 pt46 (iAdd (qT gt45) (qI (.ofNat 4))) <|
  y0 (u2 k47 eStore rfl (qT gt4) (qT gt44)) <|
  sa pt5 (qT gt46) <|
  sa pt6 (qI (.ofNat 0)) <|
  se) rfl) cT)))))))
 (rR gt4 underlying31 rfl i31 rfl (rT gt5 (rT gt6 r0)))⟩
theorem h161 : FnGood Pg 161 g161.1 := g161.2
theorem c161 {d : Option Nat} {ty : TypeId} {pos : String} {af : Array Edge} {g : Option (Nat × Bool)} {x : Operand} {xs : Array Operand} {ats : Array TypeId} : DXOk Pg ⟨d, .call { callee := .value x, args := xs, argTypes := ats }, ty, pos, af, g⟩ (xCallD [(161, g161.1)]) := oG (tb1 h161 tb0)
/- (*wellspring/record.reader).number -/
noncomputable def g210 : {X : Xop // FnGood Pg 210 X} := ⟨_, fN' rfl Tryz.func210 (by decide) Tryz.ntmps210 Tryz.results210 rfl
 (cS (cR (sa pt4 (qI (.ofNat 0)) <|
  se) rfl) (cS (cD mo (d1 0 0 rfl pt8 oM (aT gt0 a0) <|
  d1 1 1 rfl pt9 oC (aT gt8 a0) <|
  d1 2 3 rfl pt10 k105 (aT gt9 a0) <|
  d1 3 7 rfl pt11 k3 (aT gt10 a0) <|
  d1 4 0 rfl pt12 oM (aT gt0 a0) <|
  d1 5 16 rfl pt13 oC (aT gt12 a0) <|
  d1 6 48 rfl pt14 k106 (aT gt13 a0) <|
  d1 7 112 rfl pt15 k5 (aT gt14 a0) <|
  d1 8 0 rfl pt16 oM (aT gt1 a0) <|
  d1 9 511 rfl pt17 c149 (aU rfl (aT gt11 (aT gt15 (aT gt16 a0)))) <|
  d1 10 1023 rfl pt7 oM (aT gt17 a0) <|
  d1 11 2047 rfl pt18 oE (aT gt7 a0) <|
  d1 12 2047 rfl pt19 oE (aT gt7 a0) <|
  d1 13 4095 rfl pt5 oA (aT gt18 a0) <|
  d1 14 16383 rfl pt6 oA (aT gt19 a0) <|
  de) rfl rfl rfl) (cS (cR (sm pt20 (qT gt0) <|
  y1 pt21 (fNc (qT gt20)) <|
  y1 pt22 (u1 k106 eFaddr rfl (qT gt21)) <|
  y1 pt23 (u1 k5 eLoad rfl (qT gt22)) <|
  sm pt24 (qT gt1) <|
  y2 pt25 (iAdd (qT gt23) (qT gt24)) <|
  y1 pt26 (fNc (qT gt20)) <|
  y1 pt27 (u1 k106 eFaddr rfl (qT gt26)) <|
  y0 (u2 k69 eStore rfl (qT gt27) (qT gt25)) <|
  se) rfl) (cS (cR (sm pt28 (qT gt0) <|
  sm pt29 (qT gt0) <|
  y1 pt30 (fNc (qT gt29)) <|
  y1 pt31 (u1 k107 eFaddr rfl (qT gt30)) <|
  y1 pt32 (u1 k108 eLoad rfl (qT gt31)) <|
  sm pt33 (qT gt32) <|
  g1 gt33 pt34 (fMv (qT gt6)) rfl <|
  g1 gt33 pt35 (fNo (qT gt34)) rfl <|
  s1 pt36 (uP (qT gt33) qB (qT gt35)) <|
  y1 pt37 (fNc (qT gt28)) <|
  y1 pt38 (u1 k107 eFaddr rfl (qT gt37)) <|
  y0 (u2 k109 eStore rfl (qT gt38) (qT gt36)) <|
  se) rfl) (cS (cR (sm pt39 (qT gt5) <|
  sa pt4 (qT gt39) <|
  se) rfl) cT)))))
 (rT gt4 r0)⟩
theorem h210 : FnGood Pg 210 g210.1 := g210.2
theorem c210 {d : Option Nat} {ty : TypeId} {pos : String} {af : Array Edge} {g : Option (Nat × Bool)} {x : Operand} {xs : Array Operand} {ats : Array TypeId} : DXOk Pg ⟨d, .call { callee := .value x, args := xs, argTypes := ats }, ty, pos, af, g⟩ (xCallD [(210, g210.1)]) := oG (tb1 h210 tb0)
/- wellspring/data.shapes -/
noncomputable def g242 : {X : Xop // FnGood Pg 242 X} := ⟨_, fN' rfl Tryz.func242 (by decide) Tryz.ntmps242 Tryz.results242 rfl
 (cS (cR (sa pt0 (qV (.one (.nilm)) rfl) <|
  se) rfl) (cS (cR (s1 pt1 (u0 oZ b0) <|
  s1 pt2 (u0 k110 (bb (qI (.ofNat 4)) (bb (qI (.ofNat 0)) (bb (qI (.ofNat 0)) b0)))) <|
  s0 (u0 k111 (bb (qT gt1) (bb (qI (.ofNat 1)) (bb (qT gt2) b0)))) <|
  s1 pt3 (u0 k110 (bb (qI (.ofNat 16)) (bb (qI (.ofNat 0)) (bb (qI (.ofNat 0)) b0)))) <|
  s0 (u0 k111 (bb (qT gt1) (bb (qI (.ofNat 28)) (bb (qT gt3) b0)))) <|
  s1 pt4 (u0 k110 (bb (qI (.ofNat 0)) (bb (qI (.ofNat 1)) (bb (qI (.ofNat 0)) b0)))) <|
  s0 (u0 k111 (bb (qT gt1) (bb (qI (.ofNat 2)) (bb (qT gt4) b0)))) <|
  s1 pt5 (u0 k110 (bb (qI (.ofNat 0)) (bb (qI (.ofNat 1)) (bb (qI (.ofNat 0)) b0)))) <|
  s0 (u0 k111 (bb (qT gt1) (bb (qI (.ofNat 5)) (bb (qT gt5) b0)))) <|
  s1 pt6 (u0 k110 (bb (qI (.ofNat 0)) (bb (qI (.ofNat 1)) (bb (qI (.ofNat 0)) b0)))) <|
  s0 (u0 k111 (bb (qT gt1) (bb (qI (.ofNat 12)) (bb (qT gt6) b0)))) <|
  s1 pt7 (u0 k110 (bb (qI (.ofNat 0)) (bb (qI (.ofNat 2)) (bb (qI (.ofNat 20)) b0)))) <|
  s0 (u0 k111 (bb (qT gt1) (bb (qI (.ofNat 6)) (bb (qT gt7) b0)))) <|
  s1 pt8 (u0 k110 (bb (qI (.ofNat 2)) (bb (qI (.ofNat 1)) (bb (qI (.ofNat 0)) b0)))) <|
  s0 (u0 k111 (bb (qT gt1) (bb (qI (.ofNat 15)) (bb (qT gt8) b0)))) <|
  s1 pt9 (u0 k110 (bb (qI (.ofNat 6)) (bb (qI (.ofNat 1)) (bb (qI (.ofNat 0)) b0)))) <|
  s0 (u0 k111 (bb (qT gt1) (bb (qI (.ofNat 33)) (bb (qT gt9) b0)))) <|
  sm pt10 (qT gt1) <|
  sa pt0 (qT gt10) <|
  se) rfl) cT))
 (rT gt0 r0)⟩
theorem h242 : FnGood Pg 242 g242.1 := g242.2
theorem c242 {d : Option Nat} {ty : TypeId} {pos : String} {af : Array Edge} {g : Option (Nat × Bool)} {x : Operand} {xs : Array Operand} {ats : Array TypeId} : DXOk Pg ⟨d, .call { callee := .value x, args := xs, argTypes := ats }, ty, pos, af, g⟩ (xCallD [(242, g242.1)]) := oG (tb1 h242 tb0)
/- wellspring/data.read -/
noncomputable def g243 : {X : Xop // FnGood Pg 243 X} := ⟨_, fN' rfl Tryz.func243 (by decide) Tryz.ntmps243 Tryz.results243 rfl
 (cS (cR (s1 pt7 (u0 oX (bb (qT gt3) b0)) <|
  s1 pt8 (u0 k112 b0) <|
  sa pt9 qB <|
  se) rfl) (cS (cR (s1 pt10 (u0 k112 b0) <|
  se) rfl) (cS (cR (y1 pt15 (u1 k113 eFaddr rfl (qT gt7)) <|
  y1 pt16 (u1 k5 eLoad rfl (qT gt15)) <|
  sm pt17 (qT gt2) <|
  sm pt18 (qT gt1) <|
  y2 pt19 (iSub (qT gt17) (qT gt18)) <|
  y2 pt20 (iLeq (qT gt16) (qT gt19)) <|
  sa pt11 (qT gt20) <|
  se) rfl) (cS (cS (cR (sm pt21 (qT gt11) <|
  y1 pt22 (fNo (qT gt21)) <|
  se) rfl) (cC gt22 cX cK)) (cS (cR (sm pt24 (qT gt0) <|
  sm pt25 (qT gt1) <|
  sm pt26 (qT gt1) <|
  y1 pt27 (u1 k113 eFaddr rfl (qT gt7)) <|
  y1 pt28 (u1 k5 eLoad rfl (qT gt27)) <|
  y2 pt29 (iAdd (qT gt26) (qT gt28)) <|
  s1 pt30 (u0 k23 (bb (qT gt24) (bb (qT gt25) (bb (qT gt29) b0)))) <|
  y1 pt31 (u1 k114 eFaddr rfl (qT gt10)) <|
  y0 (u2 k115 eStore rfl (qT gt31) (qT gt30)) <|
  se) rfl) (cS (cR (sm pt32 (qT gt1) <|
  y1 pt33 (u1 k113 eFaddr rfl (qT gt7)) <|
  y1 pt34 (u1 k5 eLoad rfl (qT gt33)) <|
  y2 pt35 (iAdd (qT gt32) (qT gt34)) <|
  sa pt1 (qT gt35) <|
  se) rfl) (cS (cS (cR (y1 pt36 (u1 k116 eFaddr rfl (qT gt7)) <|
  y1 pt37 (u1 k5 eLoad rfl (qT gt36)) <|
  sm pt38 (qI (.ofNat 0)) <|
  se) rfl) (cB (cO (cS (cR (y2 pt39 (iLss (qT gt38) (qT gt37)) <|
  se) rfl) (cS (cC gt39 cK cE) cX))))) (cS (cR (sm pt63 (qT gt0) <|
  sm pt64 (qT gt1) <|
  sm pt65 (qT gt2) <|
  s1 pt66 (u0 k23 (bb (qT gt63) (bb (qT gt64) (bb (qT gt65) b0)))) <|
  y1 pt67 (u1 k117 eFaddr rfl (qT gt10)) <|
  y0 (u2 k115 eStore rfl (qT gt67) (qT gt66)) <|
  se) rfl) (cS (cD mo (d1 0 0 rfl pt68 k118 (aT gt10 a0) <|
  d1 1 0 rfl pt69 k117 (aT gt10 a0) <|
  d1 2 2 rfl pt70 k3 (aT gt69 a0) <|
  d1 3 6 rfl pt71 k0 (aT gt70 a0) <|
  d1 4 0 rfl pt72 k119 (aT gt7 a0) <|
  d1 5 16 rfl pt73 k5 (aT gt72 a0) <|
  d1 6 62 rfl pt74 oI (aT gt71 (aT gt73 a0)) <|
  d0 7 1 rfl k120 (aT gt8 (aT gt68 a0)) <|
  d1 8 255 rfl pt9 oA (aT gt74 a0) <|
  de) rfl rfl rfl) cT)))))))))
 (rR gt8 underlying338 rfl i338 rfl (rT gt9 r0))⟩
theorem h243 : FnGood Pg 243 g243.1 := g243.2
theorem c243 {d : Option Nat} {ty : TypeId} {pos : String} {af : Array Edge} {g : Option (Nat × Bool)} {x : Operand} {xs : Array Operand} {ats : Array TypeId} : DXOk Pg ⟨d, .call { callee := .value x, args := xs, argTypes := ats }, ty, pos, af, g⟩ (xCallD [(243, g243.1)]) := oG (tb1 h243 tb0)
/- strings.Join -/
noncomputable def g255 : {X : Xop // FnGood Pg 255 X} := ⟨_, fN' rfl Tryz.func255 (by decide) Tryz.ntmps255 Tryz.results255 rfl
 (cS (cR (sa pt4 (qV (.one (.str [])) rfl) <|
  se) rfl) (cS (cS (cR (sm pt11 (qT gt0) <|
  y1 pt12 (u1 k1 eLenSlc rfl (qT gt11)) <|
  se) rfl) (cB (cS (cR (y2 pt14 (iEql (qT gt12) (qI (.ofNat 0))) <|
  sa pt13 (qT gt14) <|
  se) rfl) (cC gt13 (cS (cR (sa pt4 (qV (.one (.str [])) rfl) <|
  se) rfl) cT) cX)))) cX))
 (rT gt4 r0)⟩
theorem h255 : FnGood Pg 255 g255.1 := g255.2
theorem c255 {d : Option Nat} {ty : TypeId} {pos : String} {af : Array Edge} {g : Option (Nat × Bool)} {x : Operand} {xs : Array Operand} {ats : Array TypeId} : DXOk Pg ⟨d, .call { callee := .value x, args := xs, argTypes := ats }, ty, pos, af, g⟩ (xCallD [(255, g255.1)]) := oG (tb1 h255 tb0)
/- (wellspring/data.parts).whole -/
noncomputable def g244 : {X : Xop // FnGood Pg 244 X} := ⟨_, fN' rfl Tryz.func244 (by decide) Tryz.ntmps244 Tryz.results244 rfl
 (cS (cR (s1 pt1 (u0 oX (bb (qT gt0) b0)) <|
  sa pt2 (qV (.one (.str [])) rfl) <|
  se) rfl) (cS (cD mo (d1 0 0 rfl pt3 k114 (aT gt1 a0) <|
  d1 1 1 rfl pt4 k3 (aT gt3 a0) <|
  d1 2 0 rfl pt5 k121 (aT gt1 a0) <|
  d1 3 4 rfl pt6 k12 (aT gt5 a0) <|
  d1 6 0 rfl pt9 k117 (aT gt1 a0) <|
  d1 7 64 rfl pt10 k3 (aT gt9 a0) <|
  d1 4 12 rfl pt7 c255 (aU rfl (aT gt6 (aV (.one (.str [])) rfl a0))) <|
  d1 5 31 rfl pt8 oS (aT gt4 (aT gt7 a0)) <|
  d1 8 255 rfl pt11 oS (aT gt8 (aT gt10 a0)) <|
  d1 9 511 rfl pt2 oA (aT gt11 a0) <|
  de) rfl rfl rfl) cT))
 (rT gt2 r0)⟩
theorem h244 : FnGood Pg 244 g244.1 := g244.2
theorem c244 {d : Option Nat} {ty : TypeId} {pos : String} {af : Array Edge} {g : Option (Nat × Bool)} {x : Operand} {xs : Array Operand} {ats : Array TypeId} : DXOk Pg ⟨d, .call { callee := .value x, args := xs, argTypes := ats }, ty, pos, af, g⟩ (xCallD [(244, g244.1)]) := oG (tb1 h244 tb0)
/- wellspring/data.Expand -/
noncomputable def g211 : {X : Xop // FnGood Pg 211 X} := ⟨_, fN' rfl Tryz.func211 (by decide) Tryz.ntmps211 Tryz.results211 rfl
 (cS (cR (sa pt8 (qV (.one (.str [])) rfl) <|
  sa pt9 (qI (.ofNat 0)) <|
  se) rfl) (cS (cR (sm pt17 (qT gt0) <|
  sm pt18 (qT gt1) <|
  sm pt19 (qT gt2) <|
  s1 pt20 (uC rfl h205 (bb (qT gt17) (bb (qT gt18) (bb (qT gt19) b0)))) <|
  sm pt16 (qT gt20) <|
  y1 pt21 (fEx (qT gt16)) <|
  y1 pt22 (fEx (qT gt16)) <|
  sa pt10 (qT gt21) <|
  sa pt11 (qT gt22) <|
  se) rfl) (cS (cS (cR (sm pt23 (qT gt11) <|
  y1 pt24 (fNo (qT gt23)) <|
  se) rfl) (cC gt24 cX cK)) (cS (cS (cR (s1 pt26 (uC rfl h242 b0) <|
  sm pt27 (qT gt3) <|
  s1 pt28 (u0 k122 (bb (qT gt26) (bb (qT gt27) b0))) <|
  sm pt25 (qT gt28) <|
  y1 pt29 (fEx (qT gt25)) <|
  y1 pt30 (fEx (qT gt25)) <|
  s1 pt12 (u0 k123 b0) <|
  y0 (u2 k124 eStore rfl (qT gt12) (qT gt29)) <|
  sa pt13 (qT gt30) <|
  se) rfl) (cS (cR (sm pt31 (qT gt13) <|
  se) rfl) (cC gt31 (cS (cR (sm pt33 (qT gt0) <|
  sm pt34 (qT gt1) <|
  sm pt35 (qT gt1) <|
  sm pt36 (qT gt2) <|
  y2 pt37 (iAdd (qT gt35) (qT gt36)) <|
  y1 pt38 (u1 k125 eLoadN rfl (qT gt12)) <|
  s1 pt39 (uC rfl h243 (bb (qT gt33) (bb (qT gt34) (bb (qT gt37) (bb (qT gt38) b0))))) <|
  sm pt32 (qT gt39) <|
  y1 pt40 (fEx (qT gt32)) <|
  y1 pt41 (fEx (qT gt32)) <|
  s1 pt14 (u0 k112 b0) <|
  y0 (u2 k120 eStore rfl (qT gt14) (qT gt40)) <|
  sa pt15 (qT gt41) <|
  se) rfl) (cR (y1 pt42 (u1 k118 eLoadN rfl (qT gt14)) <|
  s1 pt43 (uC rfl h244 (bb (qT gt42) b0)) <|
  sm pt44 (qT gt15) <|
  sa pt10 (qT gt43) <|
  sa pt11 (qT gt44) <|
  se) rfl)) cK))) (cS (cS (cR (sm pt45 (qT gt11) <|
  y1 pt46 (fNo (qT gt45)) <|
  sm pt47 (qT gt46) <|
  g1 gt47 pt48 (fMv (qT gt3)) rfl <|
  g1 gt47 pt49 (iEql (qT gt48) (qI (.ofNat 16))) rfl <|
  g1 gt47 pt50 (fMv (qT gt49)) rfl <|
  g1 gt50 pt51 (fMv (qT gt10)) rfl <|
  g1 gt50 pt52 (u0 (oG tb0) (bb (qU rfl) (bb (qT gt51) b0))) rfl <|
  g1 gt50 pt53 (fNo (qT gt52)) rfl <|
  g1 gt47 pt54 (uP (qT gt50) (qT gt53) qB) rfl <|
  s1 pt55 (uP (qT gt47) qB (qT gt54)) <|
  sm pt56 (qT gt55) <|
  g1 gt56 pt57 (fMv (qT gt10)) rfl <|
  g1 gt56 pt58 (u1 k0 eLenStr rfl (qT gt57)) rfl <|
  g1 gt56 pt59 (iGtr (qT gt58) (qI (.ofNat 65535))) rfl <|
  s1 pt60 (uP (qT gt56) qB (qT gt59)) <|
  se) rfl) (cC gt60 cX cK)) (cS (cR (sm pt61 (qT gt10) <|
  sa pt8 (qT gt61) <|
  sa pt9 (qI (.ofNat 0)) <|
  se) rfl) cT))))))
 (rT gt8 (rT gt9 r0))⟩
theorem h211 : FnGood Pg 211 g211.1 := g211.2
theorem c211 {d : Option Nat} {ty : TypeId} {pos : String} {af : Array Edge} {g : Option (Nat × Bool)} {x : Operand} {xs : Array Operand} {ats : Array TypeId} : DXOk Pg ⟨d, .call { callee := .value x, args := xs, argTypes := ats }, ty, pos, af, g⟩ (xCallD [(211, g211.1)]) := oG (tb1 h211 tb0)
/- wellspring/record.Decode -/
noncomputable def g162 : {X : Xop // FnGood Pg 162 X} := ⟨_, fN' rfl Tryz.func162 (by decide) Tryz.ntmps162 Tryz.results162 rfl
 (cS (cR (s1 pt4 (u0 k126 b0) <|
  sa pt5 (qI (.ofNat 0)) <|
  sa pt6 (qI (.ofNat 0)) <|
  se) rfl) (cS (cR (sm pt15 (qT gt0) <|
  sm pt16 (qT gt1) <|
  s1 pt17 (uC rfl h209 (bb (qT gt15) (bb (qT gt16) b0))) <|
  sm pt14 (qT gt17) <|
  y1 pt18 (fEx (qT gt14)) <|
  y1 pt19 (fEx (qT gt14)) <|
  y1 pt20 (fEx (qT gt14)) <|
  sa pt7 (qT gt18) <|
  sa pt8 (qT gt19) <|
  sa pt9 (qT gt20) <|
  se) rfl) (cS (cS (cR (sm pt21 (qT gt9) <|
  y2 pt22 (iNeq (qT gt21) (qI (.ofNat 0))) <|
  se) rfl) (cC gt22 cX cK)) (cS (cR (sm pt25 (qT gt0) <|
  sm pt26 (qT gt8) <|
  s1 pt27 (u0 k127 (bb (qT gt25) (bb (qT gt26) b0))) <|
  s1 pt28 (u0 oX (bb (qT gt27) b0)) <|
  sa pt10 (qT gt28) <|
  se) rfl) (cS (cR (sm pt29 (qT gt10) <|
  s1 pt30 (u0 (oF1 rfl) (bb (qT gt29) b0)) <|
  sa pt11 (qT gt30) <|
  se) rfl) (cS (cR (sm pt31 (qT gt7) <|
  sm pt32 (qT gt11) <|
  s1 pt33 (u0 c210 (bb (qT gt32) (bb (qI (.ofNat 2)) b0))) <|
  sm pt34 (qT gt11) <|
  s1 pt35 (u0 c210 (bb (qT gt34) (bb (qI (.ofNat 2)) b0))) <|
  sm pt36 (qT gt11) <|
  s1 pt37 (u0 c210 (bb (qT gt36) (bb (qI (.ofNat 4)) b0))) <|
  s1 pt38 (u0 k128 (bb (qT gt31) (bb (qT gt33) (bb (qT gt35) (bb (qT gt37) b0))))) <|
  s1 pt12 (u0 k126 b0) <|
  y0 (u2 k129 eStore rfl (qT gt12) (qT gt38)) <|
  se) rfl) (cS (cR (sm pt39 (qT gt11) <|
  s1 pt40 (u0 c210 (bb (qT gt39) (bb (qI (.ofNat 2)) b0))) <|
  sa pt13 (qT gt40) <|
  se) rfl) (cS (cS (cR (sm pt41 (qT gt10) <|
  y1 pt42 (fNc (qT gt41)) <|
  y1 pt43 (u1 k107 eFaddr rfl (qT gt42)) <|
  y1 pt44 (u1 k108 eLoad rfl (qT gt43)) <|
  se) rfl) (cC gt44 cX cK)) (cS (cS (cR (y1 pt46 (u1 k36 eFaddr rfl (qT gt12)) <|
  y1 pt47 (u1 k5 eLoad rfl (qT gt46)) <|
  y2 pt48 (iGtr (qT gt47) (qI (.ofNat 2147483647))) <|
  se) rfl) (cC gt48 cX cK)) (cS (cS (cD mo (d1 0 0 rfl pt51 oM (aT gt0 a0) <|
  d1 1 0 rfl pt52 oM (aT gt10 a0) <|
  d1 2 2 rfl pt53 oC (aT gt52 a0) <|
  d1 3 6 rfl pt54 k106 (aT gt53 a0) <|
  d1 4 14 rfl pt55 k5 (aT gt54 a0) <|
  d1 5 0 rfl pt56 oM (aT gt13 a0) <|
  d1 6 0 rfl pt57 k34 (aT gt12 a0) <|
  d1 7 64 rfl pt58 k5 (aT gt57 a0) <|
  d1 8 255 rfl pt59 c211 (aU rfl (aT gt51 (aT gt55 (aT gt56 (aT gt58 a0))))) <|
  d1 9 511 rfl pt50 oM (aT gt59 a0) <|
  d1 10 1023 rfl pt60 oE (aT gt50 a0) <|
  d1 11 1023 rfl pt61 oE (aT gt50 a0) <|
  d1 12 2047 rfl pt62 k37 (aT gt12 a0) <|
  d0 13 6143 rfl k115 (aT gt62 (aT gt60 a0)) <|
  d1 14 16383 rfl pt9 oA (aT gt61 a0) <|
  de) rfl rfl rfl) (cS (cR (sm pt63 (qT gt9) <|
  y2 pt64 (iNeq (qT gt63) (qI (.ofNat 0))) <|
  se) rfl) (cC gt64 cX cK))) (cS (cD mo (d1 0 0 rfl pt67 k40 (aT gt12 a0) <|
  d1 1 0 rfl pt68 oM (aT gt10 a0) <|
  d1 2 2 rfl pt69 oC (aT gt68 a0) <|
  d1 3 6 rfl pt70 k106 (aT gt69 a0) <|
  d1 4 14 rfl pt71 k5 (aT gt70 a0) <|
  d1 5 0 rfl pt72 oM (aT gt13 a0) <|
  d1 6 62 rfl pt73 oI (aT gt71 (aT gt72 a0)) <|
  d0 7 1 rfl k129 (aT gt4 (aT gt67 a0)) <|
  d1 8 255 rfl pt5 oA (aT gt73 a0) <|
  d1 9 511 rfl pt6 oA (aI (.ofNat 0) a0) <|
  de) rfl rfl rfl) cT)))))))))))
 (rR gt4 underlying40 rfl i40 rfl (rT gt5 (rT gt6 r0)))⟩
theorem h162 : FnGood Pg 162 g162.1 := g162.2
theorem c162 {d : Option Nat} {ty : TypeId} {pos : String} {af : Array Edge} {g : Option (Nat × Bool)} {x : Operand} {xs : Array Operand} {ats : Array TypeId} : DXOk Pg ⟨d, .call { callee := .value x, args := xs, argTypes := ats }, ty, pos, af, g⟩ (xCallD [(162, g162.1)]) := oG (tb1 h162 tb0)
/- wellspring/msg.Decode -/
noncomputable def g91 : {X : Xop // FnGood Pg 91 X} := ⟨_, fN' rfl Tryz.func91 (by decide) Tryz.ntmps91 Tryz.results91 rfl
 (cS (cR (s1 pt2 (u0 k130 b0) <|
  sa pt3 (qI (.ofNat 0)) <|
  se) rfl) (cS (cR (sm pt18 (qT gt0) <|
  s1 pt19 (uC rfl h80 (bb (qT gt18) b0)) <|
  sm pt17 (qT gt19) <|
  y1 pt20 (fEx (qT gt17)) <|
  y1 pt21 (fEx (qT gt17)) <|
  y1 pt22 (fEx (qT gt17)) <|
  sa pt4 (qT gt20) <|
  sa pt5 (qT gt21) <|
  sa pt6 (qT gt22) <|
  se) rfl) (cS (cB (cS (cR (sm pt24 (qT gt0) <|
  y1 pt25 (u1 k0 eLenStr rfl (qT gt24)) <|
  y2 pt26 (iGtr (qT gt25) (qI (.ofNat 65535))) <|
  sa pt23 (qT gt26) <|
  se) rfl) (cC gt23 cX (cS (cR (sm pt29 (qT gt6) <|
  y1 pt30 (fNo (qT gt29)) <|
  sa pt28 (qT gt30) <|
  se) rfl) (cC gt28 cX cK))))) (cS (cR (sm pt32 (qT gt4) <|
  sm pt33 (qT gt5) <|
  s1 pt34 (u0 k131 (bb (qT gt32) (bb (qT gt33) b0))) <|
  s1 pt7 (u0 k130 b0) <|
  y0 (u2 k132 eStore rfl (qT gt7) (qT gt34)) <|
  se) rfl) (cS (cR (sa pt8 (qI (.ofNat 12)) <|
  se) rfl) (cS (cS (cR (sm pt35 (qT gt0) <|
  s1 pt36 (uC rfl h160 (bb (qT gt35) (bb (qI (.ofNat 0)) b0))) <|
  sm pt37 (qI (.ofNat 0)) <|
  se) rfl) (cB (cO (cS (cR (y2 pt38 (iLss (qT gt37) (qT gt36)) <|
  se) rfl) (cS (cC gt38 cK cE) (cS (cB (cS (cR (sm pt40 (qT gt0) <|
  sm pt41 (qT gt8) <|
  s1 pt42 (uC rfl h161 (bb (qT gt40) (bb (qT gt41) b0))) <|
  sm pt39 (qT gt42) <|
  y1 pt43 (fEx (qT gt39)) <|
  y1 pt44 (fEx (qT gt39)) <|
  y1 pt45 (fEx (qT gt39)) <|
  s1 pt9 (u0 k46 b0) <|
  y0 (u2 k47 eStore rfl (qT gt9) (qT gt43)) <|
  sa pt10 (qT gt44) <|
  sa pt11 (qT gt45) <|
  se) rfl) (cS (cS (cR (sm pt46 (qT gt11) <|
  y2 pt47 (iNeq (qT gt46) (qI (.ofNat 0))) <|
  se) rfl) (cC gt47 cX cK)) (cR (y1 pt50 (u1 k41 eFaddr rfl (qT gt7)) <|
  y1 pt51 (u1 k42 eLoad rfl (qT gt50)) <|
  y1 pt52 (u1 k45 eLoadN rfl (qT gt9)) <|
  s1 pt53 (u0 k133 (bb (qT gt52) b0)) <|
  s1 pt54 (u0 k134 (bb (qT gt51) (bb (qT gt53) b0))) <|
  sm pt55 (qT gt10) <|
  y1 pt56 (u1 k41 eFaddr rfl (qT gt7)) <|
  y0 (u2 k135 eStore rfl (qT gt56) (qT gt54)) <|
  sa pt8 (qT gt55) <|
  se) rfl)))) (cR (y2 pt57 (iAdd (qT gt37) (qI (.ofNat 1))) <|
  sm pt37 (qT gt57) <|
  se) rfl))))))) (cS (cS (cR (s1 pt58 (uC rfl h143 (bb (qT gt7) b0)) <|
  sm pt59 (qI (.ofNat 0)) <|
  se) rfl) (cB (cO (cS (cR (y2 pt60 (iLss (qT gt59) (qI (.ofNat 3))) <|
  se) rfl) (cS (cC gt60 cK cE) (cS (cB (cS (cR (sm pt61 (qT gt59) <|
  s1 pt62 (u0 k136 (bb (qT gt58) (bb (qT gt59) b0))) <|
  sa pt12 (qT gt61) <|
  sa pt13 (qT gt62) <|
  se) rfl) (cS (cR (sm pt63 (qT gt0) <|
  sm pt64 (qT gt12) <|
  y2 pt65 (iAdd (qI (.ofNat 1)) (qT gt64)) <|
  s1 pt66 (uC rfl h160 (bb (qT gt63) (bb (qT gt65) b0))) <|
  sm pt67 (qI (.ofNat 0)) <|
  se) rfl) (cB (cO (cS (cR (y2 pt68 (iLss (qT gt67) (qT gt66)) <|
  se) rfl) (cS (cC gt68 cK cE) (cS (cB (cS (cR (sm pt70 (qT gt0) <|
  sm pt71 (qT gt8) <|
  s1 pt72 (uC rfl h162 (bb (qT gt70) (bb (qT gt71) b0))) <|
  sm pt69 (qT gt72) <|
  y1 pt73 (fEx (qT gt69)) <|
  y1 pt74 (fEx (qT gt69)) <|
  y1 pt75 (fEx (qT gt69)) <|
  s1 pt14 (u0 k126 b0) <|
  y0 (u2 k129 eStore rfl (qT gt14) (qT gt73)) <|
  sa pt15 (qT gt74) <|
  sa pt16 (qT gt75) <|
  se) rfl) (cS (cS (cR (sm pt76 (qT gt16) <|
  y2 pt77 (iNeq (qT gt76) (qI (.ofNat 0))) <|
  se) rfl) (cC gt77 cX cK)) (cD mo (d1 0 0 rfl pt80 oM (aT gt13 a0) <|
  d1 1 0 rfl pt81 oM (aT gt13 a0) <|
  d1 2 2 rfl pt82 oC (aT gt81 a0) <|
  d1 3 6 rfl pt83 k54 (aT gt82 a0) <|
  d1 4 0 rfl pt84 k40 (aT gt14 a0) <|
  d1 5 16 rfl pt85 k137 (aT gt84 a0) <|
  d1 7 0 rfl pt87 oM (aT gt15 a0) <|
  d1 6 62 rfl pt86 k66 (aT gt83 (aT gt85 a0)) <|
  d1 8 127 rfl pt88 oC (aT gt80 a0) <|
  d0 9 383 rfl k138 (aT gt88 (aT gt86 a0)) <|
  d1 10 1023 rfl pt8 oA (aT gt87 a0) <|
  de) rfl rfl rfl)))) (cR (y2 pt89 (iAdd (qT gt67) (qI (.ofNat 1))) <|
  sm pt67 (qT gt89) <|
  se) rfl))))))))) (cR (y2 pt90 (iAdd (qT gt59) (qI (.ofNat 1))) <|
  sm pt59 (qT gt90) <|
  se) rfl))))))) (cS (cS (cR (sm pt91 (qT gt8) <|
  sm pt92 (qT gt0) <|
  y1 pt93 (u1 k0 eLenStr rfl (qT gt92)) <|
  y2 pt94 (iNeq (qT gt91) (qT gt93)) <|
  se) rfl) (cC gt94 cX cK)) (cS (cR (y1 pt96 (u1 k65 eLoadN rfl (qT gt7)) <|
  y0 (u2 k132 eStore rfl (qT gt2) (qT gt96)) <|
  sa pt3 (qI (.ofNat 0)) <|
  se) rfl) cT)))))))))
 (rR gt2 underlying37 rfl i37 rfl (rT gt3 r0))⟩
theorem h91 : FnGood Pg 91 g91.1 := g91.2
theorem c91 {d : Option Nat} {ty : TypeId} {pos : String} {af : Array Edge} {g : Option (Nat × Bool)} {x : Operand} {xs : Array Operand} {ats : Array TypeId} : DXOk Pg ⟨d, .call { callee := .value x, args := xs, argTypes := ats }, ty, pos, af, g⟩ (xCallD [(91, g91.1)]) := oG (tb1 h91 tb0)
/- wellspring/name.split -/
noncomputable def g151 : {X : Xop // FnGood Pg 151 X} := ⟨_, fN' rfl Tryz.func151 (by decide) Tryz.ntmps151 Tryz.results151 rfl
 (cS (cR (sa pt2 (qV (.one (.nils)) rfl) <|
  sa pt3 qB <|
  se) rfl) (cS (cS (cR (sm pt6 (qT gt0) <|
  y1 pt7 (u1 k0 eLenStr rfl (qT gt6)) <|
  y2 pt8 (iGtr (qT gt7) (qI (.ofNat 255))) <|
  se) rfl) (cC gt8 cX cK)) (cS (cR (sa pt4 (qV (.one (.nils)) rfl) <|
  se) rfl) (cS (cB (cO (cS (cS (cR (sm pt9 (qT gt0) <|
  y1 pt10 (u1 k0 eLenStr rfl (qT gt9)) <|
  y2 pt11 (iGtr (qT gt10) (qI (.ofNat 0))) <|
  sm pt12 (qT gt11) <|
  g1 gt12 pt13 (fMv (qT gt0)) rfl <|
  g1 gt12 pt14 (u0 oS (bb (qT gt13) (bb (qV (.one (.str [0])) rfl) b0))) rfl <|
  s1 pt15 (uP (qT gt12) (qT gt14) qB) <|
  se) rfl) (cC gt15 cK cE)) (cB (cS (cR (sm pt16 (qT gt0) <|
  y2 pt17 (u2 k21 eIndexS rfl (qT gt16) (qI (.ofNat 0))) <|
  y1 pt18 (u1 k22 eCvt rfl (qT gt17)) <|
  sa pt5 (qT gt18) <|
  se) rfl) (cS (cS (cR (sm pt19 (qT gt5) <|
  y2 pt20 (iLss (qT gt19) (qI (.ofNat 1))) <|
  sm pt21 (qT gt20) <|
  g1 gt21 pt22 (fMv (qT gt5)) rfl <|
  g1 gt21 pt23 (iGtr (qT gt22) (qI (.ofNat 63))) rfl <|
  s1 pt24 (uP (qT gt21) qB (qT gt23)) <|
  sm pt25 (qT gt24) <|
  g1 gt25 pt26 (fMv (qT gt5)) rfl <|
  g1 gt25 pt27 (iAdd (qT gt26) (qI (.ofNat 1))) rfl <|
  g1 gt25 pt28 (fMv (qT gt0)) rfl <|
  g1 gt25 pt29 (u1 k0 eLenStr rfl (qT gt28)) rfl <|
  g1 gt25 pt30 (iGeq (qT gt27) (qT gt29)) rfl <|
  s1 pt31 (uP (qT gt25) qB (qT gt30)) <|
  se) rfl) (cC gt31 cX cK)) (cD mo (d1 0 0 rfl pt32 oM (aT gt4 a0) <|
  d1 1 0 rfl pt33 oM (aT gt0 a0) <|
  d1 2 0 rfl pt34 oM (aT gt5 a0) <|
  d1 3 4 rfl pt35 oI (aI (.ofNat 1) (aT gt34 a0)) <|
  d1 4 14 rfl pt36 k23 (aT gt33 (aI (.ofNat 1) (aT gt35 a0))) <|
  d1 5 30 rfl pt37 k24 (aT gt36 a0) <|
  d1 7 0 rfl pt39 oM (aT gt0 a0) <|
  d1 8 0 rfl pt40 oM (aT gt5 a0) <|
  d1 9 256 rfl pt41 oI (aI (.ofNat 1) (aT gt40 a0)) <|
  d1 10 896 rfl pt42 k72 (aT gt39 (aT gt41 a0)) <|
  d1 6 63 rfl pt38 k15 (aT gt32 (aT gt37 a0)) <|
  d1 11 127 rfl pt4 oA (aT gt38 a0) <|
  d1 12 4095 rfl pt0 oA (aT gt42 a0) <|
  de) rfl rfl rfl))))))) (cS (cR (sm pt43 (qT gt4) <|
  sm pt44 (qT gt0) <|
  s1 pt45 (u0 oS (bb (qT gt44) (bb (qV (.one (.str [0])) rfl) b0))) <|
  sa pt2 (qT gt43) <|
  sa pt3 (qT gt45) <|
  se) rfl) cT)))))
 (rT gt2 (rT gt3 r0))⟩
theorem h151 : FnGood Pg 151 g151.1 := g151.2
theorem c151 {d : Option Nat} {ty : TypeId} {pos : String} {af : Array Edge} {g : Option (Nat × Bool)} {x : Operand} {xs : Array Operand} {ats : Array TypeId} : DXOk Pg ⟨d, .call { callee := .value x, args := xs, argTypes := ats }, ty, pos, af, g⟩ (xCallD [(151, g151.1)]) := oG (tb1 h151 tb0)
/- wellspring/name.Check -/
noncomputable def g83 : {X : Xop // FnGood Pg 83 X} := ⟨_, fN' rfl Tryz.func83 (by decide) Tryz.ntmps83 Tryz.results83 rfl
 (cS (cR (sa pt2 qB <|
  se) rfl) (cS (cR (sm pt6 (qT gt0) <|
  s1 pt7 (uC rfl h151 (bb (qT gt6) b0)) <|
  sm pt5 (qT gt7) <|
  y1 pt8 (fEx (qT gt5)) <|
  y1 pt9 (fEx (qT gt5)) <|
  sa pt3 (qT gt8) <|
  sa pt4 (qT gt9) <|
  se) rfl) (cS (cR (sm pt10 (qT gt4) <|
  sa pt2 (qT gt10) <|
  se) rfl) cT)))
 (rT gt2 r0)⟩
theorem h83 : FnGood Pg 83 g83.1 := g83.2
theorem c83 {d : Option Nat} {ty : TypeId} {pos : String} {af : Array Edge} {g : Option (Nat × Bool)} {x : Operand} {xs : Array Operand} {ats : Array TypeId} : DXOk Pg ⟨d, .call { callee := .value x, args := xs, argTypes := ats }, ty, pos, af, g⟩ (xCallD [(83, g83.1)]) := oG (tb1 h83 tb0)
/- wellspring/data.Check -/
noncomputable def g226 : {X : Xop // FnGood Pg 226 X} := ⟨_, fN' rfl Tryz.func226 (by decide) Tryz.ntmps226 Tryz.results226 rfl
 (cS (cR (sa pt4 qB <|
  se) rfl) (cS (cS (cR (sm pt7 (qT gt1) <|
  y1 pt8 (u1 k0 eLenStr rfl (qT gt7)) <|
  y2 pt9 (iGtr (qT gt8) (qI (.ofNat 65535))) <|
  se) rfl) (cC gt9 cX cK)) (cS (cR (sm pt11 (qT gt1) <|
  sm pt12 (qT gt1) <|
  y1 pt13 (u1 k0 eLenStr rfl (qT gt12)) <|
  sm pt14 (qT gt0) <|
  s1 pt15 (uC rfl h211 (bb (qT gt11) (bb (qI (.ofNat 0)) (bb (qT gt13) (bb (qT gt14) b0))))) <|
  sm pt10 (qT gt15) <|
  y1 pt16 (fEx (qT gt10)) <|
  y1 pt17 (fEx (qT gt10)) <|
  sa pt5 (qT gt16) <|
  sa pt6 (qT gt17) <|
  se) rfl) (cS (cR (sm pt18 (qT gt6) <|
  y2 pt19 (iEql (qT gt18) (qI (.ofNat 0))) <|
  sm pt20 (qT gt19) <|
  g1 gt20 pt21 (fMv (qT gt5)) rfl <|
  g1 gt20 pt22 (fMv (qT gt1)) rfl <|
  g1 gt20 pt23 (u0 oS (bb (qT gt21) (bb (qT gt22) b0))) rfl <|
  s1 pt24 (uP (qT gt20) (qT gt23) qB) <|
  sa pt4 (qT gt24) <|
  se) rfl) cT))))
 (rT gt4 r0)⟩
theorem h226 : FnGood Pg 226 g226.1 := g226.2
theorem c226 {d : Option Nat} {ty : TypeId} {pos : String} {af : Array Edge} {g : Option (Nat × Bool)} {x : Operand} {xs : Array Operand} {ats : Array TypeId} : DXOk Pg ⟨d, .call { callee := .value x, args := xs, argTypes := ats }, ty, pos, af, g⟩ (xCallD [(226, g226.1)]) := oG (tb1 h226 tb0)
/- wellspring/record.in -/
noncomputable def g234 : {X : Xop // FnGood Pg 234 X} := ⟨_, fN' rfl Tryz.func234 (by decide) Tryz.ntmps234 Tryz.results234 rfl
 (cS (cR (sa pt4 qB <|
  se) rfl) (cS (cR (sm pt5 (qT gt0) <|
  y2 pt6 (iGeq (qT gt5) (qI (.ofNat 0))) <|
  sm pt7 (qT gt6) <|
  g1 gt7 pt8 (fMv (qT gt0)) rfl <|
  g1 gt7 pt9 (fMv (qT gt1)) rfl <|
  g1 gt7 pt10 (iLeq (qT gt8) (qT gt9)) rfl <|
  s1 pt11 (uP (qT gt7) (qT gt10) qB) <|
  sa pt4 (qT gt11) <|
  se) rfl) cT))
 (rT gt4 r0)⟩
theorem h234 : FnGood Pg 234 g234.1 := g234.2
theorem c234 {d : Option Nat} {ty : TypeId} {pos : String} {af : Array Edge} {g : Option (Nat × Bool)} {x : Operand} {xs : Array Operand} {ats : Array TypeId} : DXOk Pg ⟨d, .call { callee := .value x, args := xs, argTypes := ats }, ty, pos, af, g⟩ (xCallD [(234, g234.1)]) := oG (tb1 h234 tb0)
/- wellspring/record.Check -/
noncomputable def g190 : {X : Xop // FnGood Pg 190 X} := ⟨_, fN' rfl Tryz.func190 (by decide) Tryz.ntmps190 Tryz.results190 rfl
 (cS (cR (s1 pt1 (u0 oX (bb (qT gt0) b0)) <|
  sa pt2 qB <|
  se) rfl) (cS (cR (y1 pt3 (u1 k33 eFaddr rfl (qT gt1)) <|
  y1 pt4 (u1 k3 eLoad rfl (qT gt3)) <|
  s1 pt5 (uC rfl h83 (bb (qT gt4) b0)) <|
  sm pt6 (qT gt5) <|
  g1 gt6 pt7 (u1 k34 eFaddr rfl (qT gt1)) rfl <|
  g1 gt6 pt8 (u1 k5 eLoad rfl (qT gt7)) rfl <|
  g1 gt6 pt9 (uC rfl h234 (bb (qT gt8) (bb (qI (.ofNat 65535)) b0))) rfl <|
  s1 pt10 (uP (qT gt6) (qT gt9) qB) <|
  sm pt11 (qT gt10) <|
  g1 gt11 pt12 (u1 k35 eFaddr rfl (qT gt1)) rfl <|
  g1 gt11 pt13 (u1 k5 eLoad rfl (qT gt12)) rfl <|
  g1 gt11 pt14 (uC rfl h234 (bb (qT gt13) (bb (qI (.ofNat 65535)) b0))) rfl <|
  s1 pt15 (uP (qT gt11) (qT gt14) qB) <|
  sm pt16 (qT gt15) <|
  g1 gt16 pt17 (u1 k36 eFaddr rfl (qT gt1)) rfl <|
  g1 gt16 pt18 (u1 k5 eLoad rfl (qT gt17)) rfl <|
  g1 gt16 pt19 (uC rfl h234 (bb (qT gt18) (bb (qI (.ofNat 2147483647)) b0))) rfl <|
  s1 pt20 (uP (qT gt16) (qT gt19) qB) <|
  sm pt21 (qT gt20) <|
  g1 gt21 pt22 (u1 k34 eFaddr rfl (qT gt1)) rfl <|
  g1 gt21 pt23 (u1 k5 eLoad rfl (qT gt22)) rfl <|
  g1 gt21 pt24 (u1 k37 eFaddr rfl (qT gt1)) rfl <|
  g1 gt21 pt25 (u1 k3 eLoad rfl (qT gt24)) rfl <|
  g1 gt21 pt26 (uC rfl h226 (bb (qT gt23) (bb (qT gt25) b0))) rfl <|
  s1 pt27 (uP (qT gt21) (qT gt26) qB) <|
  sa pt2 (qT gt27) <|
  se) rfl) cT))
 (rT gt2 r0)⟩
theorem h190 : FnGood Pg 190 g190.1 := g190.2
theorem c190 {d : Option Nat} {ty : TypeId} {pos : String} {af : Array Edge} {g : Option (Nat × Bool)} {x : Operand} {xs : Array Operand} {ats : Array TypeId} : DXOk Pg ⟨d, .call { callee := .value x, args := xs, argTypes := ats }, ty, pos, af, g⟩ (xCallD [(190, g190.1)]) := oG (tb1 h190 tb0)
/- wellspring/msg.Check$1 -/
noncomputable def g200 : {X : Xop // FnGood Pg 200 X} := ⟨_, fN' rfl Tryz.func200 (by decide) Tryz.ntmps200 Tryz.results200 rfl
 (cS (cR (s1 pt1 (u0 oX (bb (qT gt0) b0)) <|
  sa pt2 qB <|
  se) rfl) (cS (cR (y1 pt3 (u1 k40 eLoadN rfl (qT gt1)) <|
  s1 pt4 (uC rfl h190 (bb (qT gt3) b0)) <|
  y1 pt5 (fNo (qT gt4)) <|
  sa pt2 (qT gt5) <|
  se) rfl) cT))
 (rT gt2 r0)⟩
theorem h200 : FnGood Pg 200 g200.1 := g200.2
theorem c200 {d : Option Nat} {ty : TypeId} {pos : String} {af : Array Edge} {g : Option (Nat × Bool)} {x : Operand} {xs : Array Operand} {ats : Array TypeId} : DXOk Pg ⟨d, .call { callee := .value x, args := xs, argTypes := ats }, ty, pos, af, g⟩ (xCallD [(200, g200.1)]) := oG (tb1 h200 tb0)
/- slices.IndexFunc[[]wellspring/api.RR,wellspring/api.RR] -/
noncomputable def g206 : {X : Xop // FnGood Pg 206 X} := ⟨_, fN' rfl Tryz.func206 (by decide) Tryz.ntmps206 Tryz.results206 rfl
 (cS (cR (sa pt4 (qI (.ofNat 0)) <|
  se) rfl) (cS (cS (cR (sm pt6 (qT gt0) <|
  y1 pt7 (u1 k38 eLenSlc rfl (qT gt6)) <|
  sm pt8 (qI (.ofNat 0)) <|
  se) rfl) (cB (cO (cS (cR (y2 pt9 (iLss (qT gt8) (qT gt7)) <|
  se) rfl) (cS (cC gt9 cK cE) (cS (cB (cS (cR (sm pt10 (qT gt8) <|
  sa pt5 (qT gt10) <|
  se) rfl) (cS (cR (sm pt11 (qT gt1) <|
  sm pt12 (qT gt0) <|
  sm pt13 (qT gt5) <|
  y2 pt14 (u2 k39 eIaddr rfl (qT gt12) (qT gt13)) <|
  y1 pt15 (u1 k40 eLoadN rfl (qT gt14)) <|
  s1 pt16 (u0 c200 (bb (qT gt11) (bb (qT gt15) b0))) <|
  se) rfl) (cC gt16 cX cK)))) (cR (y2 pt18 (iAdd (qT gt8) (qI (.ofNat 1))) <|
  sm pt8 (qT gt18) <|
  se) rfl))))))) (cS (cR (sa pt4 (qI (.negSucc 0)) <|
  se) rfl) cT)))
 (rT gt4 r0)⟩
theorem h206 : FnGood Pg 206 g206.1 := g206.2
theorem c206 {d : Option Nat} {ty : TypeId} {pos : String} {af : Array Edge} {g : Option (Nat × Bool)} {x : Operand} {xs : Array Operand} {ats : Array TypeId} : DXOk Pg ⟨d, .call { callee := .value x, args := xs, argTypes := ats }, ty, pos, af, g⟩ (xCallD [(206, g206.1)]) := oG (tb1 h206 tb0)
/- slices.ContainsFunc[[]wellspring/api.RR,wellspring/api.RR] -/
noncomputable def g199 : {X : Xop // FnGood Pg 199 X} := ⟨_, fN' rfl Tryz.func199 (by decide) Tryz.ntmps199 Tryz.results199 rfl
 (cS (cR (sa pt4 qB <|
  se) rfl) (cS (cR (sm pt5 (qT gt0) <|
  sm pt6 (qT gt1) <|
  s1 pt7 (uC rfl h206 (bb (qT gt5) (bb (qT gt6) b0))) <|
  y2 pt8 (iGeq (qT gt7) (qI (.ofNat 0))) <|
  sa pt4 (qT gt8) <|
  se) rfl) cT))
 (rT gt4 r0)⟩
theorem h199 : FnGood Pg 199 g199.1 := g199.2
theorem c199 {d : Option Nat} {ty : TypeId} {pos : String} {af : Array Edge} {g : Option (Nat × Bool)} {x : Operand} {xs : Array Operand} {ats : Array TypeId} : DXOk Pg ⟨d, .call { callee := .value x, args := xs, argTypes := ats }, ty, pos, af, g⟩ (xCallD [(199, g199.1)]) := oG (tb1 h199 tb0)
/- wellspring/edns.Find -/
noncomputable def g150 : {X : Xop // FnGood Pg 150 X} := ⟨_, fN' rfl Tryz.func150 (by decide) Tryz.ntmps150 Tryz.results150 rfl
 (cS (cR (s1 pt1 (u0 oX (bb (qT gt0) b0)) <|
  s1 pt2 (u0 k139 b0) <|
  sa pt3 (qI (.ofNat 0)) <|
  se) rfl) (cS (cR (y1 pt6 (u1 k56 eFaddr rfl (qT gt1)) <|
  y1 pt7 (u1 k54 eLoad rfl (qT gt6)) <|
  s1 pt8 (uC rfl h206 (bb (qT gt7) (bb (qU rfl) b0))) <|
  sa pt4 (qT gt8) <|
  se) rfl) (cS (cB (cS (cR (y1 pt10 (u1 k53 eFaddr rfl (qT gt1)) <|
  y1 pt11 (u1 k54 eLoad rfl (qT gt10)) <|
  s1 pt12 (uC rfl h199 (bb (qT gt11) (bb (qU rfl) b0))) <|
  sm pt13 (qT gt12) <|
  g1 gt13 pt14 (u1 k55 eFaddr rfl (qT gt1)) rfl <|
  g1 gt13 pt15 (u1 k54 eLoad rfl (qT gt14)) rfl <|
  g1 gt13 pt16 (uC rfl h199 (bb (qT gt15) (bb (qU rfl) b0))) rfl <|
  s1 pt17 (uP (qT gt13) qB (qT gt16)) <|
  sa pt9 (qT gt17) <|
  se) rfl) (cC gt9 cX (cS (cR (sm pt20 (qT gt4) <|
  y2 pt21 (iLss (qT gt20) (qI (.ofNat 0))) <|
  sa pt19 (qT gt21) <|
  se) rfl) (cC gt19 (cS (cR (s1 pt22 (u0 k140 b0) <|
  y0 (u2 k141 eStore rfl (qT gt2) (qT gt22)) <|
  sa pt3 (qI (.ofNat 0)) <|
  se) rfl) cT) cK))))) cX)))
 (rR gt2 underlying76 rfl i76 rfl (rT gt3 r0))⟩
theorem h150 : FnGood Pg 150 g150.1 := g150.2
theorem c150 {d : Option Nat} {ty : TypeId} {pos : String} {af : Array Edge} {g : Option (Nat × Bool)} {x : Operand} {xs : Array Operand} {ats : Array TypeId} : DXOk Pg ⟨d, .call { callee := .value x, args := xs, argTypes := ats }, ty, pos, af, g⟩ (xCallD [(150, g150.1)]) := oG (tb1 h150 tb0)
/- wellspring/reply.asked -/
noncomputable def g82 : {X : Xop // FnGood Pg 82 X} := ⟨_, fN' rfl Tryz.func82 (by decide) Tryz.ntmps82 Tryz.results82 rfl
 (cS (cR (s1 pt2 (u0 k46 b0) <|
  s1 pt3 (u0 k139 b0) <|
  sa pt4 qB <|
  se) rfl) (cS (cR (sm pt9 (qT gt0) <|
  s1 pt10 (uC rfl h91 (bb (qT gt9) b0)) <|
  sm pt8 (qT gt10) <|
  y1 pt11 (fEx (qT gt8)) <|
  y1 pt12 (fEx (qT gt8)) <|
  s1 pt5 (u0 k130 b0) <|
  y0 (u2 k132 eStore rfl (qT gt5) (qT gt11)) <|
  sa pt6 (qT gt12) <|
  se) rfl) (cS (cS (cR (sm pt13 (qT gt6) <|
  y2 pt14 (iNeq (qT gt13) (qI (.ofNat 0))) <|
  sm pt15 (qT gt14) <|
  g1 gt15 pt16 (u1 k41 eFaddr rfl (qT gt5)) rfl <|
  g1 gt15 pt17 (u1 k42 eLoad rfl (qT gt16)) rfl <|
  g1 gt15 pt18 (u1 k43 eLenSlc rfl (qT gt17)) rfl <|
  g1 gt15 pt19 (iNeq (qT gt18) (qI (.ofNat 1))) rfl <|
  s1 pt20 (uP (qT gt15) qB (qT gt19)) <|
  se) rfl) (cC gt20 cX cK)) (cS (cR (y1 pt24 (u1 k65 eLoadN rfl (qT gt5)) <|
  s1 pt25 (uC rfl h150 (bb (qT gt24) b0)) <|
  sm pt23 (qT gt25) <|
  y1 pt26 (fEx (qT gt23)) <|
  y1 pt27 (fEx (qT gt23)) <|
  s1 pt7 (u0 k139 b0) <|
  y0 (u2 k141 eStore rfl (qT gt7) (qT gt26)) <|
  sa pt6 (qT gt27) <|
  se) rfl) (cS (cS (cR (sm pt28 (qT gt6) <|
  y2 pt29 (iNeq (qT gt28) (qI (.ofNat 0))) <|
  se) rfl) (cC gt29 cX cK)) (cS (cD mo (d1 0 0 rfl pt32 k41 (aT gt5 a0) <|
  d1 1 1 rfl pt33 k42 (aT gt32 a0) <|
  d1 2 3 rfl pt34 k44 (aT gt33 (aI (.ofNat 0) a0)) <|
  d1 3 7 rfl pt35 k45 (aT gt34 a0) <|
  d1 4 0 rfl pt36 k142 (aT gt7 a0) <|
  d0 5 15 rfl k47 (aT gt2 (aT gt35 a0)) <|
  d0 6 63 rfl k141 (aT gt3 (aT gt36 a0)) <|
  d1 7 127 rfl pt4 oA (aV (.one (.bool true)) rfl a0) <|
  de) rfl rfl rfl) cT))))))
 (rR gt2 underlying31 rfl i31 rfl (rR gt3 underlying76 rfl i76 rfl (rT gt4 r0)))⟩
theorem h82 : FnGood Pg 82 g82.1 := g82.2
theorem c82 {d : Option Nat} {ty : TypeId} {pos : String} {af : Array Edge} {g : Option (Nat × Bool)} {x : Operand} {xs : Array Operand} {ats : Array TypeId} : DXOk Pg ⟨d, .call { callee := .value x, args := xs, argTypes := ats }, ty, pos, af, g⟩ (xCallD [(82, g82.1)]) := oG (tb1 h82 tb0)
/- wellspring/reply.Read -/
noncomputable def g35 : {X : Xop // FnGood Pg 35 X} := ⟨_, fN' rfl Tryz.func35 (by decide) Tryz.ntmps35 Tryz.results35 rfl
 (cS (cR (s1 pt2 (u0 k143 b0) <|
  sa pt3 (qI (.ofNat 0)) <|
  sa pt4 (qI (.ofNat 0)) <|
  se) rfl) (cS (cR (sm pt11 (qT gt0) <|
  s1 pt12 (uC rfl h80 (bb (qT gt11) b0)) <|
  sm pt10 (qT gt12) <|
  y1 pt13 (fEx (qT gt10)) <|
  y1 pt14 (fEx (qT gt10)) <|
  y1 pt15 (fEx (qT gt10)) <|
  sa pt5 (qT gt13) <|
  sa pt6 (qT gt14) <|
  sa pt7 (qT gt15) <|
  se) rfl) (cS (cS (cR (sm pt16 (qT gt7) <|
  y1 pt17 (fNo (qT gt16)) <|
  sm pt18 (qT gt17) <|
  g1 gt18 pt19 (fMv (qT gt6)) rfl <|
  g1 gt18 pt20 (uC rfl h81 (bb (qI (.ofNat 0)) (bb (qT gt19) b0))) rfl <|
  g1 gt18 pt21 (iEql (qT gt20) (qI (.ofNat 1))) rfl <|
  s1 pt22 (uP (qT gt18) qB (qT gt21)) <|
  se) rfl) (cC gt22 cX cK)) (cS (cR (sm pt24 (qT gt5) <|
  sm pt25 (qT gt6) <|
  s1 pt26 (u0 k144 (bb (qT gt24) (bb (qT gt25) b0))) <|
  s1 pt8 (u0 k143 b0) <|
  y0 (u2 k145 eStore rfl (qT gt8) (qT gt26)) <|
  se) rfl) (cS (cS (cR (sm pt27 (qT gt6) <|
  s1 pt28 (uC rfl h81 (bb (qI (.ofNat 1)) (bb (qT gt27) b0))) <|
  y2 pt29 (iNeq (qT gt28) (qI (.ofNat 0))) <|
  se) rfl) (cC gt29 cX cK)) (cS (cS (cR (sm pt32 (qT gt0) <|
  s1 pt33 (uC rfl h82 (bb (qT gt32) b0)) <|
  sm pt31 (qT gt33) <|
  y1 pt34 (fEx (qT gt31)) <|
  y1 pt35 (fEx (qT gt31)) <|
  y1 pt36 (fEx (qT gt31)) <|
  y1 pt37 (u1 k146 eFaddr rfl (qT gt8)) <|
  y0 (u2 k47 eStore rfl (qT gt37) (qT gt34)) <|
  y1 pt38 (u1 k147 eFaddr rfl (qT gt8)) <|
  y0 (u2 k141 eStore rfl (qT gt38) (qT gt35)) <|
  sa pt7 (qT gt36) <|
  se) rfl) (cS (cR (sm pt39 (qT gt7) <|
  y1 pt40 (fNo (qT gt39)) <|
  se) rfl) (cC gt40 cX cK))) (cS (cR (y1 pt42 (u1 k146 eFaddr rfl (qT gt8)) <|
  y1 pt43 (u1 k49 eFaddr rfl (qT gt42)) <|
  y1 pt44 (u1 k5 eLoad rfl (qT gt43)) <|
  sa pt9 (qT gt44) <|
  se) rfl) (cS (cB (cS (cR (y1 pt46 (u1 k147 eFaddr rfl (qT gt8)) <|
  y1 pt47 (u1 k148 eFaddr rfl (qT gt46)) <|
  y1 pt48 (u1 k5 eLoad rfl (qT gt47)) <|
  y2 pt49 (iNeq (qT gt48) (qI (.ofNat 0))) <|
  sa pt45 (qT gt49) <|
  se) rfl) (cC gt45 cX (cS (cR (y1 pt52 (u1 k146 eFaddr rfl (qT gt8)) <|
  y1 pt53 (u1 k50 eFaddr rfl (qT gt52)) <|
  y1 pt54 (u1 k5 eLoad rfl (qT gt53)) <|
  y2 pt55 (iNeq (qT gt54) (qI (.ofNat 1))) <|
  sa pt51 (qT gt55) <|
  se) rfl) (cC gt51 cX (cS (cR (sm pt58 (qT gt9) <|
  y2 pt59 (iEql (qT gt58) (qI (.ofNat 0))) <|
  sm pt60 (qT gt59) <|
  g1 gt60 pt61 (fMv (qT gt9)) rfl <|
  g1 gt60 pt62 (iEql (qT gt61) (qI (.ofNat 41))) rfl <|
  s1 pt63 (uP (qT gt60) qB (qT gt62)) <|
  sm pt64 (qT gt63) <|
  g1 gt64 pt65 (fMv (qT gt9)) rfl <|
  g1 gt64 pt66 (iGeq (qT gt65) (qI (.ofNat 128))) rfl <|
  g1 gt64 pt67 (fMv (qT gt66)) rfl <|
  g1 gt67 pt68 (fMv (qT gt9)) rfl <|
  g1 gt67 pt69 (iLeq (qT gt68) (qI (.ofNat 255))) rfl <|
  g1 gt64 pt70 (uP (qT gt67) (qT gt69) qB) rfl <|
  s1 pt71 (uP (qT gt64) qB (qT gt70)) <|
  sa pt57 (qT gt71) <|
  se) rfl) (cC gt57 cX cK))))))) (cS (cR (y1 pt73 (u1 k149 eLoadN rfl (qT gt8)) <|
  y0 (u2 k145 eStore rfl (qT gt2) (qT gt73)) <|
  sa pt3 (qI (.ofNat 2)) <|
  sa pt4 (qI (.ofNat 0)) <|
  se) rfl) cT)))))))))
 (rR gt2 underlying78 rfl i78 rfl (rT gt3 (rT gt4 r0)))⟩
theorem h35 : FnGood Pg 35 g35.1 := g35.2
theorem c35 {d : Option Nat} {ty : TypeId} {pos : String} {af : Array Edge} {g : Option (Nat × Bool)} {x : Operand} {xs : Array Operand} {ats : Array TypeId} : DXOk Pg ⟨d, .call { callee := .value x, args := xs, argTypes := ats }, ty, pos, af, g⟩ (xCallD [(35, g35.1)]) := oG (tb1 h35 tb0)
/- wellspring/name.small -/
noncomputable def g152 : {X : Xop // FnGood Pg 152 X} := ⟨_, fN' rfl Tryz.func152 (by decide) Tryz.ntmps152 Tryz.results152 rfl
 (cS (cR (sa pt2 (qI (.ofNat 0)) <|
  se) rfl) (cS (cS (cR (sm pt3 (qT gt0) <|
  s1 pt4 (u0 oI (bb (qT gt3) (bb (qI (.ofNat 65)) b0))) <|
  sm pt5 (qT gt4) <|
  g1 gt5 pt6 (fMv (qT gt0)) rfl <|
  g1 gt5 pt7 (u0 oI (bb (qT gt6) (bb (qI (.ofNat 90)) b0))) rfl <|
  s1 pt8 (uP (qT gt5) (qT gt7) qB) <|
  se) rfl) (cC gt8 cX cK)) (cS (cR (sm pt11 (qT gt0) <|
  sa pt2 (qT gt11) <|
  se) rfl) cT)))
 (rT gt2 r0)⟩
theorem h152 : FnGood Pg 152 g152.1 := g152.2
theorem c152 {d : Option Nat} {ty : TypeId} {pos : String} {af : Array Edge} {g : Option (Nat × Bool)} {x : Operand} {xs : Array Operand} {ats : Array TypeId} : DXOk Pg ⟨d, .call { callee := .value x, args := xs, argTypes := ats }, ty, pos, af, g⟩ (xCallD [(152, g152.1)]) := oG (tb1 h152 tb0)
/- wellspring/name.low -/
noncomputable def g84 : {X : Xop // FnGood Pg 84 X} := ⟨_, fN' rfl Tryz.func84 (by decide) Tryz.ntmps84 Tryz.results84 rfl
 (cS (cR (sa pt2 (qV (.one (.str [])) rfl) <|
  se) rfl) (cS (cR (sm pt6 (qT gt0) <|
  s1 pt7 (u0 k61 (bb (qT gt6) b0)) <|
  sa pt3 (qT gt7) <|
  se) rfl) (cS (cS (cR (sm pt8 (qT gt3) <|
  y1 pt9 (u1 k62 eLenSlc rfl (qT gt8)) <|
  sm pt10 (qI (.ofNat 0)) <|
  se) rfl) (cB (cO (cS (cR (y2 pt11 (iLss (qT gt10) (qT gt9)) <|
  se) rfl) (cS (cC gt11 cK cE) (cS (cB (cS (cR (sm pt12 (qT gt10) <|
  y2 pt13 (u2 k63 eIaddr rfl (qT gt8) (qT gt10)) <|
  y1 pt14 (u1 k64 eLoad rfl (qT gt13)) <|
  sa pt4 (qT gt12) <|
  sa pt5 (qT gt14) <|
  se) rfl) (cR (sm pt15 (qT gt3) <|
  sm pt16 (qT gt4) <|
  sm pt17 (qT gt5) <|
  s1 pt18 (uC rfl h152 (bb (qT gt17) b0)) <|
  y2 pt19 (u2 k63 eIaddr rfl (qT gt15) (qT gt16)) <|
  y0 (u2 k150 eStore rfl (qT gt19) (qT gt18)) <|
  se) rfl))) (cR (y2 pt20 (iAdd (qT gt10) (qI (.ofNat 1))) <|
  sm pt10 (qT gt20) <|
  se) rfl))))))) (cS (cR (sm pt21 (qT gt3) <|
  s1 pt22 (u0 k60 (bb (qT gt21) b0)) <|
  sa pt2 (qT gt22) <|
  se) rfl) cT))))
 (rT gt2 r0)⟩
theorem h84 : FnGood Pg 84 g84.1 := g84.2
theorem c84 {d : Option Nat} {ty : TypeId} {pos : String} {af : Array Edge} {g : Option (Nat × Bool)} {x : Operand} {xs : Array Operand} {ats : Array TypeId} : DXOk Pg ⟨d, .call { callee := .value x, args := xs, argTypes := ats }, ty, pos, af, g⟩ (xCallD [(84, g84.1)]) := oG (tb1 h84 tb0)
/- wellspring/name.Low -/
noncomputable def g36 : {X : Xop // FnGood Pg 36 X} := ⟨_, fN' rfl Tryz.func36 (by decide) Tryz.ntmps36 Tryz.results36 rfl
 (cS (cR (sa pt2 (qV (.one (.str [])) rfl) <|
  se) rfl) (cS (cS (cR (sm pt3 (qT gt0) <|
  s1 pt4 (uC rfl h83 (bb (qT gt3) b0)) <|
  y1 pt5 (fNo (qT gt4)) <|
  se) rfl) (cC gt5 cX cK)) (cS (cR (sm pt6 (qT gt0) <|
  s1 pt7 (uC rfl h84 (bb (qT gt6) b0)) <|
  sa pt2 (qT gt7) <|
  se) rfl) cT)))
 (rT gt2 r0)⟩
theorem h36 : FnGood Pg 36 g36.1 := g36.2
theorem c36 {d : Option Nat} {ty : TypeId} {pos : String} {af : Array Edge} {g : Option (Nat × Bool)} {x : Operand} {xs : Array Operand} {ats : Array TypeId} : DXOk Pg ⟨d, .call { callee := .value x, args := xs, argTypes := ats }, ty, pos, af, g⟩ (xCallD [(36, g36.1)]) := oG (tb1 h36 tb0)
/- (wellspring/store.Item).clone -/
noncomputable def g108 : {X : Xop // FnGood Pg 108 X} := ⟨_, fN' rfl Tryz.func108 (by decide) Tryz.ntmps108 Tryz.results108 rfl
 (cS (cR (s1 pt1 (u0 oX (bb (qT gt0) b0)) <|
  s1 pt2 (u0 k151 b0) <|
  se) rfl) (cS (cR (y1 pt3 (u1 k152 eFaddr rfl (qT gt1)) <|
  y1 pt4 (u1 k153 eFaddr rfl (qT gt3)) <|
  y1 pt5 (u1 k12 eLoad rfl (qT gt4)) <|
  s1 pt6 (uC rfl h27 (bb (qT gt5) b0)) <|
  y1 pt7 (u1 k152 eFaddr rfl (qT gt1)) <|
  y1 pt8 (u1 k153 eFaddr rfl (qT gt7)) <|
  y0 (u2 k19 eStore rfl (qT gt8) (qT gt6)) <|
  se) rfl) (cS (cR (y1 pt9 (u1 k154 eLoadN rfl (qT gt1)) <|
  y0 (u2 k155 eStore rfl (qT gt2) (qT gt9)) <|
  se) rfl) cT)))
 (rR gt2 underlying210 rfl i210 rfl r0)⟩
theorem h108 : FnGood Pg 108 g108.1 := g108.2
theorem c108 {d : Option Nat} {ty : TypeId} {pos : String} {af : Array Edge} {g : Option (Nat × Bool)} {x : Operand} {xs : Array Operand} {ats : Array TypeId} : DXOk Pg ⟨d, .call { callee := .value x, args := xs, argTypes := ats }, ty, pos, af, g⟩ (xCallD [(108, g108.1)]) := oG (tb1 h108 tb0)
end Go.Proofs.YtddbhljljmijcaaGreat.V
