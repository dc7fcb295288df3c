/- Functions of the program, evaluated. -/
import Derived.Test.YtddbhljljmijcaaGreatTf
namespace Go.Proofs.YtddbhljljmijcaaGreat.V
open Go.RowKit Go.Proofs Go.Proofs.Tryz
set_option linter.unusedVariables false
set_option maxRecDepth 100000
/- slices.ContainsFunc[[]wellspring/node.task,wellspring/node.task] -/
noncomputable def g156 : {X : Xop // FnGood Pg 156 X} := ⟨_, fN' rfl Tryz.func156 (by decide) Tryz.ntmps156 Tryz.results156 rfl
 (cS (cR (sa pt4 qB <|
  se) rfl) (cS (cR (sm pt5 (qT gt0) <|
  sm pt6 (qT gt1) <|
  s1 pt7 (uC rfl h95 (bb (qT gt5) (bb (qT gt6) b0))) <|
  y2 pt8 (iGeq (qT gt7) (qI (.ofNat 0))) <|
  sa pt4 (qT gt8) <|
  se) rfl) cT))
 (rT gt4 r0)⟩
theorem h156 : FnGood Pg 156 g156.1 := g156.2
theorem c156 {d : Option Nat} {ty : TypeId} {pos : String} {af : Array Edge} {g : Option (Nat × Bool)} {x : Operand} {xs : Array Operand} {ats : Array TypeId} : DXOk Pg ⟨d, .call { callee := .value x, args := xs, argTypes := ats }, ty, pos, af, g⟩ (xCallD [(156, g156.1)]) := oG (tb1 h156 tb0)
/- wellspring/seek.Start -/
noncomputable def g158 : {X : Xop // FnGood Pg 158 X} := ⟨_, fN' rfl Tryz.func158 (by decide) Tryz.ntmps158 Tryz.results158 rfl
 (cS (cR (s1 pt1 (u0 oX (bb (qT gt0) b0)) <|
  s1 pt2 (u0 k309 b0) <|
  se) rfl) (cS (cR (y1 pt3 (u1 k48 eFaddr rfl (qT gt1)) <|
  y1 pt4 (u1 k3 eLoad rfl (qT gt3)) <|
  s1 pt5 (uC rfl h36 (bb (qT gt4) b0)) <|
  y1 pt6 (u1 k48 eFaddr rfl (qT gt1)) <|
  y0 (u2 k115 eStore rfl (qT gt6) (qT gt5)) <|
  se) rfl) (cS (cR (y1 pt7 (u1 k45 eLoadN rfl (qT gt1)) <|
  s1 pt8 (u0 k386 (bb (qT gt7) b0)) <|
  s1 pt9 (u0 k387 (bb (qT gt8) b0)) <|
  s1 pt10 (u0 k388 (bb (qT gt9) b0)) <|
  y0 (u2 k312 eStore rfl (qT gt2) (qT gt10)) <|
  se) rfl) cT)))
 (rR gt2 underlying120 rfl i120 rfl r0)⟩
theorem h158 : FnGood Pg 158 g158.1 := g158.2
theorem c158 {d : Option Nat} {ty : TypeId} {pos : String} {af : Array Edge} {g : Option (Nat × Bool)} {x : Operand} {xs : Array Operand} {ats : Array TypeId} : DXOk Pg ⟨d, .call { callee := .value x, args := xs, argTypes := ats }, ty, pos, af, g⟩ (xCallD [(158, g158.1)]) := oG (tb1 h158 tb0)
/- (*wellspring/node.Node).wait -/
noncomputable def g88 : {X : Xop // FnGood Pg 88 X} := ⟨_, fN' rfl Tryz.func88 (by decide) Tryz.ntmps88 Tryz.results88 rfl
 (cS (cR (s1 pt5 (u0 oX (bb (qT gt2) b0)) <|
  se) rfl) (cS (cD mo (d1 0 0 rfl pt6 oM (aT gt0 a0) <|
  d1 1 0 rfl pt7 oM (aT gt0 a0) <|
  d1 2 2 rfl pt8 oC (aT gt7 a0) <|
  d1 3 6 rfl pt9 k379 (aT gt8 a0) <|
  d1 4 14 rfl pt10 k371 (aT gt9 a0) <|
  d1 5 0 rfl pt11 k278 (aT gt5 a0) <|
  d1 6 32 rfl pt12 k376 (aT gt11 a0) <|
  d1 7 126 rfl pt13 k377 (aT gt10 (aT gt12 a0)) <|
  d1 8 255 rfl pt14 oC (aT gt6 a0) <|
  d1 9 511 rfl pt15 k379 (aT gt14 a0) <|
  d0 10 1023 rfl k378 (aT gt15 (aT gt13 a0)) <|
  de) rfl rfl rfl) (cS (cS (cR (sm pt16 (qT gt0) <|
  y1 pt17 (fNc (qT gt16)) <|
  y1 pt18 (u1 k285 eFaddr rfl (qT gt17)) <|
  y1 pt19 (u1 k286 eLoad rfl (qT gt18)) <|
  s1 pt20 (u0 (oF0 rfl) (bb (qT gt5) b0)) <|
  s1 pt21 (uC rfl h156 (bb (qT gt19) (bb (qT gt20) b0))) <|
  se) rfl) (cC gt21 cT cK)) (cS (cD mo (d1 0 0 rfl pt22 oM (aT gt0 a0) <|
  d1 1 0 rfl pt23 oM (aT gt0 a0) <|
  d1 2 2 rfl pt24 oC (aT gt23 a0) <|
  d1 3 6 rfl pt25 k285 (aT gt24 a0) <|
  d1 4 14 rfl pt26 k286 (aT gt25 a0) <|
  d1 5 0 rfl pt27 oM (aT gt0 a0) <|
  d1 6 32 rfl pt28 oC (aT gt27 a0) <|
  d1 7 96 rfl pt29 k389 (aT gt28 a0) <|
  d1 8 224 rfl pt30 k5 (aT gt29 a0) <|
  d1 9 0 rfl pt31 k271 (aT gt5 a0) <|
  d1 10 512 rfl pt32 k45 (aT gt31 a0) <|
  d1 11 0 rfl pt33 k271 (aT gt5 a0) <|
  d1 12 2048 rfl pt34 k45 (aT gt33 a0) <|
  d1 13 6144 rfl pt35 c158 (aU rfl (aT gt34 a0)) <|
  d1 14 16352 rfl pt36 k390 (aT gt30 (aT gt32 (aT gt35 a0))) <|
  d1 15 32736 rfl pt37 k367 (aT gt36 a0) <|
  d1 16 65534 rfl pt38 k368 (aT gt26 (aT gt37 a0)) <|
  d1 17 131071 rfl pt39 oC (aT gt22 a0) <|
  d1 18 262143 rfl pt40 k285 (aT gt39 a0) <|
  d0 19 524287 rfl k369 (aT gt40 (aT gt38 a0)) <|
  de) rfl rfl rfl) (cS (cR (sm pt41 (qT gt0) <|
  y1 pt42 (fNc (qT gt41)) <|
  y1 pt43 (u1 k389 eFaddr rfl (qT gt42)) <|
  y1 pt44 (u1 k5 eLoad rfl (qT gt43)) <|
  y2 pt45 (iAdd (qT gt44) (qI (.ofNat 1))) <|
  y1 pt46 (fNc (qT gt41)) <|
  y1 pt47 (u1 k389 eFaddr rfl (qT gt46)) <|
  y0 (u2 k69 eStore rfl (qT gt47) (qT gt45)) <|
  se) rfl) (cR (sm pt48 (qT gt0) <|
  sm pt49 (qT gt1) <|
  sm pt50 (qT gt0) <|
  y1 pt51 (fNc (qT gt50)) <|
  y1 pt52 (u1 k389 eFaddr rfl (qT gt51)) <|
  y1 pt53 (u1 k5 eLoad rfl (qT gt52)) <|
  y2 pt54 (iSub (qT gt53) (qI (.ofNat 1))) <|
  s1 pt55 (uC rfl h44 (bb (qT gt48) (bb (qT gt49) (bb (qT gt54) b0)))) <|
  se) rfl))))))
 r0⟩
theorem h88 : FnGood Pg 88 g88.1 := g88.2
theorem c88 {d : Option Nat} {ty : TypeId} {pos : String} {af : Array Edge} {g : Option (Nat × Bool)} {x : Operand} {xs : Array Operand} {ats : Array TypeId} : DXOk Pg ⟨d, .call { callee := .value x, args := xs, argTypes := ats }, ty, pos, af, g⟩ (xCallD [(88, g88.1)]) := oG (tb1 h88 tb0)
/- wellspring/tmpl.asked -/
noncomputable def g55 : {X : Xop // FnGood Pg 55 X} := ⟨_, fN' rfl Tryz.func55 (by decide) Tryz.ntmps55 Tryz.results55 rfl
 (cS (cR (s1 pt1 (u0 oX (bb (qT gt0) b0)) <|
  sa pt2 qB <|
  se) rfl) (cS (cD mo (d1 0 0 rfl pt3 k48 (aT gt1 a0) <|
  d1 1 1 rfl pt4 k3 (aT gt3 a0) <|
  d1 2 3 rfl pt5 c83 (aU rfl (aT gt4 a0)) <|
  d1 3 7 rfl pt6 oM (aT gt5 a0) <|
  e1 4 15 gt6 rfl pt7 k48 (aT gt1 a0) rfl <|
  e1 5 31 gt6 rfl pt8 k3 (aT gt7 a0) rfl <|
  e1 7 15 gt6 rfl pt10 k48 (aT gt1 a0) rfl <|
  e1 8 143 gt6 rfl pt11 k3 (aT gt10 a0) rfl <|
  e1 6 63 gt6 rfl pt9 c36 (aU rfl (aT gt8 a0)) rfl <|
  e1 9 511 gt6 rfl pt12 oS (aT gt9 (aT gt11 a0)) rfl <|
  d1 10 1023 rfl pt13 oP (aT gt6 (aT gt12 (aV (.one (.bool false)) rfl a0))) <|
  d1 11 2047 rfl pt14 oM (aT gt13 a0) <|
  e1 12 4095 gt14 rfl pt15 k49 (aT gt1 a0) rfl <|
  e1 13 8191 gt14 rfl pt16 k5 (aT gt15 a0) rfl <|
  e1 14 16383 gt14 rfl pt17 c54 (aU rfl (aT gt16 (aI (.ofNat 65535) a0))) rfl <|
  d1 15 32767 rfl pt18 oP (aT gt14 (aT gt17 (aV (.one (.bool false)) rfl a0))) <|
  d1 16 65535 rfl pt19 oM (aT gt18 a0) <|
  e1 17 131071 gt19 rfl pt20 k50 (aT gt1 a0) rfl <|
  e1 18 262143 gt19 rfl pt21 k5 (aT gt20 a0) rfl <|
  e1 19 524287 gt19 rfl pt22 c54 (aU rfl (aT gt21 (aI (.ofNat 65535) a0))) rfl <|
  d1 20 1048575 rfl pt23 oP (aT gt19 (aT gt22 (aV (.one (.bool false)) rfl a0))) <|
  d1 21 2097151 rfl pt2 oA (aT gt23 a0) <|
  de) rfl rfl rfl) cT))
 (rT gt2 r0)⟩
theorem h55 : FnGood Pg 55 g55.1 := g55.2
theorem c55 {d : Option Nat} {ty : TypeId} {pos : String} {af : Array Edge} {g : Option (Nat × Bool)} {x : Operand} {xs : Array Operand} {ats : Array TypeId} : DXOk Pg ⟨d, .call { callee := .value x, args := xs, argTypes := ats }, ty, pos, af, g⟩ (xCallD [(55, g55.1)]) := oG (tb1 h55 tb0)
/- wellspring/record.TTL -/
noncomputable def g119 : {X : Xop // FnGood Pg 119 X} := ⟨_, fN' rfl Tryz.func119 (by decide) Tryz.ntmps119 Tryz.results119 rfl
 (cS (cR (s1 pt5 (u0 oX (bb (qT gt2) b0)) <|
  sa pt6 (qI (.ofNat 0)) <|
  se) rfl) (cS (cS (cR (sm pt7 (qT gt0) <|
  sm pt8 (qT gt1) <|
  y1 pt9 (u1 k40 eLoadN rfl (qT gt5)) <|
  s1 pt10 (uC rfl h118 (bb (qT gt7) (bb (qT gt8) (bb (qT gt9) b0)))) <|
  s1 pt11 (u0 oS (bb (qT gt10) (bb (qV (.one (.str [])) rfl) b0))) <|
  se) rfl) (cC gt11 cX cK)) (cS (cR (sm pt12 (qT gt0) <|
  sm pt13 (qT gt1) <|
  y1 pt14 (u1 k33 eFaddr rfl (qT gt5)) <|
  y1 pt15 (u1 k3 eLoad rfl (qT gt14)) <|
  s1 pt16 (uC rfl h189 (bb (qT gt12) (bb (qT gt13) (bb (qT gt15) b0)))) <|
  y1 pt17 (u1 k0 eLenStr rfl (qT gt16)) <|
  y2 pt18 (iAdd (qT gt17) (qI (.ofNat 4))) <|
  sa pt6 (qT gt18) <|
  se) rfl) cT)))
 (rT gt6 r0)⟩
theorem h119 : FnGood Pg 119 g119.1 := g119.2
theorem c119 {d : Option Nat} {ty : TypeId} {pos : String} {af : Array Edge} {g : Option (Nat × Bool)} {x : Operand} {xs : Array Operand} {ats : Array TypeId} : DXOk Pg ⟨d, .call { callee := .value x, args := xs, argTypes := ats }, ty, pos, af, g⟩ (xCallD [(119, g119.1)]) := oG (tb1 h119 tb0)
/- (*wellspring/tmpl.Template).lay -/
noncomputable def g56 : {X : Xop // FnGood Pg 56 X} := ⟨_, fN' rfl Tryz.func56 (by decide) Tryz.ntmps56 Tryz.results56 rfl
 (cS (cR (s1 pt6 (u0 oX (bb (qT gt2) b0)) <|
  sa pt8 qB <|
  se) rfl) (cS (cR (y1 pt14 (u1 k173 eFaddr rfl (qT gt6)) <|
  y1 pt15 (u1 k169 eLoadN rfl (qT gt14)) <|
  y1 pt16 (u1 k350 eFaddr rfl (qT gt6)) <|
  y1 pt17 (u1 k5 eLoad rfl (qT gt16)) <|
  s1 pt18 (uC rfl h117 (bb (qT gt15) (bb (qT gt17) (bb (qI (.ofNat 0)) b0)))) <|
  sa pt9 (qT gt18) <|
  se) rfl) (cS (cS (cR (sm pt19 (qT gt9) <|
  y1 pt20 (u1 k38 eLenSlc rfl (qT gt19)) <|
  y2 pt21 (iEql (qT gt20) (qI (.ofNat 0))) <|
  sm pt22 (qT gt21) <|
  g1 gt22 pt23 (u1 k350 eFaddr rfl (qT gt6)) rfl <|
  g1 gt22 pt24 (u1 k5 eLoad rfl (qT gt23)) rfl <|
  g1 gt22 pt25 (iLss (qT gt24) (qI (.ofNat 1))) rfl <|
  s1 pt26 (uP (qT gt22) qB (qT gt25)) <|
  sm pt27 (qT gt26) <|
  g1 gt27 pt28 (u1 k350 eFaddr rfl (qT gt6)) rfl <|
  g1 gt27 pt29 (u1 k5 eLoad rfl (qT gt28)) rfl <|
  g1 gt27 pt30 (iGtr (qT gt29) (qI (.ofNat 604800))) rfl <|
  s1 pt31 (uP (qT gt27) qB (qT gt30)) <|
  se) rfl) (cC gt31 cX cK)) (cS (cR (sm pt32 (qT gt1) <|
  y1 pt33 (u1 k350 eFaddr rfl (qT gt6)) <|
  y1 pt34 (u1 k5 eLoad rfl (qT gt33)) <|
  y2 pt35 (iAdd (qT gt32) (qT gt34)) <|
  sm pt36 (qT gt3) <|
  s1 pt37 (u0 k391 (bb (qT gt35) (bb (qT gt36) b0))) <|
  s1 pt10 (u0 k219 b0) <|
  y0 (u2 k220 eStore rfl (qT gt10) (qT gt37)) <|
  se) rfl) (cS (cS (cR (sm pt38 (qT gt9) <|
  y1 pt39 (u1 k38 eLenSlc rfl (qT gt38)) <|
  sm pt40 (qI (.ofNat 0)) <|
  se) rfl) (cB (cO (cS (cR (y2 pt41 (iLss (qT gt40) (qT gt39)) <|
  se) rfl) (cS (cC gt41 cK cE) (cS (cB (cS (cR (y2 pt42 (u2 k39 eIaddr rfl (qT gt38) (qT gt40)) <|
  y1 pt43 (u1 k40 eLoadN rfl (qT gt42)) <|
  s1 pt12 (u0 k126 b0) <|
  y0 (u2 k129 eStore rfl (qT gt12) (qT gt43)) <|
  se) rfl) (cS (cR (sm pt44 (qT gt0) <|
  y1 pt45 (fNc (qT gt44)) <|
  y1 pt46 (u1 k231 eFaddr rfl (qT gt45)) <|
  y1 pt47 (u1 k3 eLoad rfl (qT gt46)) <|
  y1 pt48 (u1 k0 eLenStr rfl (qT gt47)) <|
  sa pt13 (qT gt48) <|
  se) rfl) (cS (cD mo (d1 0 0 rfl pt49 oM (aT gt0 a0) <|
  d1 1 1 rfl pt50 oC (aT gt49 a0) <|
  d1 2 3 rfl pt51 k231 (aT gt50 a0) <|
  d1 3 7 rfl pt52 k3 (aT gt51 a0) <|
  d1 4 0 rfl pt53 oM (aT gt0 a0) <|
  d1 5 16 rfl pt54 oC (aT gt53 a0) <|
  d1 6 48 rfl pt55 k235 (aT gt54 a0) <|
  d1 7 112 rfl pt56 k48 (aT gt55 a0) <|
  d1 8 240 rfl pt57 k3 (aT gt56 a0) <|
  d1 9 0 rfl pt58 k40 (aT gt12 a0) <|
  d1 10 1008 rfl pt59 c118 (aU rfl (aT gt57 (aI (.ofNat 12) (aT gt58 a0)))) <|
  d1 11 2047 rfl pt60 oS (aT gt52 (aT gt59 a0)) <|
  d1 12 4095 rfl pt61 oC (aT gt49 a0) <|
  d1 13 8191 rfl pt62 k231 (aT gt61 a0) <|
  d0 14 16383 rfl k115 (aT gt62 (aT gt60 a0)) <|
  de) rfl rfl rfl) (cD mo (d1 0 0 rfl pt63 k221 (aT gt10 a0) <|
  d1 1 1 rfl pt64 k222 (aT gt63 a0) <|
  d1 2 0 rfl pt65 oM (aT gt13 a0) <|
  d1 3 0 rfl pt66 oM (aT gt0 a0) <|
  d1 4 8 rfl pt67 oC (aT gt66 a0) <|
  d1 5 24 rfl pt68 k231 (aT gt67 a0) <|
  d1 6 56 rfl pt69 k3 (aT gt68 a0) <|
  d1 7 120 rfl pt70 k0 (aT gt69 a0) <|
  d1 8 0 rfl pt71 oM (aT gt13 a0) <|
  d1 9 0 rfl pt72 oM (aT gt0 a0) <|
  d1 10 512 rfl pt73 oC (aT gt72 a0) <|
  d1 11 1536 rfl pt74 k235 (aT gt73 a0) <|
  d1 12 3584 rfl pt75 k48 (aT gt74 a0) <|
  d1 13 7680 rfl pt76 k3 (aT gt75 a0) <|
  d1 14 0 rfl pt77 k40 (aT gt12 a0) <|
  d1 15 32256 rfl pt78 c119 (aU rfl (aT gt76 (aI (.ofNat 12) (aT gt77 a0)))) <|
  d1 16 65280 rfl pt79 oI (aT gt71 (aT gt78 a0)) <|
  d1 17 131068 rfl pt80 k392 (aT gt65 (aT gt70 (aT gt79 a0))) <|
  d1 18 262140 rfl pt81 k393 (aT gt80 a0) <|
  d1 19 524287 rfl pt82 k394 (aT gt64 (aT gt81 a0)) <|
  d1 20 1048575 rfl pt83 k221 (aT gt10 a0) <|
  d0 21 2097151 rfl k395 (aT gt83 (aT gt82 a0)) <|
  de) rfl rfl rfl))))) (cR (y2 pt84 (iAdd (qT gt40) (qI (.ofNat 1))) <|
  sm pt40 (qT gt84) <|
  se) rfl))))))) (cS (cD mo (d1 0 0 rfl pt85 oM (aT gt0 a0) <|
  d1 1 0 rfl pt86 oM (aT gt0 a0) <|
  d1 2 2 rfl pt87 oC (aT gt86 a0) <|
  d1 3 6 rfl pt88 k214 (aT gt87 a0) <|
  d1 4 14 rfl pt89 k215 (aT gt88 a0) <|
  d1 5 0 rfl pt90 k218 (aT gt10 a0) <|
  d1 6 32 rfl pt91 k396 (aT gt90 a0) <|
  d1 7 126 rfl pt92 k397 (aT gt89 (aT gt91 a0)) <|
  d1 8 255 rfl pt93 oC (aT gt85 a0) <|
  d1 9 511 rfl pt94 k214 (aT gt93 a0) <|
  d0 10 1023 rfl k398 (aT gt94 (aT gt92 a0)) <|
  de) rfl rfl rfl) (cS (cR (sa pt8 qB <|
  se) rfl) cT)))))))
 (rT gt8 r0)⟩
theorem h56 : FnGood Pg 56 g56.1 := g56.2
theorem c56 {d : Option Nat} {ty : TypeId} {pos : String} {af : Array Edge} {g : Option (Nat × Bool)} {x : Operand} {xs : Array Operand} {ats : Array TypeId} : DXOk Pg ⟨d, .call { callee := .value x, args := xs, argTypes := ats }, ty, pos, af, g⟩ (xCallD [(56, g56.1)]) := oG (tb1 h56 tb0)
/- wellspring/tmpl.Make -/
noncomputable def g16 : {X : Xop // FnGood Pg 16 X} := ⟨_, fN' rfl Tryz.func16 (by decide) Tryz.ntmps16 Tryz.results16 rfl
 (cS (cR (s1 pt4 (u0 oX (bb (qT gt1) b0)) <|
  s1 pt5 (u0 oX (bb (qT gt2) b0)) <|
  s1 pt6 (u0 k399 b0) <|
  sa pt7 qB <|
  se) rfl) (cS (cR (y1 pt11 (u1 k45 eLoadN rfl (qT gt4)) <|
  s1 pt12 (u0 k400 (bb (qT gt11) (bb (qI (.ofNat 0)) b0))) <|
  s1 pt8 (u0 k399 b0) <|
  y0 (u2 k401 eStore rfl (qT gt8) (qT gt12)) <|
  se) rfl) (cS (cS (cR (y1 pt13 (u1 k187 eFaddr rfl (qT gt5)) <|
  y1 pt14 (u1 k5 eLoad rfl (qT gt13)) <|
  se) rfl) (cB (cS (cS (cR (y2 pt17 (iEql (qT gt14) (qI (.ofNat 0))) <|
  sa pt16 (qT gt17) <|
  se) rfl) (cC gt16 cK cX)) (cC gt16 cK cX)))) (cS (cS (cR (sm pt22 (qT gt0) <|
  s1 pt23 (uC rfl h54 (bb (qT gt22) (bb (qI (.ofNat 1099511627776)) b0))) <|
  y1 pt24 (fNo (qT gt23)) <|
  sm pt25 (qT gt24) <|
  g1 gt25 pt26 (u1 k45 eLoadN rfl (qT gt4)) rfl <|
  g1 gt25 pt27 (uC rfl h55 (bb (qT gt26) b0)) rfl <|
  g1 gt25 pt28 (fNo (qT gt27)) rfl <|
  s1 pt29 (uP (qT gt25) qB (qT gt28)) <|
  se) rfl) (cC gt29 cX cK)) (cS (cS (cR (y1 pt31 (u1 k196 eFaddr rfl (qT gt5)) <|
  y1 pt32 (u1 k197 eLoad rfl (qT gt31)) <|
  y1 pt33 (u1 k348 eLenSlc rfl (qT gt32)) <|
  sm pt34 (qI (.ofNat 0)) <|
  se) rfl) (cB (cO (cS (cR (y2 pt35 (iLss (qT gt34) (qT gt33)) <|
  se) rfl) (cS (cC gt35 cK cE) (cS (cB (cS (cR (y2 pt36 (u2 k349 eIaddr rfl (qT gt32) (qT gt34)) <|
  y1 pt37 (u1 k174 eLoadN rfl (qT gt36)) <|
  s1 pt10 (u0 k162 b0) <|
  y0 (u2 k168 eStore rfl (qT gt10) (qT gt37)) <|
  se) rfl) (cS (cR (sm pt38 (qT gt0) <|
  y1 pt39 (u1 k174 eLoadN rfl (qT gt10)) <|
  s1 pt40 (uC rfl h56 (bb (qT gt8) (bb (qT gt38) (bb (qT gt39) (bb qB b0))))) <|
  y1 pt41 (fNo (qT gt40)) <|
  se) rfl) (cC gt41 cX cK)))) (cR (y2 pt43 (iAdd (qT gt34) (qI (.ofNat 1))) <|
  sm pt34 (qT gt43) <|
  se) rfl))))))) (cS (cS (cR (y1 pt44 (u1 k187 eFaddr rfl (qT gt5)) <|
  y1 pt45 (u1 k5 eLoad rfl (qT gt44)) <|
  y2 pt46 (iNeq (qT gt45) (qI (.ofNat 0))) <|
  sm pt47 (qT gt46) <|
  g1 gt47 pt48 (fMv (qT gt0)) rfl <|
  g1 gt47 pt49 (u1 k402 eFaddr rfl (qT gt5)) rfl <|
  g1 gt47 pt50 (u1 k174 eLoadN rfl (qT gt49)) rfl <|
  g1 gt47 pt51 (u0 (oG tb0) (bb (qU rfl) (bb (qT gt8) (bb (qT gt48) (bb (qT gt50) (bb qB b0)))))) rfl <|
  g1 gt47 pt52 (fNo (qT gt51)) rfl <|
  s1 pt53 (uP (qT gt47) (qT gt52) qB) <|
  se) rfl) (cC gt53 cX cK)) (cS (cR (y1 pt55 (u1 k237 eLoadN rfl (qT gt8)) <|
  y0 (u2 k401 eStore rfl (qT gt6) (qT gt55)) <|
  sa pt7 qB <|
  se) rfl) cT)))))))
 (rR gt6 underlying67 rfl i67 rfl (rT gt7 r0))⟩
theorem h16 : FnGood Pg 16 g16.1 := g16.2
theorem c16 {d : Option Nat} {ty : TypeId} {pos : String} {af : Array Edge} {g : Option (Nat × Bool)} {x : Operand} {xs : Array Operand} {ats : Array TypeId} : DXOk Pg ⟨d, .call { callee := .value x, args := xs, argTypes := ats }, ty, pos, af, g⟩ (xCallD [(16, g16.1)]) := oG (tb1 h16 tb0)
/- (*wellspring/node.Node).lay -/
noncomputable def g90 : {X : Xop // FnGood Pg 90 X} := ⟨_, fN' rfl Tryz.func90 (by decide) Tryz.ntmps90 Tryz.results90 rfl
 (cS (cR (s1 pt6 (u0 oX (bb (qT gt2) b0)) <|
  s1 pt7 (u0 oX (bb (qT gt3) b0)) <|
  se) rfl) (cS (cR (sm pt11 (qT gt1) <|
  y1 pt12 (u1 k45 eLoadN rfl (qT gt6)) <|
  y1 pt13 (u1 k188 eLoadN rfl (qT gt7)) <|
  s1 pt14 (uC rfl h16 (bb (qT gt11) (bb (qT gt12) (bb (qT gt13) b0)))) <|
  sm pt10 (qT gt14) <|
  y1 pt15 (fEx (qT gt10)) <|
  y1 pt16 (fEx (qT gt10)) <|
  s1 pt8 (u0 k399 b0) <|
  y0 (u2 k401 eStore rfl (qT gt8) (qT gt15)) <|
  sa pt9 (qT gt16) <|
  se) rfl) (cS (cS (cR (sm pt17 (qT gt9) <|
  y1 pt18 (fNo (qT gt17)) <|
  se) rfl) (cC gt18 cT cK)) (cS (cS (cD mo (d1 0 0 rfl pt19 oM (aT gt0 a0) <|
  d1 1 1 rfl pt20 oC (aT gt19 a0) <|
  d1 2 3 rfl pt21 k211 (aT gt20 a0) <|
  d1 3 7 rfl pt22 k212 (aT gt21 a0) <|
  d1 4 15 rfl pt23 k403 (aT gt22 a0) <|
  d1 5 0 rfl pt24 oM (aT gt0 a0) <|
  d1 6 32 rfl pt25 oC (aT gt24 a0) <|
  d1 7 96 rfl pt26 k327 (aT gt25 a0) <|
  d1 8 224 rfl pt27 k4 (aT gt26 a0) <|
  d1 9 480 rfl pt28 k5 (aT gt27 a0) <|
  d1 10 1023 rfl pt29 oI (aT gt23 (aT gt28 a0)) <|
  de) rfl rfl rfl) (cC gt29 cX cK)) (cD mo (d1 0 0 rfl pt34 oM (aT gt0 a0) <|
  d1 1 1 rfl pt35 oC (aT gt34 a0) <|
  d1 2 3 rfl pt36 k211 (aT gt35 a0) <|
  d1 3 7 rfl pt37 k212 (aT gt36 a0) <|
  d1 4 0 rfl pt38 k45 (aT gt6 a0) <|
  d1 5 0 rfl pt39 k237 (aT gt8 a0) <|
  d1 6 0 rfl pt40 k188 (aT gt7 a0) <|
  d1 7 64 rfl pt41 c159 (aU rfl (aT gt40 a0)) <|
  d1 8 224 rfl pt42 k404 (aT gt39 (aT gt41 a0)) <|
  d0 9 511 rfl k405 (aT gt37 (aT gt38 (aT gt42 a0))) <|
  de) rfl rfl rfl)))))
 r0⟩
theorem h90 : FnGood Pg 90 g90.1 := g90.2
theorem c90 {d : Option Nat} {ty : TypeId} {pos : String} {af : Array Edge} {g : Option (Nat × Bool)} {x : Operand} {xs : Array Operand} {ats : Array TypeId} : DXOk Pg ⟨d, .call { callee := .value x, args := xs, argTypes := ats }, ty, pos, af, g⟩ (xCallD [(90, g90.1)]) := oG (tb1 h90 tb0)
/- (*wellspring/node.Node).good -/
noncomputable def g38 : {X : Xop // FnGood Pg 38 X} := ⟨_, fN' rfl Tryz.func38 (by decide) Tryz.ntmps38 Tryz.results38 rfl
 (cS (cR (s1 pt5 (u0 oX (bb (qT gt2) b0)) <|
  se) rfl) (cS (cR (sm pt7 (qT gt0) <|
  s1 pt8 (uC rfl h86 (bb (qT gt7) b0)) <|
  se) rfl) (cS (cS (cR (sm pt9 (qT gt0) <|
  sm pt10 (qT gt1) <|
  y1 pt11 (u1 k278 eLoadN rfl (qT gt5)) <|
  s1 pt12 (uC rfl h87 (bb (qT gt9) (bb (qT gt10) (bb (qT gt11) b0)))) <|
  se) rfl) (cC gt12 cT cK)) (cS (cD mo (d1 0 0 rfl pt13 oM (aT gt0 a0) <|
  d1 1 1 rfl pt14 oC (aT gt13 a0) <|
  d1 2 3 rfl pt15 k203 (aT gt14 a0) <|
  d1 3 7 rfl pt16 k164 (aT gt15 a0) <|
  d1 4 0 rfl pt17 oM (aT gt0 a0) <|
  d1 5 16 rfl pt18 oC (aT gt17 a0) <|
  d1 6 48 rfl pt19 k204 (aT gt18 a0) <|
  d1 7 112 rfl pt20 k186 (aT gt19 a0) <|
  d1 8 0 rfl pt21 oM (aT gt1 a0) <|
  d1 9 0 rfl pt22 k271 (aT gt5 a0) <|
  d1 10 512 rfl pt23 k45 (aT gt22 a0) <|
  d1 12 0 rfl pt6 k184 a0 <|
  d1 11 2047 rfl pt24 c17 (aU rfl (aT gt16 (aT gt20 (aT gt21 (aT gt23 a0))))) <|
  d0 13 8191 rfl k189 (aT gt6 (aT gt24 a0)) <|
  de) rfl rfl rfl) (cB (cS (cS (cR (y1 pt37 (u1 k187 eFaddr rfl (qT gt6)) <|
  y1 pt38 (u1 k5 eLoad rfl (qT gt37)) <|
  y2 pt39 (iEql (qT gt38) (qI (.ofNat 4))) <|
  sa pt36 (qT gt39) <|
  se) rfl) (cC gt36 cK (cD mo (d1 0 0 rfl pt40 k187 (aT gt6 a0) <|
  d1 1 1 rfl pt41 k5 (aT gt40 a0) <|
  d1 2 3 rfl pt42 oI (aT gt41 (aI (.ofNat 3) a0)) <|
  d1 3 7 rfl pt43 oM (aT gt42 a0) <|
  e1 4 15 gt43 rfl pt44 oM (aT gt0 a0) rfl <|
  e1 5 31 gt43 rfl pt45 oC (aT gt44 a0) rfl <|
  e1 6 63 gt43 rfl pt46 k379 (aT gt45 a0) rfl <|
  e1 7 127 gt43 rfl pt47 k371 (aT gt46 a0) rfl <|
  e1 8 255 gt43 rfl pt48 k372 (aT gt47 a0) rfl <|
  e1 9 15 gt43 rfl pt49 oM (aT gt0 a0) rfl <|
  e1 10 527 gt43 rfl pt50 oC (aT gt49 a0) rfl <|
  e1 11 1551 gt43 rfl pt51 k327 (aT gt50 a0) rfl <|
  e1 12 3599 gt43 rfl pt52 k7 (aT gt51 a0) rfl <|
  e1 13 7695 gt43 rfl pt53 k5 (aT gt52 a0) rfl <|
  e1 14 16383 gt43 rfl pt54 oI (aT gt48 (aT gt53 a0)) rfl <|
  d1 15 32767 rfl pt55 oP (aT gt43 (aT gt54 (aV (.one (.bool false)) rfl a0))) <|
  d1 16 65535 rfl pt36 oA (aT gt55 a0) <|
  de) rfl rfl rfl))) (cC gt36 cX (cS (cR (y1 pt60 (u1 k187 eFaddr rfl (qT gt6)) <|
  y1 pt61 (u1 k5 eLoad rfl (qT gt60)) <|
  y2 pt62 (iEql (qT gt61) (qI (.ofNat 3))) <|
  sa pt59 (qT gt62) <|
  se) rfl) (cC gt59 (cR (sm pt63 (qT gt0) <|
  sm pt64 (qT gt1) <|
  y1 pt65 (u1 k278 eLoadN rfl (qT gt5)) <|
  s1 pt66 (uC rfl h88 (bb (qT gt63) (bb (qT gt64) (bb (qT gt65) b0)))) <|
  se) rfl) (cS (cR (sm pt25 (qT gt0) <|
  sm pt26 (qT gt1) <|
  y1 pt27 (u1 k278 eLoadN rfl (qT gt5)) <|
  y1 pt28 (u1 k188 eLoadN rfl (qT gt6)) <|
  s1 pt29 (uC rfl h89 (bb (qT gt25) (bb (qT gt26) (bb (qT gt27) (bb (qT gt28) b0))))) <|
  se) rfl) (cR (sm pt30 (qT gt0) <|
  sm pt31 (qT gt1) <|
  y1 pt32 (u1 k271 eFaddr rfl (qT gt5)) <|
  y1 pt33 (u1 k45 eLoadN rfl (qT gt32)) <|
  y1 pt34 (u1 k188 eLoadN rfl (qT gt6)) <|
  s1 pt35 (uC rfl h90 (bb (qT gt30) (bb (qT gt31) (bb (qT gt33) (bb (qT gt34) b0))))) <|
  se) rfl)))))))))))
 r0⟩
theorem h38 : FnGood Pg 38 g38.1 := g38.2
theorem c38 {d : Option Nat} {ty : TypeId} {pos : String} {af : Array Edge} {g : Option (Nat × Bool)} {x : Operand} {xs : Array Operand} {ats : Array TypeId} : DXOk Pg ⟨d, .call { callee := .value x, args := xs, argTypes := ats }, ty, pos, af, g⟩ (xCallD [(38, g38.1)]) := oG (tb1 h38 tb0)
/- (*wellspring/node.Node).Client -/
noncomputable def g9 : {X : Xop // FnGood Pg 9 X} := ⟨_, fN' rfl Tryz.func9 (by decide) Tryz.ntmps9 Tryz.results9 rfl
 (cS (cR (sa pt10 (qV (.one (.nils)) rfl) <|
  se) rfl) (cS (cS (cR (sm pt15 (qT gt0) <|
  sm pt16 (qT gt1) <|
  sm pt17 (qT gt2) <|
  sm pt18 (qT gt3) <|
  s1 pt19 (uC rfl h34 (bb (qT gt15) (bb (qT gt16) (bb (qT gt17) (bb (qT gt18) b0))))) <|
  y1 pt20 (fNo (qT gt19)) <|
  se) rfl) (cC gt20 cX cK)) (cS (cR (sm pt22 (qT gt4) <|
  s1 pt23 (uC rfl h35 (bb (qT gt22) b0)) <|
  sm pt21 (qT gt23) <|
  y1 pt24 (fEx (qT gt21)) <|
  y1 pt25 (fEx (qT gt21)) <|
  y1 pt26 (fEx (qT gt21)) <|
  s1 pt11 (u0 k143 b0) <|
  y0 (u2 k145 eStore rfl (qT gt11) (qT gt24)) <|
  sa pt12 (qT gt25) <|
  sa pt13 (qT gt26) <|
  se) rfl) (cS (cD mo (d1 0 0 rfl pt27 oM (aT gt2 a0) <|
  d1 1 0 rfl pt28 oM (aT gt3 a0) <|
  d1 2 0 rfl pt29 k149 (aT gt11 a0) <|
  d1 3 0 rfl pt30 k146 (aT gt11 a0) <|
  d1 4 8 rfl pt31 k45 (aT gt30 a0) <|
  d1 5 0 rfl pt32 oM (aT gt1 a0) <|
  d1 6 0 rfl pt33 oM (aT gt0 a0) <|
  d1 7 64 rfl pt34 oC (aT gt33 a0) <|
  d1 8 192 rfl pt35 k327 (aT gt34 a0) <|
  d1 9 448 rfl pt36 k10 (aT gt35 a0) <|
  d1 10 960 rfl pt37 k5 (aT gt36 a0) <|
  d1 11 2016 rfl pt38 oI (aT gt32 (aT gt37 a0)) <|
  d1 12 4095 rfl pt39 k406 (aT gt27 (aT gt28 (aT gt29 (aT gt31 (aT gt38 a0))))) <|
  d1 13 0 rfl pt14 k374 a0 <|
  d0 14 16383 rfl k375 (aT gt14 (aT gt39 a0)) <|
  de) rfl rfl rfl) (cS (cR (y1 pt40 (u1 k146 eFaddr rfl (qT gt11)) <|
  y1 pt41 (u1 k48 eFaddr rfl (qT gt40)) <|
  y1 pt42 (u1 k3 eLoad rfl (qT gt41)) <|
  s1 pt43 (uC rfl h36 (bb (qT gt42) b0)) <|
  y1 pt44 (u1 k271 eFaddr rfl (qT gt14)) <|
  y1 pt45 (u1 k48 eFaddr rfl (qT gt44)) <|
  y0 (u2 k115 eStore rfl (qT gt45) (qT gt43)) <|
  se) rfl) (cS (cS (cR (sm pt46 (qT gt12) <|
  se) rfl) (cB (cS (cR (y2 pt48 (iEql (qT gt46) (qI (.ofNat 1))) <|
  sa pt47 (qT gt48) <|
  se) rfl) (cC gt47 cX (cS (cR (y2 pt54 (iEql (qT gt46) (qI (.ofNat 2))) <|
  sa pt53 (qT gt54) <|
  se) rfl) (cC gt53 (cR (sm pt55 (qT gt0) <|
  sm pt56 (qT gt1) <|
  y1 pt57 (u1 k278 eLoadN rfl (qT gt14)) <|
  s1 pt58 (uC rfl h38 (bb (qT gt55) (bb (qT gt56) (bb (qT gt57) b0)))) <|
  se) rfl) cK)))))) (cS (cR (sm pt59 (qT gt0) <|
  y1 pt60 (fNc (qT gt59)) <|
  y1 pt61 (u1 k70 eFaddr rfl (qT gt60)) <|
  y1 pt62 (u1 k258 eLoad rfl (qT gt61)) <|
  sa pt10 (qT gt62) <|
  se) rfl) cT)))))))
 (rT gt10 r0)⟩
theorem h9 : FnGood Pg 9 g9.1 := g9.2
theorem c9 {d : Option Nat} {ty : TypeId} {pos : String} {af : Array Edge} {g : Option (Nat × Bool)} {x : Operand} {xs : Array Operand} {ats : Array TypeId} : DXOk Pg ⟨d, .call { callee := .value x, args := xs, argTypes := ats }, ty, pos, af, g⟩ (xCallD [(9, g9.1)]) := oG (tb1 h9 tb0)
/- wellspring/mix.Echoes -/
noncomputable def g164 : {X : Xop // FnGood Pg 164 X} := ⟨_, fN' rfl Tryz.func164 (by decide) Tryz.ntmps164 Tryz.results164 rfl
 (cS (cR (sa pt4 qB <|
  se) rfl) (cS (cR (sm pt5 (qT gt0) <|
  s1 pt6 (uC rfl h83 (bb (qT gt5) b0)) <|
  sm pt7 (qT gt6) <|
  g1 gt7 pt8 (fMv (qT gt0)) rfl <|
  g1 gt7 pt9 (fMv (qT gt1)) rfl <|
  g1 gt7 pt10 (u0 oS (bb (qT gt8) (bb (qT gt9) b0))) rfl <|
  s1 pt11 (uP (qT gt7) (qT gt10) qB) <|
  sa pt4 (qT gt11) <|
  se) rfl) cT))
 (rT gt4 r0)⟩
theorem h164 : FnGood Pg 164 g164.1 := g164.2
theorem c164 {d : Option Nat} {ty : TypeId} {pos : String} {af : Array Edge} {g : Option (Nat × Bool)} {x : Operand} {xs : Array Operand} {ats : Array TypeId} : DXOk Pg ⟨d, .call { callee := .value x, args := xs, argTypes := ats }, ty, pos, af, g⟩ (xCallD [(164, g164.1)]) := oG (tb1 h164 tb0)
/- (wellspring/query.Out).answers -/
noncomputable def g94 : {X : Xop // FnGood Pg 94 X} := ⟨_, fN' rfl Tryz.func94 (by decide) Tryz.ntmps94 Tryz.results94 rfl
 (cS (cR (s1 pt2 (u0 oX (bb (qT gt0) b0)) <|
  s1 pt3 (u0 oX (bb (qT gt1) b0)) <|
  sa pt4 qB <|
  se) rfl) (cS (cR (y1 pt6 (u1 k41 eFaddr rfl (qT gt3)) <|
  y1 pt7 (u1 k42 eLoad rfl (qT gt6)) <|
  y2 pt8 (u2 k44 eIaddr rfl (qT gt7) (qI (.ofNat 0))) <|
  y1 pt9 (u1 k45 eLoadN rfl (qT gt8)) <|
  s1 pt5 (u0 k46 b0) <|
  y0 (u2 k47 eStore rfl (qT gt5) (qT gt9)) <|
  se) rfl) (cS (cR (y1 pt10 (u1 k324 eLoadN rfl (qT gt2)) <|
  s1 pt11 (uC rfl h163 (bb (qT gt10) b0)) <|
  sm pt12 (qT gt11) <|
  g1 gt12 pt13 (u1 k321 eFaddr rfl (qT gt2)) rfl <|
  g1 gt12 pt14 (u1 k5 eLoad rfl (qT gt13)) rfl <|
  g1 gt12 pt15 (u1 k51 eFaddr rfl (qT gt3)) rfl <|
  g1 gt12 pt16 (u1 k5 eLoad rfl (qT gt15)) rfl <|
  g1 gt12 pt17 (iEql (qT gt14) (qT gt16)) rfl <|
  s1 pt18 (uP (qT gt12) (qT gt17) qB) <|
  sm pt19 (qT gt18) <|
  g1 gt19 pt20 (u1 k323 eFaddr rfl (qT gt2)) rfl <|
  g1 gt19 pt21 (u1 k49 eFaddr rfl (qT gt20)) rfl <|
  g1 gt19 pt22 (u1 k5 eLoad rfl (qT gt21)) rfl <|
  g1 gt19 pt23 (u1 k49 eFaddr rfl (qT gt5)) rfl <|
  g1 gt19 pt24 (u1 k5 eLoad rfl (qT gt23)) rfl <|
  g1 gt19 pt25 (iEql (qT gt22) (qT gt24)) rfl <|
  s1 pt26 (uP (qT gt19) (qT gt25) qB) <|
  sm pt27 (qT gt26) <|
  g1 gt27 pt28 (u1 k323 eFaddr rfl (qT gt2)) rfl <|
  g1 gt27 pt29 (u1 k50 eFaddr rfl (qT gt28)) rfl <|
  g1 gt27 pt30 (u1 k5 eLoad rfl (qT gt29)) rfl <|
  g1 gt27 pt31 (u1 k50 eFaddr rfl (qT gt5)) rfl <|
  g1 gt27 pt32 (u1 k5 eLoad rfl (qT gt31)) rfl <|
  g1 gt27 pt33 (iEql (qT gt30) (qT gt32)) rfl <|
  s1 pt34 (uP (qT gt27) (qT gt33) qB) <|
  sm pt35 (qT gt34) <|
  g1 gt35 pt36 (u1 k323 eFaddr rfl (qT gt2)) rfl <|
  g1 gt35 pt37 (u1 k48 eFaddr rfl (qT gt36)) rfl <|
  g1 gt35 pt38 (u1 k3 eLoad rfl (qT gt37)) rfl <|
  g1 gt35 pt39 (u1 k48 eFaddr rfl (qT gt5)) rfl <|
  g1 gt35 pt40 (u1 k3 eLoad rfl (qT gt39)) rfl <|
  g1 gt35 pt41 (uC rfl h164 (bb (qT gt38) (bb (qT gt40) b0))) rfl <|
  s1 pt42 (uP (qT gt35) (qT gt41) qB) <|
  sa pt4 (qT gt42) <|
  se) rfl) cT)))
 (rT gt4 r0)⟩
theorem h94 : FnGood Pg 94 g94.1 := g94.2
theorem c94 {d : Option Nat} {ty : TypeId} {pos : String} {af : Array Edge} {g : Option (Nat × Bool)} {x : Operand} {xs : Array Operand} {ats : Array TypeId} : DXOk Pg ⟨d, .call { callee := .value x, args := xs, argTypes := ats }, ty, pos, af, g⟩ (xCallD [(94, g94.1)]) := oG (tb1 h94 tb0)
/- wellspring/query.Match$1 -/
noncomputable def g93 : {X : Xop // FnGood Pg 93 X} := ⟨_, fN' rfl Tryz.func93 (by decide) Tryz.ntmps93 Tryz.results93 rfl
 (cS (cR (s1 pt4 (u0 oX (bb (qT gt0) b0)) <|
  sa pt5 qB <|
  se) rfl) (cS (cR (y1 pt6 (u1 k320 eFaddr rfl (qT gt4)) <|
  y1 pt7 (u1 k3 eLoad rfl (qT gt6)) <|
  y1 pt8 (u1 k3 eLoad rfl (qT gt1)) <|
  s1 pt9 (u0 oS (bb (qT gt7) (bb (qT gt8) b0))) <|
  sm pt10 (qT gt9) <|
  g1 gt10 pt11 (u1 k322 eFaddr rfl (qT gt4)) rfl <|
  g1 gt10 pt12 (u1 k5 eLoad rfl (qT gt11)) rfl <|
  g1 gt10 pt13 (u1 k5 eLoad rfl (qT gt2)) rfl <|
  g1 gt10 pt14 (iEql (qT gt12) (qT gt13)) rfl <|
  s1 pt15 (uP (qT gt10) (qT gt14) qB) <|
  sm pt16 (qT gt15) <|
  g1 gt16 pt17 (u1 k324 eLoadN rfl (qT gt4)) rfl <|
  g1 gt16 pt18 (u1 k65 eLoadN rfl (qT gt3)) rfl <|
  g1 gt16 pt19 (uC rfl h94 (bb (qT gt17) (bb (qT gt18) b0))) rfl <|
  s1 pt20 (uP (qT gt16) (qT gt19) qB) <|
  sa pt5 (qT gt20) <|
  se) rfl) cT))
 (rT gt5 r0)⟩
theorem h93 : FnGood Pg 93 g93.1 := g93.2
theorem c93 {d : Option Nat} {ty : TypeId} {pos : String} {af : Array Edge} {g : Option (Nat × Bool)} {x : Operand} {xs : Array Operand} {ats : Array TypeId} : DXOk Pg ⟨d, .call { callee := .value x, args := xs, argTypes := ats }, ty, pos, af, g⟩ (xCallD [(93, g93.1)]) := oG (tb1 h93 tb0)
/- slices.IndexFunc[[]wellspring/query.Out,wellspring/query.Out] -/
noncomputable def g92 : {X : Xop // FnGood Pg 92 X} := ⟨_, fN' rfl Tryz.func92 (by decide) Tryz.ntmps92 Tryz.results92 rfl
 (cS (cR (sa pt4 (qI (.ofNat 0)) <|
  se) rfl) (cS (cS (cR (sm pt6 (qT gt0) <|
  y1 pt7 (u1 k407 eLenSlc rfl (qT gt6)) <|
  sm pt8 (qI (.ofNat 0)) <|
  se) rfl) (cB (cO (cS (cR (y2 pt9 (iLss (qT gt8) (qT gt7)) <|
  se) rfl) (cS (cC gt9 cK cE) (cS (cB (cS (cR (sm pt10 (qT gt8) <|
  sa pt5 (qT gt10) <|
  se) rfl) (cS (cR (sm pt11 (qT gt1) <|
  sm pt12 (qT gt0) <|
  sm pt13 (qT gt5) <|
  y2 pt14 (u2 k408 eIaddr rfl (qT gt12) (qT gt13)) <|
  y1 pt15 (u1 k324 eLoadN rfl (qT gt14)) <|
  s1 pt16 (u0 c93 (bb (qT gt11) (bb (qT gt15) b0))) <|
  se) rfl) (cC gt16 (cS (cR (sm pt17 (qT gt5) <|
  sa pt4 (qT gt17) <|
  se) rfl) cT) cK)))) cX)))))) cX))
 (rT gt4 r0)⟩
theorem h92 : FnGood Pg 92 g92.1 := g92.2
theorem c92 {d : Option Nat} {ty : TypeId} {pos : String} {af : Array Edge} {g : Option (Nat × Bool)} {x : Operand} {xs : Array Operand} {ats : Array TypeId} : DXOk Pg ⟨d, .call { callee := .value x, args := xs, argTypes := ats }, ty, pos, af, g⟩ (xCallD [(92, g92.1)]) := oG (tb1 h92 tb0)
/- wellspring/query.Match -/
noncomputable def g39 : {X : Xop // FnGood Pg 39 X} := ⟨_, fN' rfl Tryz.func39 (by decide) Tryz.ntmps39 Tryz.results39 rfl
 (cS (cR (s1 pt5 (u0 oX (bb (qT gt1) b0)) <|
  s1 pt6 (u0 oX (bb (qT gt2) b0)) <|
  sa pt8 (qI (.ofNat 0)) <|
  s1 pt9 (u0 k130 b0) <|
  sa pt10 (qI (.ofNat 0)) <|
  se) rfl) (cS (cR (sm pt15 (qT gt3) <|
  s1 pt16 (uC rfl h91 (bb (qT gt15) b0)) <|
  sm pt14 (qT gt16) <|
  y1 pt17 (fEx (qT gt14)) <|
  y1 pt18 (fEx (qT gt14)) <|
  s1 pt11 (u0 k130 b0) <|
  y0 (u2 k132 eStore rfl (qT gt11) (qT gt17)) <|
  sa pt12 (qT gt18) <|
  se) rfl) (cS (cS (cR (sm pt19 (qT gt12) <|
  y2 pt20 (iNeq (qT gt19) (qI (.ofNat 0))) <|
  sm pt21 (qT gt20) <|
  g1 gt21 pt22 (u1 k52 eFaddr rfl (qT gt11)) rfl <|
  g1 gt21 pt23 (u1 k5 eLoad rfl (qT gt22)) rfl <|
  g1 gt21 pt24 (uC rfl h81 (bb (qI (.ofNat 0)) (bb (qT gt23) b0))) rfl <|
  g1 gt21 pt25 (iEql (qT gt24) (qI (.ofNat 0))) rfl <|
  s1 pt26 (uP (qT gt21) qB (qT gt25)) <|
  sm pt27 (qT gt26) <|
  g1 gt27 pt28 (u1 k52 eFaddr rfl (qT gt11)) rfl <|
  g1 gt27 pt29 (u1 k5 eLoad rfl (qT gt28)) rfl <|
  g1 gt27 pt30 (uC rfl h81 (bb (qI (.ofNat 1)) (bb (qT gt29) b0))) rfl <|
  g1 gt27 pt31 (iNeq (qT gt30) (qI (.ofNat 0))) rfl <|
  s1 pt32 (uP (qT gt27) qB (qT gt31)) <|
  sm pt33 (qT gt32) <|
  g1 gt33 pt34 (u1 k41 eFaddr rfl (qT gt11)) rfl <|
  g1 gt33 pt35 (u1 k42 eLoad rfl (qT gt34)) rfl <|
  g1 gt33 pt36 (u1 k43 eLenSlc rfl (qT gt35)) rfl <|
  g1 gt33 pt37 (iNeq (qT gt36) (qI (.ofNat 1))) rfl <|
  s1 pt38 (uP (qT gt33) qB (qT gt37)) <|
  se) rfl) (cC gt38 cX cK)) (cS (cR (sm pt40 (qT gt0) <|
  s1 pt41 (u0 (oF0 rfl) (bb (qT gt5) (bb (qT gt6) (bb (qT gt11) b0)))) <|
  s1 pt42 (uC rfl h92 (bb (qT gt40) (bb (qT gt41) b0))) <|
  sa pt13 (qT gt42) <|
  se) rfl) (cS (cS (cR (sm pt43 (qT gt13) <|
  y2 pt44 (iLss (qT gt43) (qI (.ofNat 0))) <|
  se) rfl) (cC gt44 cX cK)) (cS (cD mo (d1 0 0 rfl pt46 oM (aT gt13 a0) <|
  d1 1 0 rfl pt47 k65 (aT gt11 a0) <|
  d1 2 1 rfl pt8 oA (aT gt46 a0) <|
  d0 3 7 rfl k132 (aT gt9 (aT gt47 a0)) <|
  d1 4 15 rfl pt10 oA (aI (.ofNat 0) a0) <|
  de) rfl rfl rfl) cT))))))
 (rT gt8 (rR gt9 underlying37 rfl i37 rfl (rT gt10 r0)))⟩
theorem h39 : FnGood Pg 39 g39.1 := g39.2
theorem c39 {d : Option Nat} {ty : TypeId} {pos : String} {af : Array Edge} {g : Option (Nat × Bool)} {x : Operand} {xs : Array Operand} {ats : Array TypeId} : DXOk Pg ⟨d, .call { callee := .value x, args := xs, argTypes := ats }, ty, pos, af, g⟩ (xCallD [(39, g39.1)]) := oG (tb1 h39 tb0)
/- slices.Delete[[]wellspring/query.Out,wellspring/query.Out] -/
noncomputable def g40 : {X : Xop // FnGood Pg 40 X} := ⟨_, fN' rfl Tryz.func40 (by decide) Tryz.ntmps40 Tryz.results40 rfl
 (cS (cR (sa pt6 (qV (.one (.nils)) rfl) <|
  se) rfl) (cS (cR (sm pt8 (qT gt0) <|
  sm pt9 (qT gt1) <|
  sm pt10 (qT gt2) <|
  sm pt11 (qT gt0) <|
  y1 pt12 (u1 k407 eLenSlc rfl (qT gt11)) <|
  s1 pt13 (u0 k409 (bb (qT gt8) (bb (qT gt9) (bb (qT gt10) (bb (qT gt12) b0))))) <|
  se) rfl) (cS (cS (cR (sm pt14 (qT gt1) <|
  sm pt15 (qT gt2) <|
  y2 pt16 (iEql (qT gt14) (qT gt15)) <|
  se) rfl) (cC gt16 cX cK)) (cS (cR (sm pt18 (qT gt0) <|
  y1 pt19 (u1 k407 eLenSlc rfl (qT gt18)) <|
  sa pt7 (qT gt19) <|
  se) rfl) (cS (cD mo (d1 0 0 rfl pt20 oM (aT gt0 a0) <|
  d1 1 0 rfl pt21 oM (aT gt1 a0) <|
  d1 2 3 rfl pt22 k410 (aT gt20 (aT gt21 a0)) <|
  d1 3 0 rfl pt23 oM (aT gt0 a0) <|
  d1 4 0 rfl pt24 oM (aT gt2 a0) <|
  d1 5 24 rfl pt25 k411 (aT gt23 (aT gt24 a0)) <|
  d1 6 63 rfl pt26 k336 (aT gt22 (aT gt25 a0)) <|
  d1 7 127 rfl pt0 oA (aT gt26 a0) <|
  de) rfl rfl rfl) (cS (cR (sm pt27 (qT gt0) <|
  sm pt28 (qT gt0) <|
  y1 pt29 (u1 k407 eLenSlc rfl (qT gt28)) <|
  sm pt30 (qT gt7) <|
  s1 pt31 (u0 k412 (bb (qT gt27) (bb (qT gt29) (bb (qT gt30) b0)))) <|
  s0 (u0 k413 (bb (qT gt31) b0)) <|
  se) rfl) (cS (cR (sm pt32 (qT gt0) <|
  sa pt6 (qT gt32) <|
  se) rfl) cT)))))))
 (rT gt6 r0)⟩
theorem h40 : FnGood Pg 40 g40.1 := g40.2
theorem c40 {d : Option Nat} {ty : TypeId} {pos : String} {af : Array Edge} {g : Option (Nat × Bool)} {x : Operand} {xs : Array Operand} {ats : Array TypeId} : DXOk Pg ⟨d, .call { callee := .value x, args := xs, argTypes := ats }, ty, pos, af, g⟩ (xCallD [(40, g40.1)]) := oG (tb1 h40 tb0)
/- slices.Clone[[]wellspring/query.Out,wellspring/query.Out] -/
noncomputable def g41 : {X : Xop // FnGood Pg 41 X} := ⟨_, fN' rfl Tryz.func41 (by decide) Tryz.ntmps41 Tryz.results41 rfl
 (cS (cR (sa pt2 (qV (.one (.nils)) rfl) <|
  se) rfl) (cS (cS (cR (sm pt3 (qT gt0) <|
  s1 pt4 (u0 k414 (bb (qT gt3) (bb (qV (.one (.nils)) rfl) b0))) <|
  se) rfl) (cC gt4 cX cK)) (cS (cR (s1 pt5 (u0 k415 b0) <|
  sm pt6 (qT gt0) <|
  s1 pt7 (u0 k336 (bb (qT gt5) (bb (qT gt6) b0))) <|
  sa pt2 (qT gt7) <|
  se) rfl) cT)))
 (rT gt2 r0)⟩
theorem h41 : FnGood Pg 41 g41.1 := g41.2
theorem c41 {d : Option Nat} {ty : TypeId} {pos : String} {af : Array Edge} {g : Option (Nat × Bool)} {x : Operand} {xs : Array Operand} {ats : Array TypeId} : DXOk Pg ⟨d, .call { callee := .value x, args := xs, argTypes := ats }, ty, pos, af, g⟩ (xCallD [(41, g41.1)]) := oG (tb1 h41 tb0)
/- wellspring/age.Until -/
noncomputable def g105 : {X : Xop // FnGood Pg 105 X} := ⟨_, fN' rfl Tryz.func105 (by decide) Tryz.ntmps105 Tryz.results105 rfl
 (cS (cR (sa pt4 (qI (.ofNat 0)) <|
  se) rfl) (cS (cS (cR (sm pt5 (qT gt0) <|
  s1 pt6 (uC rfl h182 (bb (qT gt5) (bb (qI (.ofNat 1099511627776)) b0))) <|
  y1 pt7 (fNo (qT gt6)) <|
  sm pt8 (qT gt7) <|
  g1 gt8 pt9 (fMv (qT gt1)) rfl <|
  g1 gt8 pt10 (iLss (qT gt9) (qI (.ofNat 0))) rfl <|
  s1 pt11 (uP (qT gt8) qB (qT gt10)) <|
  se) rfl) (cC gt11 cX cK)) (cS (cR (sm pt12 (qT gt0) <|
  sm pt13 (qT gt1) <|
  s1 pt14 (u0 bMin (bb (qT gt13) (bb (qI (.ofNat 604800)) b0))) <|
  y2 pt15 (iAdd (qT gt12) (qT gt14)) <|
  sa pt4 (qT gt15) <|
  se) rfl) cT)))
 (rT gt4 r0)⟩
theorem h105 : FnGood Pg 105 g105.1 := g105.2
theorem c105 {d : Option Nat} {ty : TypeId} {pos : String} {af : Array Edge} {g : Option (Nat × Bool)} {x : Operand} {xs : Array Operand} {ats : Array TypeId} : DXOk Pg ⟨d, .call { callee := .value x, args := xs, argTypes := ats }, ty, pos, af, g⟩ (xCallD [(105, g105.1)]) := oG (tb1 h105 tb0)
/- (*wellspring/store.Store).Put$1 -/
noncomputable def g106 : {X : Xop // DefGood Pg 106 X} := ⟨_, fD Tryz.func106 (by decide) Tryz.ntmps106 Tryz.results106 rfl
 (cS (cR (y1 pt2 (u1 k416 eLoad rfl (qT gt0)) <|
  y2 pt3 (iEql (qT gt2) (qI (.ofNat 0))) <|
  se) rfl) (cC gt3 (cR (y1 pt4 (u1 k164 eLoad rfl (qT gt1)) <|
  y1 pt5 (fNc (qT gt4)) <|
  y1 pt6 (u1 k201 eFaddr rfl (qT gt5)) <|
  y1 pt7 (u1 k5 eLoad rfl (qT gt6)) <|
  y2 pt8 (iAdd (qT gt7) (qI (.ofNat 1))) <|
  y1 pt9 (fNc (qT gt4)) <|
  y1 pt10 (u1 k201 eFaddr rfl (qT gt9)) <|
  y0 (u2 k69 eStore rfl (qT gt10) (qT gt8)) <|
  se) rfl) cK))
 r0⟩
theorem h106 : DefGood Pg 106 g106.1 := g106.2
/- (*wellspring/store.Store).may -/
noncomputable def g107 : {X : Xop // FnGood Pg 107 X} := ⟨_, fN' rfl Tryz.func107 (by decide) Tryz.ntmps107 Tryz.results107 rfl
 (cS (cR (s1 pt5 (u0 oX (bb (qT gt2) b0)) <|
  sa pt6 (qI (.ofNat 0)) <|
  se) rfl) (cS (cS (cR (sm pt9 (qT gt0) <|
  s1 pt10 (u0 k156 (bb (qT gt9) (bb (qV (.one (.nilp)) rfl) b0))) <|
  sm pt11 (qT gt10) <|
  g1 gt11 pt12 (u1 k160 eFaddr rfl (qT gt5)) rfl <|
  g1 gt11 pt13 (u1 k5 eLoad rfl (qT gt12)) rfl <|
  g1 gt11 pt14 (iLss (qT gt13) (qI (.ofNat 0))) rfl <|
  s1 pt15 (uP (qT gt11) qB (qT gt14)) <|
  sm pt16 (qT gt15) <|
  g1 gt16 pt17 (u1 k152 eFaddr rfl (qT gt5)) rfl <|
  g1 gt16 pt18 (u1 k169 eLoadN rfl (qT gt17)) rfl <|
  g1 gt16 pt19 (uC rfl h183 (bb (qT gt18) b0)) rfl <|
  g1 gt16 pt20 (fNo (qT gt19)) rfl <|
  s1 pt21 (uP (qT gt16) qB (qT gt20)) <|
  sm pt22 (qT gt21) <|
  g1 gt22 pt23 (u1 k166 eFaddr rfl (qT gt5)) rfl <|
  g1 gt22 pt24 (u1 k5 eLoad rfl (qT gt23)) rfl <|
  g1 gt22 pt25 (iLss (qT gt24) (qI (.ofNat 1))) rfl <|
  s1 pt26 (uP (qT gt22) qB (qT gt25)) <|
  sm pt27 (qT gt26) <|
  g1 gt27 pt28 (u1 k166 eFaddr rfl (qT gt5)) rfl <|
  g1 gt27 pt29 (u1 k5 eLoad rfl (qT gt28)) rfl <|
  g1 gt27 pt30 (iGtr (qT gt29) (qI (.ofNat 5))) rfl <|
  s1 pt31 (uP (qT gt27) qB (qT gt30)) <|
  se) rfl) (cC gt31 cX cK)) (cS (cS (cR (sm pt32 (qT gt1) <|
  y1 pt33 (u1 k160 eFaddr rfl (qT gt5)) <|
  y1 pt34 (u1 k5 eLoad rfl (qT gt33)) <|
  s1 pt35 (uC rfl h113 (bb (qT gt32) (bb (qT gt34) b0))) <|
  y1 pt36 (fNo (qT gt35)) <|
  se) rfl) (cC gt36 cX cK)) (cS (cD mo (d1 0 0 rfl pt38 oM (aT gt0 a0) <|
  d1 1 1 rfl pt39 oC (aT gt38 a0) <|
  d1 2 3 rfl pt40 k157 (aT gt39 a0) <|
  d1 3 7 rfl pt41 k158 (aT gt40 a0) <|
  d1 4 0 rfl pt42 k152 (aT gt5 a0) <|
  d1 5 16 rfl pt43 k171 (aT gt42 a0) <|
  d1 6 48 rfl pt44 k45 (aT gt43 a0) <|
  d1 7 127 rfl pt45 k159 (aT gt41 (aT gt44 a0)) <|
  d1 8 255 rfl pt37 oM (aT gt45 a0) <|
  d1 9 511 rfl pt46 oE (aT gt37 a0) <|
  d1 10 511 rfl pt47 oE (aT gt37 a0) <|
  d1 11 0 rfl pt7 k151 a0 <|
  d0 12 3071 rfl k155 (aT gt7 (aT gt46 a0)) <|
  d1 13 8191 rfl pt8 oA (aT gt47 a0) <|
  de) rfl rfl rfl) (cS (cS (cD mo (d1 0 0 rfl pt48 oM (aT gt8 a0) <|
  d1 1 1 rfl pt49 oM (aT gt48 a0) <|
  e1 2 3 gt49 rfl pt50 k166 (aT gt7 a0) rfl <|
  e1 3 7 gt49 rfl pt51 k5 (aT gt50 a0) rfl <|
  e1 4 3 gt49 rfl pt52 oM (aT gt1 a0) rfl <|
  e1 5 3 gt49 rfl pt53 k160 (aT gt7 a0) rfl <|
  e1 6 35 gt49 rfl pt54 k5 (aT gt53 a0) rfl <|
  e1 8 3 gt49 rfl pt56 k166 (aT gt5 a0) rfl <|
  e1 9 259 gt49 rfl pt57 k5 (aT gt56 a0) rfl <|
  e1 7 115 gt49 rfl pt55 (oG tb0) (aU rfl (aT gt52 (aT gt54 a0))) rfl <|
  e1 10 1023 gt49 rfl pt58 (oG tb0) (aU rfl (aT gt51 (aT gt55 (aT gt57 a0)))) rfl <|
  e1 11 2047 gt49 rfl pt59 oN (aT gt58 a0) rfl <|
  d1 12 4095 rfl pt60 oP (aT gt49 (aT gt59 (aV (.one (.bool false)) rfl a0))) <|
  de) rfl rfl rfl) (cC gt60 cX cK)) (cS (cR (sa pt6 (qI (.ofNat 0)) <|
  se) rfl) cT))))))
 (rT gt6 r0)⟩
theorem h107 : FnGood Pg 107 g107.1 := g107.2
theorem c107 {d : Option Nat} {ty : TypeId} {pos : String} {af : Array Edge} {g : Option (Nat × Bool)} {x : Operand} {xs : Array Operand} {ats : Array TypeId} : DXOk Pg ⟨d, .call { callee := .value x, args := xs, argTypes := ats }, ty, pos, af, g⟩ (xCallD [(107, g107.1)]) := oG (tb1 h107 tb0)
/- wellspring/lru.Cut[wellspring/api.Question] -/
noncomputable def g109 : {X : Xop // FnGood Pg 109 X} := ⟨_, fN' rfl Tryz.func109 (by decide) Tryz.ntmps109 Tryz.results109 rfl
 (cS (cR (sa pt4 (qV (.one (.nils)) rfl) <|
  sa pt5 (qV (.one (.nils)) rfl) <|
  se) rfl) (cS (cR (sm pt7 (qT gt0) <|
  y1 pt8 (u1 k43 eLenSlc rfl (qT gt7)) <|
  sm pt9 (qT gt1) <|
  sm pt10 (qT gt0) <|
  y1 pt11 (u1 k43 eLenSlc rfl (qT gt10)) <|
  s1 pt12 (u0 bMin (bb (qT gt9) (bb (qT gt11) b0))) <|
  s1 pt13 (u0 bMax (bb (qT gt12) (bb (qI (.ofNat 0)) b0))) <|
  y2 pt14 (iSub (qT gt8) (qT gt13)) <|
  sa pt6 (qT gt14) <|
  se) rfl) (cS (cD mo (d1 0 0 rfl pt15 oM (aT gt0 a0) <|
  d1 1 0 rfl pt16 oM (aT gt6 a0) <|
  d1 2 3 rfl pt17 k267 (aT gt15 (aT gt16 a0)) <|
  d1 4 0 rfl pt19 oM (aT gt0 a0) <|
  d1 5 0 rfl pt20 oM (aT gt6 a0) <|
  d1 6 48 rfl pt21 k269 (aT gt19 (aT gt20 a0)) <|
  d1 3 7 rfl pt18 c185 (aU rfl (aT gt17 a0)) <|
  d1 7 127 rfl pt22 c185 (aU rfl (aT gt21 a0)) <|
  d1 8 255 rfl pt4 oA (aT gt18 a0) <|
  d1 9 511 rfl pt5 oA (aT gt22 a0) <|
  de) rfl rfl rfl) cT)))
 (rT gt4 (rT gt5 r0))⟩
theorem h109 : FnGood Pg 109 g109.1 := g109.2
theorem c109 {d : Option Nat} {ty : TypeId} {pos : String} {af : Array Edge} {g : Option (Nat × Bool)} {x : Operand} {xs : Array Operand} {ats : Array TypeId} : DXOk Pg ⟨d, .call { callee := .value x, args := xs, argTypes := ats }, ty, pos, af, g⟩ (xCallD [(109, g109.1)]) := oG (tb1 h109 tb0)
/- (*wellspring/store.Store).Put -/
noncomputable def g50 : {X : Xop // FnGood Pg 50 X} := ⟨_, fM rfl Tryz.func50 (by decide) Tryz.ntmps50 Tryz.results50 rfl (td1 h106 td0)
 (mS (mG (cR (s1 pt4 (u0 oX (bb (qT gt0) b0)) <|
  s1 pt6 (u0 oX (bb (qT gt2) b0)) <|
  s1 pt8 (u0 k417 b0) <|
  se) rfl)) (mS (mG (cD mo (d1 0 0 rfl pt14 k169 (aT gt6 a0) <|
  d1 1 0 rfl pt15 oM (aT gt1 a0) <|
  d1 2 0 rfl pt16 k339 (aT gt6 a0) <|
  d1 3 4 rfl pt17 k5 (aT gt16 a0) <|
  d1 5 0 rfl pt19 oM (aT gt3 a0) <|
  d1 7 0 rfl pt9 k151 a0 <|
  d1 4 14 rfl pt18 c105 (aU rfl (aT gt15 (aT gt17 a0))) <|
  d1 6 63 rfl pt20 k418 (aT gt14 (aT gt18 (aT gt19 a0))) <|
  d0 8 255 rfl k155 (aT gt9 (aT gt20 a0)) <|
  de) rfl rfl rfl)) (mS (mD (sd1 pt21 (u0 (oF0 rfl) (bb (qT gt8) (bb (qT gt4) b0))) <|
  sde (qT gt21) b0) rfl) (mG (cS (cS (cR (y1 pt22 (u1 k164 eLoad rfl (qT gt4)) <|
  sm pt23 (qT gt1) <|
  y1 pt24 (u1 k154 eLoadN rfl (qT gt9)) <|
  s1 pt25 (uC rfl h107 (bb (qT gt22) (bb (qT gt23) (bb (qT gt24) b0)))) <|
  y0 (u2 k419 eStore rfl (qT gt8) (qT gt25)) <|
  se) rfl) (cS (cR (y1 pt26 (u1 k416 eLoad rfl (qT gt8)) <|
  y2 pt27 (iNeq (qT gt26) (qI (.ofNat 0))) <|
  se) rfl) (cC gt27 cX cK))) (cS (cD mo (d1 0 0 rfl pt29 k164 (aT gt4 a0) <|
  d1 1 1 rfl pt30 oC (aT gt29 a0) <|
  d1 2 3 rfl pt31 k157 (aT gt30 a0) <|
  d1 3 7 rfl pt32 k158 (aT gt31 a0) <|
  d1 4 0 rfl pt33 k171 (aT gt6 a0) <|
  d1 5 16 rfl pt34 k45 (aT gt33 a0) <|
  d1 6 0 rfl pt35 k154 (aT gt9 a0) <|
  d1 7 64 rfl pt36 c108 (aU rfl (aT gt35 a0)) <|
  d0 8 255 rfl k420 (aT gt32 (aT gt34 (aT gt36 a0))) <|
  de) rfl rfl rfl) (cS (cD mo (d1 0 0 rfl pt38 k164 (aT gt4 a0) <|
  d1 1 1 rfl pt39 oC (aT gt38 a0) <|
  d1 2 3 rfl pt40 k270 (aT gt39 a0) <|
  d1 3 7 rfl pt41 k42 (aT gt40 a0) <|
  d1 4 0 rfl pt42 k171 (aT gt6 a0) <|
  d1 5 16 rfl pt43 k45 (aT gt42 a0) <|
  d1 7 0 rfl pt45 k164 (aT gt4 a0) <|
  d1 8 128 rfl pt46 oC (aT gt45 a0) <|
  d1 9 384 rfl pt47 k421 (aT gt46 a0) <|
  d1 10 896 rfl pt48 k5 (aT gt47 a0) <|
  d1 6 63 rfl pt44 c110 (aU rfl (aT gt41 (aT gt43 a0))) <|
  d1 11 2047 rfl pt49 c109 (aU rfl (aT gt44 (aT gt48 a0))) <|
  d1 12 4095 rfl pt37 oM (aT gt49 a0) <|
  d1 13 8191 rfl pt50 oE (aT gt37 a0) <|
  d1 14 8191 rfl pt51 oE (aT gt37 a0) <|
  d1 15 16383 rfl pt10 oA (aT gt50 a0) <|
  d1 16 65535 rfl pt11 oA (aT gt51 a0) <|
  de) rfl rfl rfl) (cS (cS (cR (sm pt52 (qT gt11) <|
  y1 pt53 (u1 k43 eLenSlc rfl (qT gt52)) <|
  sm pt54 (qI (.ofNat 0)) <|
  se) rfl) (cB (cO (cS (cR (y2 pt55 (iLss (qT gt54) (qT gt53)) <|
  se) rfl) (cS (cC gt55 cK cE) cX))))) (cS (cR (y1 pt64 (u1 k164 eLoad rfl (qT gt4)) <|
  sm pt65 (qT gt10) <|
  y1 pt66 (fNc (qT gt64)) <|
  y1 pt67 (u1 k270 eFaddr rfl (qT gt66)) <|
  y0 (u2 k135 eStore rfl (qT gt67) (qT gt65)) <|
  se) rfl) (cS (cR (y0 (u2 k419 eStore rfl (qT gt8) (qI (.ofNat 0))) <|
  se) rfl) cT))))))))))
 (rC gt8 underlying24 rfl r0)⟩
theorem h50 : FnGood Pg 50 g50.1 := g50.2
theorem c50 {d : Option Nat} {ty : TypeId} {pos : String} {af : Array Edge} {g : Option (Nat × Bool)} {x : Operand} {xs : Array Operand} {ats : Array TypeId} : DXOk Pg ⟨d, .call { callee := .value x, args := xs, argTypes := ats }, ty, pos, af, g⟩ (xCallD [(50, g50.1)]) := oG (tb1 h50 tb0)
/- (wellspring/scrub.answer).all -/
noncomputable def g165 : {X : Xop // FnGood Pg 165 X} := ⟨_, fN' rfl Tryz.func165 (by decide) Tryz.ntmps165 Tryz.results165 rfl
 (cS (cR (s1 pt1 (u0 oX (bb (qT gt0) b0)) <|
  sa pt2 (qV (.one (.nilf)) rfl) <|
  se) rfl) (cS (cR (s1 pt3 (u0 (oF0 rfl) (bb (qT gt1) b0)) <|
  sa pt2 (qT gt3) <|
  se) rfl) cT))
 (rT gt2 r0)⟩
theorem h165 : FnGood Pg 165 g165.1 := g165.2
theorem c165 {d : Option Nat} {ty : TypeId} {pos : String} {af : Array Edge} {g : Option (Nat × Bool)} {x : Operand} {xs : Array Operand} {ats : Array TypeId} : DXOk Pg ⟨d, .call { callee := .value x, args := xs, argTypes := ats }, ty, pos, af, g⟩ (xCallD [(165, g165.1)]) := oG (tb1 h165 tb0)
/- wellspring/rank.ranks -/
noncomputable def g214 : {X : Xop // FnGood Pg 214 X} := ⟨_, fN' rfl Tryz.func214 (by decide) Tryz.ntmps214 Tryz.results214 rfl
 (cS (cR (s1 pt0 (u0 k422 b0) <|
  se) rfl) (cS (cR (s1 pt1 (u0 k206 (bb (qI (.ofNat 3)) (bb (qI (.ofNat 5)) b0))) <|
  s1 pt2 (u0 k206 (bb (qI (.ofNat 1)) (bb (qI (.ofNat 4)) b0))) <|
  s1 pt3 (u0 k206 (bb (qI (.ofNat 1)) (bb (qI (.ofNat 2)) b0))) <|
  s1 pt4 (u0 k423 (bb (qT gt1) (bb (qT gt2) (bb (qT gt3) b0)))) <|
  y0 (u2 k424 eStore rfl (qT gt0) (qT gt4)) <|
  se) rfl) cT))
 (rR gt0 underlying322 rfl i322 rfl r0)⟩
theorem h214 : FnGood Pg 214 g214.1 := g214.2
theorem c214 {d : Option Nat} {ty : TypeId} {pos : String} {af : Array Edge} {g : Option (Nat × Bool)} {x : Operand} {xs : Array Operand} {ats : Array TypeId} : DXOk Pg ⟨d, .call { callee := .value x, args := xs, argTypes := ats }, ty, pos, af, g⟩ (xCallD [(214, g214.1)]) := oG (tb1 h214 tb0)
/- (wellspring/rank.Section).Rank -/
noncomputable def g166 : {X : Xop // FnGood Pg 166 X} := ⟨_, fN' rfl Tryz.func166 (by decide) Tryz.ntmps166 Tryz.results166 rfl
 (cS (cR (sa pt4 (qI (.ofNat 0)) <|
  se) rfl) (cS (cS (cR (sm pt6 (qT gt0) <|
  y2 pt7 (iLss (qT gt6) (qI (.ofNat 0))) <|
  sm pt8 (qT gt7) <|
  g1 gt8 pt9 (fMv (qT gt0)) rfl <|
  g1 gt8 pt10 (iGeq (qT gt9) (qI (.ofNat 3))) rfl <|
  s1 pt11 (uP (qT gt8) qB (qT gt10)) <|
  se) rfl) (cC gt11 cX cK)) (cS (cR (s1 pt12 (uC rfl h214 b0) <|
  sm pt13 (qT gt0) <|
  s1 pt14 (u0 k425 (bb (qT gt12) (bb (qT gt13) b0))) <|
  s1 pt5 (u0 k205 b0) <|
  y0 (u2 k207 eStore rfl (qT gt5) (qT gt14)) <|
  se) rfl) (cS (cS (cR (sm pt15 (qT gt1) <|
  se) rfl) (cC gt15 (cS (cR (s1 pt16 (u0 k426 (bb (qT gt5) (bb (qI (.ofNat 1)) b0))) <|
  y1 pt17 (u1 k5 eLoad rfl (qT gt16)) <|
  sa pt4 (qT gt17) <|
  se) rfl) cT) cK)) cX))))
 (rT gt4 r0)⟩
theorem h166 : FnGood Pg 166 g166.1 := g166.2
theorem c166 {d : Option Nat} {ty : TypeId} {pos : String} {af : Array Edge} {g : Option (Nat × Bool)} {x : Operand} {xs : Array Operand} {ats : Array TypeId} : DXOk Pg ⟨d, .call { callee := .value x, args := xs, argTypes := ats }, ty, pos, af, g⟩ (xCallD [(166, g166.1)]) := oG (tb1 h166 tb0)
/- wellspring/name.In -/
noncomputable def g169 : {X : Xop // FnGood Pg 169 X} := ⟨_, fN' rfl Tryz.func169 (by decide) Tryz.ntmps169 Tryz.results169 rfl
 (cS (cR (sa pt4 qB <|
  se) rfl) (cS (cS (cR (sm pt7 (qT gt0) <|
  sm pt8 (qT gt0) <|
  s1 pt9 (uC rfl h83 (bb (qT gt8) b0)) <|
  sa pt5 (qT gt7) <|
  sa pt6 (qT gt9) <|
  se) rfl) (cB (cO (cS (cS (cR (sm pt10 (qT gt6) <|
  se) rfl) (cC gt10 cK cE)) (cS (cB (cS (cR (sm pt16 (qT gt5) <|
  sm pt17 (qT gt1) <|
  s1 pt18 (uC rfl h220 (bb (qT gt16) (bb (qT gt17) b0))) <|
  se) rfl) (cC gt18 (cS (cR (sa pt4 qB <|
  se) rfl) cT) cK))) (cR (sm pt12 (qT gt5) <|
  s1 pt13 (uC rfl h219 (bb (qT gt12) b0)) <|
  sm pt11 (qT gt13) <|
  y1 pt14 (fEx (qT gt11)) <|
  y1 pt15 (fEx (qT gt11)) <|
  sa pt5 (qT gt14) <|
  sa pt6 (qT gt15) <|
  se) rfl)))))) cX))
 (rT gt4 r0)⟩
theorem h169 : FnGood Pg 169 g169.1 := g169.2
theorem c169 {d : Option Nat} {ty : TypeId} {pos : String} {af : Array Edge} {g : Option (Nat × Bool)} {x : Operand} {xs : Array Operand} {ats : Array TypeId} : DXOk Pg ⟨d, .call { callee := .value x, args := xs, argTypes := ats }, ty, pos, af, g⟩ (xCallD [(169, g169.1)]) := oG (tb1 h169 tb0)
/- (wellspring/scrub.answer).sets$1 -/
noncomputable def g218 : {X : Xop // FnGood Pg 218 X} := ⟨_, fN' rfl Tryz.func218 (by decide) Tryz.ntmps218 Tryz.results218 rfl
 (cS (cR (s1 pt2 (u0 oX (bb (qT gt0) b0)) <|
  sa pt3 qB <|
  se) rfl) (cS (cR (y1 pt4 (u1 k171 eFaddr rfl (qT gt2)) <|
  y1 pt5 (u1 k50 eFaddr rfl (qT gt4)) <|
  y1 pt6 (u1 k5 eLoad rfl (qT gt5)) <|
  y2 pt7 (iNeq (qT gt6) (qI (.ofNat 1))) <|
  sm pt8 (qT gt7) <|
  g1 gt8 pt9 (u1 k171 eFaddr rfl (qT gt2)) rfl <|
  g1 gt8 pt10 (u1 k48 eFaddr rfl (qT gt9)) rfl <|
  g1 gt8 pt11 (u1 k3 eLoad rfl (qT gt10)) rfl <|
  g1 gt8 pt12 (u1 k427 eFaddr rfl (qT gt1)) rfl <|
  g1 gt8 pt13 (u1 k3 eLoad rfl (qT gt12)) rfl <|
  g1 gt8 pt14 (uC rfl h169 (bb (qT gt11) (bb (qT gt13) b0))) rfl <|
  g1 gt8 pt15 (fNo (qT gt14)) rfl <|
  s1 pt16 (uP (qT gt8) qB (qT gt15)) <|
  sa pt3 (qT gt16) <|
  se) rfl) cT))
 (rT gt3 r0)⟩
theorem h218 : FnGood Pg 218 g218.1 := g218.2
theorem c218 {d : Option Nat} {ty : TypeId} {pos : String} {af : Array Edge} {g : Option (Nat × Bool)} {x : Operand} {xs : Array Operand} {ats : Array TypeId} : DXOk Pg ⟨d, .call { callee := .value x, args := xs, argTypes := ats }, ty, pos, af, g⟩ (xCallD [(218, g218.1)]) := oG (tb1 h218 tb0)
/- wellspring/scrub.of$1 -/
noncomputable def g247 : {X : Xop // FnGood Pg 247 X} := ⟨_, fN' rfl Tryz.func247 (by decide) Tryz.ntmps247 Tryz.results247 rfl
 (cS (cR (s1 pt3 (u0 oX (bb (qT gt0) b0)) <|
  sa pt4 qB <|
  se) rfl) (cS (cR (y1 pt5 (u1 k171 eFaddr rfl (qT gt3)) <|
  y1 pt6 (u1 k48 eFaddr rfl (qT gt5)) <|
  y1 pt7 (u1 k3 eLoad rfl (qT gt6)) <|
  y1 pt8 (u1 k3 eLoad rfl (qT gt1)) <|
  s1 pt9 (u0 oS (bb (qT gt7) (bb (qT gt8) b0))) <|
  sm pt10 (qT gt9) <|
  g1 gt10 pt11 (u1 k171 eFaddr rfl (qT gt3)) rfl <|
  g1 gt10 pt12 (u1 k49 eFaddr rfl (qT gt11)) rfl <|
  g1 gt10 pt13 (u1 k5 eLoad rfl (qT gt12)) rfl <|
  g1 gt10 pt14 (u1 k5 eLoad rfl (qT gt2)) rfl <|
  g1 gt10 pt15 (iEql (qT gt13) (qT gt14)) rfl <|
  s1 pt16 (uP (qT gt10) (qT gt15) qB) <|
  sa pt4 (qT gt16) <|
  se) rfl) cT))
 (rT gt4 r0)⟩
theorem h247 : FnGood Pg 247 g247.1 := g247.2
theorem c247 {d : Option Nat} {ty : TypeId} {pos : String} {af : Array Edge} {g : Option (Nat × Bool)} {x : Operand} {xs : Array Operand} {ats : Array TypeId} : DXOk Pg ⟨d, .call { callee := .value x, args := xs, argTypes := ats }, ty, pos, af, g⟩ (xCallD [(247, g247.1)]) := oG (tb1 h247 tb0)
/- slices.IndexFunc[[]wellspring/api.Set,wellspring/api.Set] -/
noncomputable def g246 : {X : Xop // FnGood Pg 246 X} := ⟨_, fN' rfl Tryz.func246 (by decide) Tryz.ntmps246 Tryz.results246 rfl
 (cS (cR (sa pt4 (qI (.ofNat 0)) <|
  se) rfl) (cS (cS (cR (sm pt6 (qT gt0) <|
  y1 pt7 (u1 k428 eLenSlc rfl (qT gt6)) <|
  sm pt8 (qI (.ofNat 0)) <|
  se) rfl) (cB (cO (cS (cR (y2 pt9 (iLss (qT gt8) (qT gt7)) <|
  se) rfl) (cS (cC gt9 cK cE) (cS (cB (cS (cR (sm pt10 (qT gt8) <|
  sa pt5 (qT gt10) <|
  se) rfl) (cS (cR (sm pt11 (qT gt1) <|
  sm pt12 (qT gt0) <|
  sm pt13 (qT gt5) <|
  y2 pt14 (u2 k429 eIaddr rfl (qT gt12) (qT gt13)) <|
  y1 pt15 (u1 k169 eLoadN rfl (qT gt14)) <|
  s1 pt16 (u0 (oG (tb1 h218 (tb1 h247 tb0))) (bb (qT gt11) (bb (qT gt15) b0))) <|
  se) rfl) (cC gt16 (cS (cR (sm pt17 (qT gt5) <|
  sa pt4 (qT gt17) <|
  se) rfl) cT) cK)))) (cR (y2 pt18 (iAdd (qT gt8) (qI (.ofNat 1))) <|
  sm pt8 (qT gt18) <|
  se) rfl))))))) (cS (cR (sa pt4 (qI (.negSucc 0)) <|
  se) rfl) cT)))
 (rT gt4 r0)⟩
theorem h246 : FnGood Pg 246 g246.1 := g246.2
theorem c246 {d : Option Nat} {ty : TypeId} {pos : String} {af : Array Edge} {g : Option (Nat × Bool)} {x : Operand} {xs : Array Operand} {ats : Array TypeId} : DXOk Pg ⟨d, .call { callee := .value x, args := xs, argTypes := ats }, ty, pos, af, g⟩ (xCallD [(246, g246.1)]) := oG (tb1 h246 tb0)
/- slices.DeleteFunc[[]wellspring/api.Set,wellspring/api.Set] -/
noncomputable def g216 : {X : Xop // FnGood Pg 216 X} := ⟨_, fN' rfl Tryz.func216 (by decide) Tryz.ntmps216 Tryz.results216 rfl
 (cS (cR (sa pt4 (qV (.one (.nils)) rfl) <|
  se) rfl) (cS (cR (sm pt8 (qT gt0) <|
  sm pt9 (qT gt1) <|
  s1 pt10 (uC rfl h246 (bb (qT gt8) (bb (qT gt9) b0))) <|
  sa pt5 (qT gt10) <|
  se) rfl) (cS (cS (cR (sm pt11 (qT gt5) <|
  y2 pt12 (iEql (qT gt11) (qI (.negSucc 0))) <|
  se) rfl) (cC gt12 (cS (cR (sm pt13 (qT gt0) <|
  sa pt4 (qT gt13) <|
  se) rfl) cT) cK)) cX)))
 (rT gt4 r0)⟩
theorem h216 : FnGood Pg 216 g216.1 := g216.2
theorem c216 {d : Option Nat} {ty : TypeId} {pos : String} {af : Array Edge} {g : Option (Nat × Bool)} {x : Operand} {xs : Array Operand} {ats : Array TypeId} : DXOk Pg ⟨d, .call { callee := .value x, args := xs, argTypes := ats }, ty, pos, af, g⟩ (xCallD [(216, g216.1)]) := oG (tb1 h216 tb0)
/- wellspring/group.Key -/
noncomputable def g248 : {X : Xop // FnGood Pg 248 X} := ⟨_, fN' rfl Tryz.func248 (by decide) Tryz.ntmps248 Tryz.results248 rfl
 (cS (cR (s1 pt1 (u0 oX (bb (qT gt0) b0)) <|
  s1 pt2 (u0 k46 b0) <|
  se) rfl) (cS (cS (cR (y1 pt3 (u1 k40 eLoadN rfl (qT gt1)) <|
  s1 pt4 (uC rfl h190 (bb (qT gt3) b0)) <|
  y1 pt5 (fNo (qT gt4)) <|
  se) rfl) (cC gt5 cX cK)) (cS (cD mo (d1 0 0 rfl pt7 k33 (aT gt1 a0) <|
  d1 1 1 rfl pt8 k3 (aT gt7 a0) <|
  d1 3 0 rfl pt10 k34 (aT gt1 a0) <|
  d1 4 8 rfl pt11 k5 (aT gt10 a0) <|
  d1 5 0 rfl pt12 k35 (aT gt1 a0) <|
  d1 6 32 rfl pt13 k5 (aT gt12 a0) <|
  d1 2 3 rfl pt9 c36 (aU rfl (aT gt8 a0)) <|
  d1 7 127 rfl pt14 k104 (aT gt9 (aT gt11 (aT gt13 a0))) <|
  d0 8 255 rfl k47 (aT gt2 (aT gt14 a0)) <|
  de) rfl rfl rfl) cT)))
 (rR gt2 underlying31 rfl i31 rfl r0)⟩
theorem h248 : FnGood Pg 248 g248.1 := g248.2
theorem c248 {d : Option Nat} {ty : TypeId} {pos : String} {af : Array Edge} {g : Option (Nat × Bool)} {x : Operand} {xs : Array Operand} {ats : Array TypeId} : DXOk Pg ⟨d, .call { callee := .value x, args := xs, argTypes := ats }, ty, pos, af, g⟩ (xCallD [(248, g248.1)]) := oG (tb1 h248 tb0)
/- wellspring/group.From -/
noncomputable def g217 : {X : Xop // FnGood Pg 217 X} := ⟨_, fN' rfl Tryz.func217 (by decide) Tryz.ntmps217 Tryz.results217 rfl
 (cS (cR (sa pt2 (qV (.one (.nils)) rfl) <|
  se) rfl) (cS (cR (sa pt3 (qV (.one (.nils)) rfl) <|
  se) rfl) (cS (cR (s1 pt12 (u0 oZ b0) <|
  sa pt4 (qT gt12) <|
  se) rfl) (cS (cS (cR (sm pt13 (qT gt0) <|
  y1 pt14 (u1 k38 eLenSlc rfl (qT gt13)) <|
  sm pt15 (qI (.ofNat 0)) <|
  se) rfl) (cB (cO (cS (cR (y2 pt16 (iLss (qT gt15) (qT gt14)) <|
  se) rfl) (cS (cC gt16 cK cE) (cS (cB (cS (cR (y2 pt17 (u2 k39 eIaddr rfl (qT gt13) (qT gt15)) <|
  y1 pt18 (u1 k40 eLoadN rfl (qT gt17)) <|
  s1 pt6 (u0 k126 b0) <|
  y0 (u2 k129 eStore rfl (qT gt6) (qT gt18)) <|
  se) rfl) (cS (cS (cR (y1 pt19 (u1 k40 eLoadN rfl (qT gt6)) <|
  s1 pt20 (uC rfl h190 (bb (qT gt19) b0)) <|
  y1 pt21 (fNo (qT gt20)) <|
  sm pt22 (qT gt21) <|
  g1 gt22 pt23 (u1 k34 eFaddr rfl (qT gt6)) rfl <|
  g1 gt22 pt24 (u1 k5 eLoad rfl (qT gt23)) rfl <|
  g1 gt22 pt25 (iEql (qT gt24) (qI (.ofNat 41))) rfl <|
  s1 pt26 (uP (qT gt22) qB (qT gt25)) <|
  se) rfl) (cC gt26 cE cK)) (cS (cD mo (d1 0 0 rfl pt27 k40 (aT gt6 a0) <|
  d1 2 0 rfl pt29 k34 (aT gt6 a0) <|
  d1 3 4 rfl pt30 k5 (aT gt29 a0) <|
  d1 4 0 rfl pt31 k37 (aT gt6 a0) <|
  d1 5 16 rfl pt32 k3 (aT gt31 a0) <|
  d1 7 0 rfl pt7 k46 a0 <|
  d1 1 1 rfl pt28 c248 (aU rfl (aT gt27 a0)) <|
  d1 6 63 rfl pt33 c227 (aU rfl (aT gt30 (aT gt32 a0))) <|
  d0 8 255 rfl k47 (aT gt7 (aT gt28 a0)) <|
  d1 9 511 rfl pt8 oA (aT gt33 a0) <|
  de) rfl rfl rfl) (cS (cR (sm pt35 (qT gt4) <|
  y1 pt36 (u1 k45 eLoadN rfl (qT gt7)) <|
  s1 pt37 (u0 k430 (bb (qT gt35) (bb (qT gt36) b0))) <|
  sm pt34 (qT gt37) <|
  y1 pt38 (fEx (qT gt34)) <|
  y1 pt39 (fEx (qT gt34)) <|
  sa pt9 (qT gt38) <|
  sa pt10 (qT gt39) <|
  se) rfl) (cS (cS (cR (sm pt40 (qT gt10) <|
  y1 pt41 (fNo (qT gt40)) <|
  se) rfl) (cC gt41 (cS (cR (sm pt42 (qT gt3) <|
  y1 pt43 (u1 k428 eLenSlc rfl (qT gt42)) <|
  sa pt9 (qT gt43) <|
  se) rfl) (cS (cR (sm pt44 (qT gt4) <|
  y1 pt45 (u1 k45 eLoadN rfl (qT gt7)) <|
  sm pt46 (qT gt9) <|
  s0 (u0 k431 (bb (qT gt44) (bb (qT gt45) (bb (qT gt46) b0)))) <|
  se) rfl) (cR (sm pt47 (qT gt3) <|
  y1 pt48 (u1 k45 eLoadN rfl (qT gt7)) <|
  y1 pt49 (u1 k36 eFaddr rfl (qT gt6)) <|
  y1 pt50 (u1 k5 eLoad rfl (qT gt49)) <|
  s1 pt51 (u0 k432 (bb (qT gt48) (bb (qT gt50) b0))) <|
  s1 pt52 (u0 k433 (bb (qT gt51) b0)) <|
  s1 pt53 (u0 k434 (bb (qT gt47) (bb (qT gt52) b0))) <|
  sa pt3 (qT gt53) <|
  se) rfl))) cK)) (cS (cR (sm pt54 (qT gt3) <|
  sm pt55 (qT gt9) <|
  y2 pt56 (u2 k429 eIaddr rfl (qT gt54) (qT gt55)) <|
  sa pt11 (qT gt56) <|
  se) rfl) (cS (cD mo (d1 0 0 rfl pt57 oM (aT gt11 a0) <|
  d1 1 0 rfl pt58 oM (aT gt11 a0) <|
  d1 2 2 rfl pt59 oC (aT gt58 a0) <|
  d1 3 6 rfl pt60 k339 (aT gt59 a0) <|
  d1 4 14 rfl pt61 k5 (aT gt60 a0) <|
  d1 5 0 rfl pt62 k36 (aT gt6 a0) <|
  d1 6 32 rfl pt63 k5 (aT gt62 a0) <|
  d1 7 126 rfl pt64 bMin (aT gt61 (aT gt63 a0)) <|
  d1 8 255 rfl pt65 oC (aT gt57 a0) <|
  d1 9 511 rfl pt66 k339 (aT gt65 a0) <|
  d0 10 1023 rfl k69 (aT gt66 (aT gt64 a0)) <|
  de) rfl rfl rfl) (cS (cR (sm pt67 (qT gt11) <|
  y1 pt68 (fNc (qT gt67)) <|
  y1 pt69 (u1 k153 eFaddr rfl (qT gt68)) <|
  y1 pt70 (u1 k12 eLoad rfl (qT gt69)) <|
  sm pt71 (qT gt8) <|
  s1 pt72 (uC rfl h228 (bb (qT gt70) (bb (qT gt71) b0))) <|
  y1 pt73 (fNo (qT gt72)) <|
  se) rfl) (cC gt73 (cR (sm pt74 (qT gt11) <|
  sm pt75 (qT gt11) <|
  y1 pt76 (fNc (qT gt75)) <|
  y1 pt77 (u1 k153 eFaddr rfl (qT gt76)) <|
  y1 pt78 (u1 k12 eLoad rfl (qT gt77)) <|
  sm pt79 (qT gt8) <|
  s1 pt80 (u0 k24 (bb (qT gt79) b0)) <|
  s1 pt81 (u0 k15 (bb (qT gt78) (bb (qT gt80) b0))) <|
  y1 pt82 (fNc (qT gt74)) <|
  y1 pt83 (u1 k153 eFaddr rfl (qT gt82)) <|
  y0 (u2 k19 eStore rfl (qT gt83) (qT gt81)) <|
  se) rfl) cK)))))))))) (cR (y2 pt84 (iAdd (qT gt15) (qI (.ofNat 1))) <|
  sm pt15 (qT gt84) <|
  se) rfl))))))) (cS (cR (sm pt85 (qT gt3) <|
  sa pt2 (qT gt85) <|
  se) rfl) cT)))))
 (rT gt2 r0)⟩
theorem h217 : FnGood Pg 217 g217.1 := g217.2
theorem c217 {d : Option Nat} {ty : TypeId} {pos : String} {af : Array Edge} {g : Option (Nat × Bool)} {x : Operand} {xs : Array Operand} {ats : Array TypeId} : DXOk Pg ⟨d, .call { callee := .value x, args := xs, argTypes := ats }, ty, pos, af, g⟩ (xCallD [(217, g217.1)]) := oG (tb1 h217 tb0)
/- (wellspring/scrub.answer).sets -/
noncomputable def g168 : {X : Xop // FnGood Pg 168 X} := ⟨_, fN' rfl Tryz.func168 (by decide) Tryz.ntmps168 Tryz.results168 rfl
 (cS (cR (s1 pt2 (u0 oX (bb (qT gt0) b0)) <|
  sa pt4 (qV (.one (.nils)) rfl) <|
  se) rfl) (cS (cR (sm pt5 (qT gt1) <|
  s1 pt6 (uC rfl h217 (bb (qT gt5) b0)) <|
  s1 pt7 (u0 (oF0 rfl) (bb (qT gt2) b0)) <|
  s1 pt8 (uC rfl h216 (bb (qT gt6) (bb (qT gt7) b0))) <|
  sa pt4 (qT gt8) <|
  se) rfl) cT))
 (rT gt4 r0)⟩
theorem h168 : FnGood Pg 168 g168.1 := g168.2
theorem c168 {d : Option Nat} {ty : TypeId} {pos : String} {af : Array Edge} {g : Option (Nat × Bool)} {x : Operand} {xs : Array Operand} {ats : Array TypeId} : DXOk Pg ⟨d, .call { callee := .value x, args := xs, argTypes := ats }, ty, pos, af, g⟩ (xCallD [(168, g168.1)]) := oG (tb1 h168 tb0)
end Go.Proofs.YtddbhljljmijcaaGreat.V
