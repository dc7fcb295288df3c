/- Functions of the program, evaluated. -/
import Derived.Test.YtddbhljljmijcaaGreatTg
namespace Go.Proofs.YtddbhljljmijcaaGreat.V
open Go.RowKit Go.Proofs Go.Proofs.Tryz
set_option linter.unusedVariables false
set_option maxRecDepth 100000
/- (wellspring/scrub.answer).all$1 -/
noncomputable def g213 (y : Nat) (XY : Xop) : {X : Xop // FnGood Pg y XY → FnGood Pg 213 X} := ⟨_, fun hy => fN' rfl Tryz.func213 (by decide) Tryz.ntmps213 Tryz.results213 rfl
 (cS (cR (y1 pt7 (u1 k435 eFaddr rfl (qT gt1)) <|
  y1 pt8 (u1 k53 eFaddr rfl (qT gt7)) <|
  y1 pt9 (u1 k54 eLoad rfl (qT gt8)) <|
  y1 pt10 (u1 k435 eFaddr rfl (qT gt1)) <|
  y1 pt11 (u1 k55 eFaddr rfl (qT gt10)) <|
  y1 pt12 (u1 k54 eLoad rfl (qT gt11)) <|
  y1 pt13 (u1 k435 eFaddr rfl (qT gt1)) <|
  y1 pt14 (u1 k56 eFaddr rfl (qT gt13)) <|
  y1 pt15 (u1 k54 eLoad rfl (qT gt14)) <|
  s1 pt16 (u0 k436 (bb (qT gt9) (bb (qT gt12) (bb (qT gt15) b0)))) <|
  y1 pt17 (u1 k437 eLenSlc rfl (qT gt16)) <|
  sm pt18 (qI (.ofNat 0)) <|
  se) rfl) (cB (cO (cS (cR (y2 pt19 (iLss (qT gt18) (qT gt17)) <|
  se) rfl) (cS (cC gt19 cK cE) (cS (cB (cS (cR (sm pt20 (qT gt18) <|
  y2 pt21 (u2 k438 eIaddr rfl (qT gt16) (qT gt18)) <|
  y1 pt22 (u1 k54 eLoad rfl (qT gt21)) <|
  sa pt3 (qT gt20) <|
  sa pt4 (qT gt22) <|
  se) rfl) (cS (cR (y1 pt23 (u1 k439 eLoadN rfl (qT gt1)) <|
  sm pt24 (qT gt4) <|
  s1 pt25 (uC rfl h168 (bb (qT gt23) (bb (qT gt24) b0))) <|
  y1 pt26 (u1 k428 eLenSlc rfl (qT gt25)) <|
  sm pt27 (qI (.ofNat 0)) <|
  se) rfl) (cB (cO (cS (cR (y2 pt28 (iLss (qT gt27) (qT gt26)) <|
  se) rfl) (cS (cC gt28 cK cE) (cS (cB (cS (cR (y2 pt29 (u2 k429 eIaddr rfl (qT gt25) (qT gt27)) <|
  y1 pt30 (u1 k169 eLoadN rfl (qT gt29)) <|
  s1 pt6 (u0 k440 b0) <|
  y0 (u2 k441 eStore rfl (qT gt6) (qT gt30)) <|
  se) rfl) (cS (cR (sm pt31 (qT gt0) <|
  sm pt32 (qT gt3) <|
  y1 pt33 (u1 k169 eLoadN rfl (qT gt6)) <|
  s1 pt34 (u0 (oG (tb1 hy tb0)) (bb (qT gt31) (bb (qT gt32) (bb (qT gt33) b0)))) <|
  y1 pt35 (fNo (qT gt34)) <|
  se) rfl) (cC gt35 cT cK)))) (cR (y2 pt36 (iAdd (qT gt27) (qI (.ofNat 1))) <|
  sm pt27 (qT gt36) <|
  se) rfl))))))))) (cR (y2 pt37 (iAdd (qT gt18) (qI (.ofNat 1))) <|
  sm pt18 (qT gt37) <|
  se) rfl)))))))
 r0⟩
theorem h213 (y : Nat) (XY : Xop) (hy : FnGood Pg y XY) : FnGood Pg 213 (g213 y XY).1 := (g213 y XY).2 hy
/- wellspring/scrub.Clean -/
noncomputable def g97 : {X : Xop // FnGood Pg 97 X} := ⟨_, fM rfl Tryz.func97 (by decide) Tryz.ntmps97 Tryz.results97 rfl td0
 (mS (mG (cR (s1 pt2 (u0 oX (bb (qT gt0) b0)) <|
  sa pt4 (qV (.one (.nils)) rfl) <|
  se) rfl)) (mS (mG (cR (y1 pt9 (u1 k52 eFaddr rfl (qT gt2)) <|
  y1 pt10 (u1 k5 eLoad rfl (qT gt9)) <|
  s1 pt11 (uC rfl h81 (bb (qI (.ofNat 2)) (bb (qT gt10) b0))) <|
  y2 pt12 (iEql (qT gt11) (qI (.ofNat 1))) <|
  s1 pt5 (u0 k442 b0) <|
  y0 (u2 k109 eStore rfl (qT gt5) (qT gt12)) <|
  se) rfl)) (mS (mG (cR (s1 pt6 (u0 k443 b0) <|
  se) rfl)) (mS (mS (mG (cR (y1 pt13 (u1 k65 eLoadN rfl (qT gt2)) <|
  sm pt14 (qT gt1) <|
  s1 pt15 (u0 k444 (bb (qT gt13) (bb (qT gt14) b0))) <|
  s1 pt16 (uC rfl h165 (bb (qT gt15) b0)) <|
  se) rfl)) (mB (rangeIn_good (rid := 97) gt16 rfl func213 rfl (by decide) rfl (.cons pt17 (by decide) (.cons pt18 (by decide) .nil)) rfl h213 (cS (cR (sa pt7 (qT gt17) <|
  se) rfl) (cR (s1 pt8 (u0 k440 b0) <|
  y0 (u2 k441 eStore rfl (qT gt8) (qT gt18)) <|
  se) rfl)) (cB (cD mo (d1 0 0 rfl pt19 k445 (aT gt6 a0) <|
  d1 1 0 rfl pt20 k169 (aT gt8 a0) <|
  d1 2 0 rfl pt21 oM (aT gt7 a0) <|
  d1 3 0 rfl pt22 k108 (aT gt5 a0) <|
  d1 4 12 rfl pt23 c166 (aU rfl (aT gt21 (aT gt22 a0))) <|
  d1 5 30 rfl pt24 k446 (aT gt20 (aT gt23 a0)) <|
  d1 6 62 rfl pt25 k447 (aT gt24 a0) <|
  d1 7 127 rfl pt26 k448 (aT gt19 (aT gt25 a0)) <|
  d0 8 255 rfl k449 (aT gt6 (aT gt26 a0)) <|
  de) rfl rfl rfl))))) (mG (cS (cR (y1 pt27 (u1 k445 eLoad rfl (qT gt6)) <|
  sa pt4 (qT gt27) <|
  se) rfl) cT))))))
 (rT gt4 r0)⟩
theorem h97 : FnGood Pg 97 g97.1 := g97.2
theorem c97 {d : Option Nat} {ty : TypeId} {pos : String} {af : Array Edge} {g : Option (Nat × Bool)} {x : Operand} {xs : Array Operand} {ats : Array TypeId} : DXOk Pg ⟨d, .call { callee := .value x, args := xs, argTypes := ats }, ty, pos, af, g⟩ (xCallD [(97, g97.1)]) := oG (tb1 h97 tb0)
/- wellspring/scrub.of -/
noncomputable def g215 : {X : Xop // FnGood Pg 215 X} := ⟨_, fN' rfl Tryz.func215 (by decide) Tryz.ntmps215 Tryz.results215 rfl
 (cS (cR (s1 pt4 (u0 oX (bb (qT gt1) b0)) <|
  s1 pt5 (u0 oX (bb (qT gt2) b0)) <|
  s1 pt6 (u0 k440 b0) <|
  sa pt7 qB <|
  se) rfl) (cS (cR (sm pt9 (qT gt0) <|
  s1 pt10 (u0 (oF0 rfl) (bb (qT gt4) (bb (qT gt5) b0))) <|
  s1 pt11 (uC rfl h246 (bb (qT gt9) (bb (qT gt10) b0))) <|
  sa pt8 (qT gt11) <|
  se) rfl) (cS (cS (cR (sm pt12 (qT gt8) <|
  y2 pt13 (iLss (qT gt12) (qI (.ofNat 0))) <|
  se) rfl) (cC gt13 cX cK)) (cS (cR (sm pt15 (qT gt0) <|
  sm pt16 (qT gt8) <|
  y2 pt17 (u2 k429 eIaddr rfl (qT gt15) (qT gt16)) <|
  y1 pt18 (u1 k169 eLoadN rfl (qT gt17)) <|
  y0 (u2 k441 eStore rfl (qT gt6) (qT gt18)) <|
  sa pt7 qB <|
  se) rfl) cT))))
 (rR gt6 underlying57 rfl i57 rfl (rT gt7 r0))⟩
theorem h215 : FnGood Pg 215 g215.1 := g215.2
theorem c215 {d : Option Nat} {ty : TypeId} {pos : String} {af : Array Edge} {g : Option (Nat × Bool)} {x : Operand} {xs : Array Operand} {ats : Array TypeId} : DXOk Pg ⟨d, .call { callee := .value x, args := xs, argTypes := ats }, ty, pos, af, g⟩ (xCallD [(215, g215.1)]) := oG (tb1 h215 tb0)
/- wellspring/scrub.end -/
noncomputable def g167 : {X : Xop // FnGood Pg 167 X} := ⟨_, fN' rfl Tryz.func167 (by decide) Tryz.ntmps167 Tryz.results167 rfl
 (cS (cR (s1 pt3 (u0 oX (bb (qT gt1) b0)) <|
  sa pt4 (qV (.one (.str [])) rfl) <|
  sa pt5 qB <|
  se) rfl) (cS (cR (y1 pt13 (u1 k48 eFaddr rfl (qT gt3)) <|
  y1 pt14 (u1 k3 eLoad rfl (qT gt13)) <|
  s1 pt15 (uC rfl h36 (bb (qT gt14) b0)) <|
  sa pt6 (qT gt15) <|
  se) rfl) (cS (cS (cR (sm pt16 (qI (.ofNat 0)) <|
  se) rfl) (cB (cO (cS (cR (y2 pt17 (iLss (qT gt16) (qI (.ofNat 8))) <|
  se) rfl) (cS (cC gt17 cK cE) (cS (cB (cS (cS (cR (sm pt19 (qT gt0) <|
  sm pt20 (qT gt6) <|
  y1 pt21 (u1 k49 eFaddr rfl (qT gt3)) <|
  y1 pt22 (u1 k5 eLoad rfl (qT gt21)) <|
  s1 pt23 (uC rfl h215 (bb (qT gt19) (bb (qT gt20) (bb (qT gt22) b0)))) <|
  sm pt18 (qT gt23) <|
  y1 pt24 (fEx (qT gt18)) <|
  y1 pt25 (fEx (qT gt18)) <|
  s1 pt7 (u0 k440 b0) <|
  y0 (u2 k441 eStore rfl (qT gt7) (qT gt24)) <|
  sa pt8 (qT gt25) <|
  se) rfl) (cS (cR (sm pt26 (qT gt8) <|
  se) rfl) (cC gt26 (cS (cR (sm pt27 (qT gt6) <|
  sa pt4 (qT gt27) <|
  sa pt5 qB <|
  se) rfl) cT) cK))) cX)) cX)))))) cX)))
 (rT gt4 (rT gt5 r0))⟩
theorem h167 : FnGood Pg 167 g167.1 := g167.2
theorem c167 {d : Option Nat} {ty : TypeId} {pos : String} {af : Array Edge} {g : Option (Nat × Bool)} {x : Operand} {xs : Array Operand} {ats : Array TypeId} : DXOk Pg ⟨d, .call { callee := .value x, args := xs, argTypes := ats }, ty, pos, af, g⟩ (xCallD [(167, g167.1)]) := oG (tb1 h167 tb0)
/- wellspring/scrub.Absent -/
noncomputable def g98 : {X : Xop // FnGood Pg 98 X} := ⟨_, fN' rfl Tryz.func98 (by decide) Tryz.ntmps98 Tryz.results98 rfl
 (cS (cR (s1 pt3 (u0 oX (bb (qT gt0) b0)) <|
  s1 pt4 (u0 oX (bb (qT gt1) b0)) <|
  s1 pt6 (u0 k450 b0) <|
  sa pt7 qB <|
  se) rfl) (cS (cR (y1 pt14 (u1 k65 eLoadN rfl (qT gt3)) <|
  sm pt15 (qT gt2) <|
  s1 pt16 (u0 k444 (bb (qT gt14) (bb (qT gt15) b0))) <|
  s1 pt8 (u0 k451 b0) <|
  y0 (u2 k452 eStore rfl (qT gt8) (qT gt16)) <|
  se) rfl) (cS (cR (y1 pt17 (u1 k52 eFaddr rfl (qT gt3)) <|
  y1 pt18 (u1 k5 eLoad rfl (qT gt17)) <|
  s1 pt19 (uC rfl h81 (bb (qI (.ofNat 8)) (bb (qT gt18) b0))) <|
  sa pt9 (qT gt19) <|
  se) rfl) (cS (cS (cR (sm pt20 (qT gt9) <|
  y2 pt21 (iNeq (qT gt20) (qI (.ofNat 0))) <|
  sm pt22 (qT gt21) <|
  g1 gt22 pt23 (fMv (qT gt9)) rfl <|
  g1 gt22 pt24 (iNeq (qT gt23) (qI (.ofNat 3))) rfl <|
  s1 pt25 (uP (qT gt22) (qT gt24) qB) <|
  sm pt26 (qT gt25) <|
  g1 gt26 pt27 (u1 k48 eFaddr rfl (qT gt4)) rfl <|
  g1 gt26 pt28 (u1 k3 eLoad rfl (qT gt27)) rfl <|
  g1 gt26 pt29 (uC rfl h83 (bb (qT gt28) b0)) rfl <|
  g1 gt26 pt30 (fNo (qT gt29)) rfl <|
  s1 pt31 (uP (qT gt26) qB (qT gt30)) <|
  sm pt32 (qT gt31) <|
  g1 gt32 pt33 (u1 k49 eFaddr rfl (qT gt4)) rfl <|
  g1 gt32 pt34 (u1 k5 eLoad rfl (qT gt33)) rfl <|
  g1 gt32 pt35 (iLss (qT gt34) (qI (.ofNat 1))) rfl <|
  s1 pt36 (uP (qT gt32) qB (qT gt35)) <|
  sm pt37 (qT gt36) <|
  g1 gt37 pt38 (u1 k49 eFaddr rfl (qT gt4)) rfl <|
  g1 gt37 pt39 (u1 k5 eLoad rfl (qT gt38)) rfl <|
  g1 gt37 pt40 (iGtr (qT gt39) (qI (.ofNat 65535))) rfl <|
  s1 pt41 (uP (qT gt37) qB (qT gt40)) <|
  sm pt42 (qT gt41) <|
  g1 gt42 pt43 (u1 k50 eFaddr rfl (qT gt4)) rfl <|
  g1 gt42 pt44 (u1 k5 eLoad rfl (qT gt43)) rfl <|
  g1 gt42 pt45 (iNeq (qT gt44) (qI (.ofNat 1))) rfl <|
  s1 pt46 (uP (qT gt42) qB (qT gt45)) <|
  se) rfl) (cC gt46 cX cK)) (cS (cD mo (d1 0 0 rfl pt49 k439 (aT gt8 a0) <|
  d1 1 0 rfl pt50 k53 (aT gt3 a0) <|
  d1 2 2 rfl pt51 k54 (aT gt50 a0) <|
  d1 4 0 rfl pt53 k45 (aT gt4 a0) <|
  d1 3 7 rfl pt52 c168 (aU rfl (aT gt49 (aT gt51 a0))) <|
  d1 5 31 rfl pt54 c167 (aU rfl (aT gt52 (aT gt53 a0))) <|
  d1 6 63 rfl pt48 oM (aT gt54 a0) <|
  d1 7 127 rfl pt55 oE (aT gt48 a0) <|
  d1 8 127 rfl pt56 oE (aT gt48 a0) <|
  d1 9 255 rfl pt10 oA (aT gt55 a0) <|
  d1 10 1023 rfl pt11 oA (aT gt56 a0) <|
  de) rfl rfl rfl) (cS (cS (cR (sm pt57 (qT gt11) <|
  se) rfl) (cC gt57 (cS (cR (s1 pt58 (u0 k453 b0) <|
  y0 (u2 k454 eStore rfl (qT gt6) (qT gt58)) <|
  sa pt7 qB <|
  se) rfl) cT) cK)) cX))))))
 (rR gt6 underlying193 rfl i193 rfl (rT gt7 r0))⟩
theorem h98 : FnGood Pg 98 g98.1 := g98.2
theorem c98 {d : Option Nat} {ty : TypeId} {pos : String} {af : Array Edge} {g : Option (Nat × Bool)} {x : Operand} {xs : Array Operand} {ats : Array TypeId} : DXOk Pg ⟨d, .call { callee := .value x, args := xs, argTypes := ats }, ty, pos, af, g⟩ (xCallD [(98, g98.1)]) := oG (tb1 h98 tb0)
/- (*wellspring/node.Node).learn -/
noncomputable def g43 : {X : Xop // FnGood Pg 43 X} := ⟨_, fN' rfl Tryz.func43 (by decide) Tryz.ntmps43 Tryz.results43 rfl
 (cS (cR (s1 pt7 (u0 oX (bb (qT gt2) b0)) <|
  s1 pt8 (u0 oX (bb (qT gt3) b0)) <|
  se) rfl) (cS (cS (cR (y1 pt14 (u1 k65 eLoadN rfl (qT gt7)) <|
  sm pt15 (qT gt4) <|
  s1 pt16 (uC rfl h97 (bb (qT gt14) (bb (qT gt15) b0))) <|
  y1 pt17 (u1 k455 eLenSlc rfl (qT gt16)) <|
  sm pt18 (qI (.ofNat 0)) <|
  se) rfl) (cB (cO (cS (cR (y2 pt19 (iLss (qT gt18) (qT gt17)) <|
  se) rfl) (cS (cC gt19 cK cE) (cS (cB (cS (cR (y2 pt20 (u2 k456 eIaddr rfl (qT gt16) (qT gt18)) <|
  y1 pt21 (u1 k457 eLoadN rfl (qT gt20)) <|
  s1 pt11 (u0 k458 b0) <|
  y0 (u2 k459 eStore rfl (qT gt11) (qT gt21)) <|
  se) rfl) (cD mo (d1 0 0 rfl pt22 oM (aT gt0 a0) <|
  d1 1 1 rfl pt23 oC (aT gt22 a0) <|
  d1 2 3 rfl pt24 k203 (aT gt23 a0) <|
  d1 3 7 rfl pt25 k164 (aT gt24 a0) <|
  d1 4 0 rfl pt26 oM (aT gt1 a0) <|
  d1 5 0 rfl pt27 k460 (aT gt11 a0) <|
  d1 6 32 rfl pt28 k169 (aT gt27 a0) <|
  d1 7 0 rfl pt29 k461 (aT gt11 a0) <|
  d1 8 128 rfl pt30 k5 (aT gt29 a0) <|
  d1 9 511 rfl pt31 c50 (aU rfl (aT gt25 (aT gt26 (aT gt28 (aT gt30 a0))))) <|
  de) rfl rfl rfl))) (cR (y2 pt32 (iAdd (qT gt18) (qI (.ofNat 1))) <|
  sm pt18 (qT gt32) <|
  se) rfl))))))) (cS (cR (y1 pt33 (u1 k48 eFaddr rfl (qT gt8)) <|
  y1 pt34 (u1 k3 eLoad rfl (qT gt33)) <|
  s1 pt35 (uC rfl h36 (bb (qT gt34) b0)) <|
  y1 pt36 (u1 k48 eFaddr rfl (qT gt8)) <|
  y0 (u2 k115 eStore rfl (qT gt36) (qT gt35)) <|
  se) rfl) (cS (cR (y1 pt38 (u1 k65 eLoadN rfl (qT gt7)) <|
  y1 pt39 (u1 k45 eLoadN rfl (qT gt8)) <|
  sm pt40 (qT gt4) <|
  s1 pt41 (uC rfl h98 (bb (qT gt38) (bb (qT gt39) (bb (qT gt40) b0)))) <|
  sm pt37 (qT gt41) <|
  y1 pt42 (fEx (qT gt37)) <|
  y1 pt43 (fEx (qT gt37)) <|
  s1 pt12 (u0 k450 b0) <|
  y0 (u2 k454 eStore rfl (qT gt12) (qT gt42)) <|
  sa pt13 (qT gt43) <|
  se) rfl) (cS (cR (sm pt44 (qT gt13) <|
  se) rfl) (cC gt44 cX cK))))))
 r0⟩
theorem h43 : FnGood Pg 43 g43.1 := g43.2
theorem c43 {d : Option Nat} {ty : TypeId} {pos : String} {af : Array Edge} {g : Option (Nat × Bool)} {x : Operand} {xs : Array Operand} {ats : Array TypeId} : DXOk Pg ⟨d, .call { callee := .value x, args := xs, argTypes := ats }, ty, pos, af, g⟩ (xCallD [(43, g43.1)]) := oG (tb1 h43 tb0)
/- (*wellspring/node.Node).Server -/
noncomputable def g10 : {X : Xop // FnGood Pg 10 X} := ⟨_, fN' rfl Tryz.func10 (by decide) Tryz.ntmps10 Tryz.results10 rfl
 (cS (cR (sa pt10 (qV (.one (.nils)) rfl) <|
  se) rfl) (cS (cS (cR (sm pt17 (qT gt0) <|
  sm pt18 (qT gt1) <|
  sm pt19 (qT gt2) <|
  sm pt20 (qT gt3) <|
  s1 pt21 (uC rfl h34 (bb (qT gt17) (bb (qT gt18) (bb (qT gt19) (bb (qT gt20) b0))))) <|
  y1 pt22 (fNo (qT gt21)) <|
  se) rfl) (cC gt22 cX cK)) (cS (cR (sm pt24 (qT gt0) <|
  y1 pt25 (fNc (qT gt24)) <|
  y1 pt26 (u1 k333 eFaddr rfl (qT gt25)) <|
  y1 pt27 (u1 k334 eLoad rfl (qT gt26)) <|
  sm pt28 (qT gt2) <|
  sm pt29 (qT gt3) <|
  sm pt30 (qT gt4) <|
  s1 pt31 (uC rfl h39 (bb (qT gt27) (bb (qT gt28) (bb (qT gt29) (bb (qT gt30) b0))))) <|
  sm pt23 (qT gt31) <|
  y1 pt32 (fEx (qT gt23)) <|
  y1 pt33 (fEx (qT gt23)) <|
  y1 pt34 (fEx (qT gt23)) <|
  s1 pt12 (u0 k130 b0) <|
  sa pt11 (qT gt32) <|
  y0 (u2 k132 eStore rfl (qT gt12) (qT gt33)) <|
  sa pt13 (qT gt34) <|
  se) rfl) (cS (cS (cR (sm pt35 (qT gt13) <|
  y2 pt36 (iNeq (qT gt35) (qI (.ofNat 0))) <|
  se) rfl) (cC gt36 cX cK)) (cS (cR (sm pt37 (qT gt0) <|
  y1 pt38 (fNc (qT gt37)) <|
  y1 pt39 (u1 k333 eFaddr rfl (qT gt38)) <|
  y1 pt40 (u1 k334 eLoad rfl (qT gt39)) <|
  sm pt41 (qT gt11) <|
  y2 pt42 (u2 k408 eIaddr rfl (qT gt40) (qT gt41)) <|
  y1 pt43 (u1 k324 eLoadN rfl (qT gt42)) <|
  s1 pt14 (u0 k330 b0) <|
  y0 (u2 k332 eStore rfl (qT gt14) (qT gt43)) <|
  se) rfl) (cS (cR (sm pt44 (qT gt0) <|
  sm pt45 (qT gt0) <|
  y1 pt46 (fNc (qT gt45)) <|
  y1 pt47 (u1 k333 eFaddr rfl (qT gt46)) <|
  y1 pt48 (u1 k334 eLoad rfl (qT gt47)) <|
  s1 pt49 (uC rfl h41 (bb (qT gt48) b0)) <|
  sm pt50 (qT gt11) <|
  sm pt51 (qT gt11) <|
  y2 pt52 (iAdd (qT gt51) (qI (.ofNat 1))) <|
  s1 pt53 (uC rfl h40 (bb (qT gt49) (bb (qT gt50) (bb (qT gt52) b0)))) <|
  y1 pt54 (fNc (qT gt44)) <|
  y1 pt55 (u1 k333 eFaddr rfl (qT gt54)) <|
  y0 (u2 k337 eStore rfl (qT gt55) (qT gt53)) <|
  se) rfl) (cS (cS (cR (sm pt56 (qT gt0) <|
  y1 pt57 (u1 k462 eFaddr rfl (qT gt14)) <|
  y1 pt58 (u1 k5 eLoad rfl (qT gt57)) <|
  s1 pt59 (uC rfl h42 (bb (qT gt56) (bb (qT gt58) b0))) <|
  sa pt15 (qT gt59) <|
  se) rfl) (cS (cR (sm pt60 (qT gt15) <|
  y2 pt61 (iGeq (qT gt60) (qI (.ofNat 0))) <|
  se) rfl) (cC gt61 (cS (cR (sm pt62 (qT gt0) <|
  y1 pt63 (fNc (qT gt62)) <|
  y1 pt64 (u1 k285 eFaddr rfl (qT gt63)) <|
  y1 pt65 (u1 k286 eLoad rfl (qT gt64)) <|
  sm pt66 (qT gt15) <|
  y2 pt67 (u2 k283 eIaddr rfl (qT gt65) (qT gt66)) <|
  y1 pt68 (u1 k385 eFaddr rfl (qT gt67)) <|
  y1 pt69 (u1 k295 eFaddr rfl (qT gt68)) <|
  y1 pt70 (u1 k296 eLoad rfl (qT gt69)) <|
  sa pt16 (qT gt70) <|
  se) rfl) (cD mo (d1 0 0 rfl pt71 oM (aT gt0 a0) <|
  d1 1 0 rfl pt72 oM (aT gt1 a0) <|
  d1 2 0 rfl pt73 k65 (aT gt12 a0) <|
  d1 3 0 rfl pt74 k323 (aT gt14 a0) <|
  d1 4 8 rfl pt75 k45 (aT gt74 a0) <|
  d1 5 0 rfl pt76 oM (aT gt16 a0) <|
  d1 6 0 rfl pt77 oM (aT gt16 a0) <|
  d1 7 64 rfl pt78 k297 (aT gt77 a0) <|
  d1 8 192 rfl pt79 oI (aT gt78 (aI (.ofNat 1) a0)) <|
  d1 9 480 rfl pt80 k298 (aT gt76 (aT gt79 a0)) <|
  d1 10 992 rfl pt81 k299 (aT gt80 a0) <|
  d1 11 2016 rfl pt82 k3 (aT gt81 a0) <|
  d1 12 4095 rfl pt83 c43 (aU rfl (aT gt71 (aT gt72 (aT gt73 (aT gt75 (aT gt82 a0)))))) <|
  de) rfl rfl rfl)) cK))) (cS (cR (sm pt84 (qT gt0) <|
  sm pt85 (qT gt1) <|
  y1 pt86 (u1 k462 eFaddr rfl (qT gt14)) <|
  y1 pt87 (u1 k5 eLoad rfl (qT gt86)) <|
  s1 pt88 (uC rfl h44 (bb (qT gt84) (bb (qT gt85) (bb (qT gt87) b0)))) <|
  se) rfl) (cS (cR (sm pt89 (qT gt0) <|
  y1 pt90 (fNc (qT gt89)) <|
  y1 pt91 (u1 k70 eFaddr rfl (qT gt90)) <|
  y1 pt92 (u1 k258 eLoad rfl (qT gt91)) <|
  sa pt10 (qT gt92) <|
  se) rfl) cT)))))))))
 (rT gt10 r0)⟩
theorem h10 : FnGood Pg 10 g10.1 := g10.2
theorem c10 {d : Option Nat} {ty : TypeId} {pos : String} {af : Array Edge} {g : Option (Nat × Bool)} {x : Operand} {xs : Array Operand} {ats : Array TypeId} : DXOk Pg ⟨d, .call { callee := .value x, args := xs, argTypes := ats }, ty, pos, af, g⟩ (xCallD [(10, g10.1)]) := oG (tb1 h10 tb0)
/- (*wellspring/node.Node).Fast -/
noncomputable def g12 : {X : Xop // FnGood Pg 12 X} := ⟨_, fN' rfl Tryz.func12 (by decide) Tryz.ntmps12 Tryz.results12 rfl
 (cS (cR (sa pt2 (qI (.ofNat 0)) <|
  se) rfl) (cS (cS (cR (sm pt3 (qT gt0) <|
  s1 pt4 (u0 k67 (bb (qT gt3) (bb (qV (.one (.nilp)) rfl) b0))) <|
  se) rfl) (cC gt4 cX cK)) (cS (cR (sm pt5 (qT gt0) <|
  y1 pt6 (fNc (qT gt5)) <|
  y1 pt7 (u1 k279 eFaddr rfl (qT gt6)) <|
  y1 pt8 (u1 k5 eLoad rfl (qT gt7)) <|
  sa pt2 (qT gt8) <|
  se) rfl) cT)))
 (rT gt2 r0)⟩
theorem h12 : FnGood Pg 12 g12.1 := g12.2
theorem c12 {d : Option Nat} {ty : TypeId} {pos : String} {af : Array Edge} {g : Option (Nat × Bool)} {x : Operand} {xs : Array Operand} {ats : Array TypeId} : DXOk Pg ⟨d, .call { callee := .value x, args := xs, argTypes := ats }, ty, pos, af, g⟩ (xCallD [(12, g12.1)]) := oG (tb1 h12 tb0)
/- wellspring/wellspringtop.works -/
noncomputable def g6 : {X : Xop // FnGood Pg 6 X} := ⟨_, fN' rfl Tryz.func6 (by decide) Tryz.ntmps6 Tryz.results6 rfl
 (cS (cR (sa pt0 qB <|
  se) rfl) (cS (cR (s1 pt11 (u0 k24 (bb (qV (.one (.str [48, 48, 48, 48])) rfl) b0)) <|
  s1 pt12 (u0 k463 (bb (qI (.ofNat 9)) (bb (qI (.ofNat 9)) (bb (qI (.ofNat 2)) (bb (qI (.ofNat 5)) (bb (qI (.ofNat 3)) (bb (qI (.ofNat 10)) (bb (qT gt11) b0)))))))) <|
  s1 pt13 (uC rfl h7 (bb (qT gt12) b0)) <|
  sm pt10 (qT gt13) <|
  y1 pt14 (fEx (qT gt10)) <|
  y1 pt15 (fEx (qT gt10)) <|
  sa pt1 (qT gt14) <|
  sa pt2 (qT gt15) <|
  se) rfl) (cS (cS (cR (sm pt16 (qT gt2) <|
  y2 pt17 (iNeq (qT gt16) (qI (.ofNat 0))) <|
  sm pt18 (qT gt17) <|
  g1 gt18 pt19 (fMv (qT gt1)) rfl <|
  g1 gt18 pt20 (u0 k67 (bb (qT gt19) (bb (qV (.one (.nilp)) rfl) b0))) rfl <|
  s1 pt21 (uP (qT gt18) qB (qT gt20)) <|
  se) rfl) (cC gt21 cX cK)) (cS (cR (s1 pt22 (u0 k104 (bb (qV (.one (.str [1, 97, 0])) rfl) (bb (qI (.ofNat 1)) (bb (qI (.ofNat 1)) b0)))) <|
  s1 pt3 (u0 k46 b0) <|
  y0 (u2 k47 eStore rfl (qT gt3) (qT gt22)) <|
  se) rfl) (cS (cR (y1 pt24 (u1 k45 eLoadN rfl (qT gt3)) <|
  s1 pt25 (u0 k133 (bb (qT gt24) b0)) <|
  s1 pt26 (u0 k464 (bb (qI (.ofNat 7)) (bb (qI (.ofNat 256)) (bb (qT gt25) b0)))) <|
  s1 pt27 (uC rfl h8 (bb (qT gt26) b0)) <|
  sm pt23 (qT gt27) <|
  y1 pt28 (fEx (qT gt23)) <|
  y1 pt29 (fEx (qT gt23)) <|
  sa pt4 (qT gt28) <|
  sa pt5 (qT gt29) <|
  se) rfl) (cS (cR (y1 pt31 (u1 k45 eLoadN rfl (qT gt3)) <|
  s1 pt32 (u0 k133 (bb (qT gt31) b0)) <|
  s1 pt33 (u0 k347 (bb (qV (.one (.str [1, 97, 0])) rfl) (bb (qI (.ofNat 1)) (bb (qI (.ofNat 1)) (bb (qI (.ofNat 9)) (bb (qV (.one (.str [49, 49, 49, 49])) rfl) b0)))))) <|
  s1 pt34 (u0 k137 (bb (qT gt33) b0)) <|
  s1 pt35 (u0 k465 (bb (qI (.ofNat 33792)) (bb (qT gt32) (bb (qT gt34) b0)))) <|
  s1 pt36 (uC rfl h8 (bb (qT gt35) b0)) <|
  sm pt30 (qT gt36) <|
  y1 pt37 (fEx (qT gt30)) <|
  y1 pt38 (fEx (qT gt30)) <|
  sa pt6 (qT gt37) <|
  sa pt7 (qT gt38) <|
  se) rfl) (cS (cR (sm pt39 (qT gt1) <|
  sm pt40 (qT gt4) <|
  s1 pt41 (uC rfl h9 (bb (qT gt39) (bb (qI (.ofNat 1)) (bb (qV (.one (.str [57, 57, 57, 57])) rfl) (bb (qI (.ofNat 77)) (bb (qT gt40) b0)))))) <|
  se) rfl) (cS (cR (sm pt42 (qT gt1) <|
  sm pt43 (qT gt6) <|
  s1 pt44 (uC rfl h10 (bb (qT gt42) (bb (qI (.ofNat 2)) (bb (qV (.one (.str [48, 48, 48, 48])) rfl) (bb (qI (.ofNat 1024)) (bb (qT gt43) b0)))))) <|
  sa pt8 (qT gt44) <|
  se) rfl) (cS (cR (sm pt45 (qT gt1) <|
  sm pt46 (qT gt4) <|
  s1 pt47 (uC rfl h9 (bb (qT gt45) (bb (qI (.ofNat 3)) (bb (qV (.one (.str [57, 57, 57, 57])) rfl) (bb (qI (.ofNat 77)) (bb (qT gt46) b0)))))) <|
  se) rfl) (cS (cR (sm pt48 (qT gt1) <|
  sm pt49 (qT gt4) <|
  s1 pt50 (uC rfl h9 (bb (qT gt48) (bb (qI (.ofNat 3)) (bb (qV (.one (.str [57, 57, 57, 57])) rfl) (bb (qI (.ofNat 77)) (bb (qT gt49) b0)))))) <|
  sa pt9 (qT gt50) <|
  se) rfl) (cS (cR (sm pt51 (qT gt8) <|
  y1 pt52 (u1 k466 eLenSlc rfl (qT gt51)) <|
  y2 pt53 (iEql (qT gt52) (qI (.ofNat 1))) <|
  sm pt54 (qT gt53) <|
  g1 gt54 pt55 (fMv (qT gt9)) rfl <|
  g1 gt54 pt56 (u1 k466 eLenSlc rfl (qT gt55)) rfl <|
  g1 gt54 pt57 (iEql (qT gt56) (qI (.ofNat 1))) rfl <|
  s1 pt58 (uP (qT gt54) (qT gt57) qB) <|
  sm pt59 (qT gt58) <|
  g1 gt59 pt60 (fMv (qT gt1)) rfl <|
  g1 gt59 pt61 (uC rfl h12 (bb (qT gt60) b0)) rfl <|
  g1 gt59 pt62 (iEql (qT gt61) (qI (.ofNat 1))) rfl <|
  s1 pt63 (uP (qT gt59) (qT gt62) qB) <|
  sa pt0 (qT gt63) <|
  se) rfl) cT)))))))))))
 (rT gt0 r0)⟩
theorem h6 : FnGood Pg 6 g6.1 := g6.2
theorem c6 {d : Option Nat} {ty : TypeId} {pos : String} {af : Array Edge} {g : Option (Nat × Bool)} {x : Operand} {xs : Array Operand} {ats : Array TypeId} : DXOk Pg ⟨d, .call { callee := .value x, args := xs, argTypes := ats }, ty, pos, af, g⟩ (xCallD [(6, g6.1)]) := oG (tb1 h6 tb0)
/- wellspring/wellspringref01.Get -/
noncomputable def g46 : {X : Xop // FnGood Pg 46 X} := ⟨_, fN' rfl Tryz.func46 (by decide) Tryz.ntmps46 Tryz.results46 rfl
 (cS (cR (sa pt6 (qI (.ofNat 0)) <|
  sa pt7 qB <|
  se) rfl) (cS (cR (sm pt13 (qT gt0) <|
  sm pt14 (qT gt1) <|
  sm pt15 (qT gt2) <|
  s1 pt16 (uC rfl h102 (bb (qT gt13) (bb (qT gt14) (bb (qT gt15) b0)))) <|
  sm pt12 (qT gt16) <|
  y1 pt17 (fEx (qT gt12)) <|
  y1 pt18 (fEx (qT gt12)) <|
  sa pt8 (qT gt17) <|
  sa pt9 (qT gt18) <|
  se) rfl) (cS (cS (cR (sm pt19 (qT gt9) <|
  y1 pt20 (fNo (qT gt19)) <|
  sm pt21 (qT gt20) <|
  g1 gt21 pt22 (fMv (qT gt2)) rfl <|
  g1 gt21 pt23 (iLss (qT gt22) (qI (.ofNat 1))) rfl <|
  s1 pt24 (uP (qT gt21) qB (qT gt23)) <|
  sm pt25 (qT gt24) <|
  g1 gt25 pt26 (fMv (qT gt2)) rfl <|
  g1 gt25 pt27 (iGtr (qT gt26) (qI (.ofNat 4))) rfl <|
  s1 pt28 (uP (qT gt25) qB (qT gt27)) <|
  se) rfl) (cC gt28 cX cK)) (cS (cR (sa pt10 (qI (.ofNat 0)) <|
  se) rfl) (cS (cS (cR (sa pt11 (qI (.ofNat 0)) <|
  se) rfl) (cB (cO (cS (cS (cR (sm pt29 (qT gt11) <|
  sm pt30 (qT gt2) <|
  y2 pt31 (iLss (qT gt29) (qT gt30)) <|
  se) rfl) (cC gt31 cK cE)) (cS (cB (cR (sm pt34 (qT gt10) <|
  y2 pt35 (iMul (qI (.ofNat 256)) (qT gt34)) <|
  sm pt36 (qT gt8) <|
  sm pt37 (qT gt11) <|
  y2 pt38 (u2 k21 eIndexS rfl (qT gt36) (qT gt37)) <|
  y1 pt39 (u1 k22 eCvt rfl (qT gt38)) <|
  y2 pt40 (iAdd (qT gt35) (qT gt39)) <|
  sa pt10 (qT gt40) <|
  se) rfl)) (cR (sm pt32 (qT gt11) <|
  y2 pt33 (iAdd (qT gt32) (qI (.ofNat 1))) <|
  sa pt11 (qT gt33) <|
  se) rfl)))))) (cS (cR (sm pt41 (qT gt10) <|
  sa pt6 (qT gt41) <|
  sa pt7 qB <|
  se) rfl) cT))))))
 (rT gt6 (rT gt7 r0))⟩
theorem h46 : FnGood Pg 46 g46.1 := g46.2
theorem c46 {d : Option Nat} {ty : TypeId} {pos : String} {af : Array Edge} {g : Option (Nat × Bool)} {x : Operand} {xs : Array Operand} {ats : Array TypeId} : DXOk Pg ⟨d, .call { callee := .value x, args := xs, argTypes := ats }, ty, pos, af, g⟩ (xCallD [(46, g46.1)]) := oG (tb1 h46 tb0)
/- wellspring/wellspringref08.Head -/
noncomputable def g45 : {X : Xop // FnGood Pg 45 X} := ⟨_, fN' rfl Tryz.func45 (by decide) Tryz.ntmps45 Tryz.results45 rfl
 (cS (cR (sa pt2 (qI (.ofNat 0)) <|
  sa pt3 (qI (.ofNat 0)) <|
  sa pt4 qB <|
  se) rfl) (cS (cS (cR (sm pt9 (qT gt0) <|
  y1 pt10 (u1 k0 eLenStr rfl (qT gt9)) <|
  y2 pt11 (iLss (qT gt10) (qI (.ofNat 12))) <|
  se) rfl) (cC gt11 cX cK)) (cS (cR (sm pt13 (qT gt0) <|
  s1 pt14 (uC rfl h46 (bb (qT gt13) (bb (qI (.ofNat 0)) (bb (qI (.ofNat 2)) b0)))) <|
  sm pt12 (qT gt14) <|
  y1 pt15 (fEx (qT gt12)) <|
  y1 pt16 (fEx (qT gt12)) <|
  sa pt5 (qT gt15) <|
  sa pt6 (qT gt16) <|
  se) rfl) (cS (cR (sm pt18 (qT gt0) <|
  s1 pt19 (uC rfl h46 (bb (qT gt18) (bb (qI (.ofNat 2)) (bb (qI (.ofNat 2)) b0)))) <|
  sm pt17 (qT gt19) <|
  y1 pt20 (fEx (qT gt17)) <|
  y1 pt21 (fEx (qT gt17)) <|
  sa pt7 (qT gt20) <|
  sa pt8 (qT gt21) <|
  se) rfl) (cS (cR (sm pt22 (qT gt5) <|
  sm pt23 (qT gt7) <|
  sa pt2 (qT gt22) <|
  sa pt3 (qT gt23) <|
  sa pt4 qB <|
  se) rfl) cT)))))
 (rT gt2 (rT gt3 (rT gt4 r0)))⟩
theorem h45 : FnGood Pg 45 g45.1 := g45.2
theorem c45 {d : Option Nat} {ty : TypeId} {pos : String} {af : Array Edge} {g : Option (Nat × Bool)} {x : Operand} {xs : Array Operand} {ats : Array TypeId} : DXOk Pg ⟨d, .call { callee := .value x, args := xs, argTypes := ats }, ty, pos, af, g⟩ (xCallD [(45, g45.1)]) := oG (tb1 h45 tb0)
/- wellspring/wellspringref04.Read -/
noncomputable def g103 : {X : Xop // FnGood Pg 103 X} := ⟨_, fN' rfl Tryz.func103 (by decide) Tryz.ntmps103 Tryz.results103 rfl
 (cS (cR (sa pt4 (qV (.one (.str [])) rfl) <|
  sa pt5 (qI (.ofNat 0)) <|
  sa pt6 (qI (.ofNat 0)) <|
  se) rfl) (cS (cR (sa pt7 (qV (.one (.str [])) rfl) <|
  se) rfl) (cS (cR (sa pt8 (qI (.negSucc 0)) <|
  se) rfl) (cS (cR (sm pt16 (qT gt1) <|
  sa pt9 (qT gt16) <|
  se) rfl) (cB (cO (cB (cS (cR (sm pt18 (qT gt0) <|
  sm pt19 (qT gt1) <|
  s1 pt20 (uC rfl h46 (bb (qT gt18) (bb (qT gt19) (bb (qI (.ofNat 1)) b0)))) <|
  sm pt17 (qT gt20) <|
  y1 pt21 (fEx (qT gt17)) <|
  y1 pt22 (fEx (qT gt17)) <|
  sa pt10 (qT gt21) <|
  sa pt11 (qT gt22) <|
  se) rfl) (cS (cS (cR (sm pt23 (qT gt11) <|
  y1 pt24 (fNo (qT gt23)) <|
  se) rfl) (cC gt24 cX cK)) (cS (cS (cR (sm pt29 (qT gt10) <|
  y2 pt30 (iEql (qT gt29) (qI (.ofNat 0))) <|
  se) rfl) (cC gt30 (cS (cS (cR (sm pt31 (qT gt8) <|
  y2 pt32 (iLss (qT gt31) (qI (.ofNat 0))) <|
  se) rfl) (cC gt32 (cR (sm pt33 (qT gt1) <|
  y2 pt34 (iAdd (qT gt33) (qI (.ofNat 1))) <|
  sa pt8 (qT gt34) <|
  se) rfl) cK)) (cS (cR (sm pt35 (qT gt7) <|
  s1 pt36 (u0 oS (bb (qT gt35) (bb (qV (.one (.str [0])) rfl) b0))) <|
  sm pt37 (qT gt8) <|
  sa pt4 (qT gt36) <|
  sa pt5 (qT gt37) <|
  sa pt6 (qI (.ofNat 0)) <|
  se) rfl) cT)) cK)) (cS (cS (cR (sm pt38 (qT gt10) <|
  y2 pt39 (iGeq (qT gt38) (qI (.ofNat 192))) <|
  se) rfl) (cC gt39 (cS (cR (sm pt41 (qT gt0) <|
  sm pt42 (qT gt1) <|
  s1 pt43 (uC rfl h46 (bb (qT gt41) (bb (qT gt42) (bb (qI (.ofNat 2)) b0)))) <|
  sm pt40 (qT gt43) <|
  y1 pt44 (fEx (qT gt40)) <|
  y1 pt45 (fEx (qT gt40)) <|
  sa pt12 (qT gt44) <|
  sa pt13 (qT gt45) <|
  se) rfl) (cS (cS (cR (sm pt46 (qT gt13) <|
  y1 pt47 (fNo (qT gt46)) <|
  se) rfl) (cC gt47 cX cK)) (cS (cS (cR (sm pt52 (qT gt12) <|
  y2 pt53 (iSub (qT gt52) (qI (.ofNat 49152))) <|
  sm pt54 (qT gt9) <|
  y2 pt55 (iGeq (qT gt53) (qT gt54)) <|
  se) rfl) (cC gt55 cX cK)) (cS (cS (cR (sm pt60 (qT gt8) <|
  y2 pt61 (iLss (qT gt60) (qI (.ofNat 0))) <|
  se) rfl) (cC gt61 (cR (sm pt62 (qT gt1) <|
  y2 pt63 (iAdd (qT gt62) (qI (.ofNat 2))) <|
  sa pt8 (qT gt63) <|
  se) rfl) cK)) (cS (cR (sm pt64 (qT gt12) <|
  y2 pt65 (iSub (qT gt64) (qI (.ofNat 49152))) <|
  sa pt1 (qT gt65) <|
  se) rfl) (cS (cR (sm pt66 (qT gt1) <|
  sa pt9 (qT gt66) <|
  se) rfl) cE)))))) cK)) (cS (cS (cR (sm pt67 (qT gt10) <|
  y2 pt68 (iGtr (qT gt67) (qI (.ofNat 63))) <|
  se) rfl) (cC gt68 cX cK)) (cS (cR (sm pt74 (qT gt0) <|
  sm pt75 (qT gt1) <|
  sm pt76 (qT gt10) <|
  y2 pt77 (iAdd (qT gt76) (qI (.ofNat 1))) <|
  s1 pt78 (uC rfl h102 (bb (qT gt74) (bb (qT gt75) (bb (qT gt77) b0)))) <|
  sm pt73 (qT gt78) <|
  y1 pt79 (fEx (qT gt73)) <|
  y1 pt80 (fEx (qT gt73)) <|
  sa pt14 (qT gt79) <|
  sa pt15 (qT gt80) <|
  se) rfl) (cS (cS (cR (sm pt81 (qT gt15) <|
  y1 pt82 (fNo (qT gt81)) <|
  se) rfl) (cC gt82 cX cK)) (cS (cR (sm pt87 (qT gt7) <|
  sm pt88 (qT gt14) <|
  s1 pt89 (u0 oS (bb (qT gt87) (bb (qT gt88) b0))) <|
  sa pt7 (qT gt89) <|
  se) rfl) (cS (cS (cR (sm pt90 (qT gt7) <|
  y1 pt91 (u1 k0 eLenStr rfl (qT gt90)) <|
  y2 pt92 (iAdd (qT gt91) (qI (.ofNat 1))) <|
  y2 pt93 (iGtr (qT gt92) (qI (.ofNat 255))) <|
  se) rfl) (cC gt93 cX cK)) (cR (sm pt98 (qT gt1) <|
  sm pt99 (qT gt10) <|
  y2 pt100 (iAdd (qT gt98) (qT gt99)) <|
  y2 pt101 (iAdd (qT gt100) (qI (.ofNat 1))) <|
  sa pt1 (qT gt101) <|
  se) rfl)))))))))))))))))
 (rT gt4 (rT gt5 (rT gt6 r0)))⟩
theorem h103 : FnGood Pg 103 g103.1 := g103.2
theorem c103 {d : Option Nat} {ty : TypeId} {pos : String} {af : Array Edge} {g : Option (Nat × Bool)} {x : Operand} {xs : Array Operand} {ats : Array TypeId} : DXOk Pg ⟨d, .call { callee := .value x, args := xs, argTypes := ats }, ty, pos, af, g⟩ (xCallD [(103, g103.1)]) := oG (tb1 h103 tb0)
/- wellspring/wellspringref08.questions -/
noncomputable def g47 : {X : Xop // FnGood Pg 47 X} := ⟨_, fN' rfl Tryz.func47 (by decide) Tryz.ntmps47 Tryz.results47 rfl
 (cS (cR (sa pt6 (qV (.one (.nils)) rfl) <|
  sa pt7 (qI (.ofNat 0)) <|
  sa pt8 (qI (.ofNat 0)) <|
  se) rfl) (cS (cR (sa pt9 (qV (.one (.nils)) rfl) <|
  se) rfl) (cS (cS (cR (sa pt10 (qI (.ofNat 0)) <|
  se) rfl) (cB (cO (cS (cS (cR (sm pt20 (qT gt10) <|
  sm pt21 (qT gt2) <|
  y2 pt22 (iLss (qT gt20) (qT gt21)) <|
  se) rfl) (cC gt22 cK cE)) (cS (cB (cS (cR (sm pt26 (qT gt0) <|
  sm pt27 (qT gt1) <|
  s1 pt28 (uC rfl h103 (bb (qT gt26) (bb (qT gt27) b0))) <|
  sm pt25 (qT gt28) <|
  y1 pt29 (fEx (qT gt25)) <|
  y1 pt30 (fEx (qT gt25)) <|
  y1 pt31 (fEx (qT gt25)) <|
  sa pt11 (qT gt29) <|
  sa pt12 (qT gt30) <|
  sa pt13 (qT gt31) <|
  se) rfl) (cS (cS (cR (sm pt32 (qT gt13) <|
  y2 pt33 (iNeq (qT gt32) (qI (.ofNat 0))) <|
  se) rfl) (cC gt33 cX cK)) (cS (cR (sm pt36 (qT gt0) <|
  sm pt37 (qT gt12) <|
  s1 pt38 (uC rfl h102 (bb (qT gt36) (bb (qT gt37) (bb (qI (.ofNat 4)) b0)))) <|
  sm pt35 (qT gt38) <|
  y1 pt39 (fEx (qT gt35)) <|
  y1 pt40 (fEx (qT gt35)) <|
  sa pt14 (qT gt39) <|
  sa pt15 (qT gt40) <|
  se) rfl) (cS (cS (cR (sm pt41 (qT gt15) <|
  y1 pt42 (fNo (qT gt41)) <|
  se) rfl) (cC gt42 cX cK)) (cS (cR (sm pt44 (qT gt0) <|
  sm pt45 (qT gt12) <|
  s1 pt46 (uC rfl h46 (bb (qT gt44) (bb (qT gt45) (bb (qI (.ofNat 2)) b0)))) <|
  sm pt43 (qT gt46) <|
  y1 pt47 (fEx (qT gt43)) <|
  y1 pt48 (fEx (qT gt43)) <|
  sa pt16 (qT gt47) <|
  sa pt17 (qT gt48) <|
  se) rfl) (cS (cR (sm pt50 (qT gt0) <|
  sm pt51 (qT gt12) <|
  y2 pt52 (iAdd (qT gt51) (qI (.ofNat 2))) <|
  s1 pt53 (uC rfl h46 (bb (qT gt50) (bb (qT gt52) (bb (qI (.ofNat 2)) b0)))) <|
  sm pt49 (qT gt53) <|
  y1 pt54 (fEx (qT gt49)) <|
  y1 pt55 (fEx (qT gt49)) <|
  sa pt18 (qT gt54) <|
  sa pt19 (qT gt55) <|
  se) rfl) (cS (cR (sm pt56 (qT gt9) <|
  sm pt57 (qT gt11) <|
  sm pt58 (qT gt16) <|
  sm pt59 (qT gt18) <|
  s1 pt60 (u0 k104 (bb (qT gt57) (bb (qT gt58) (bb (qT gt59) b0)))) <|
  s1 pt61 (u0 k133 (bb (qT gt60) b0)) <|
  s1 pt62 (u0 k134 (bb (qT gt56) (bb (qT gt61) b0))) <|
  sa pt9 (qT gt62) <|
  se) rfl) (cR (sm pt63 (qT gt12) <|
  y2 pt64 (iAdd (qT gt63) (qI (.ofNat 4))) <|
  sa pt1 (qT gt64) <|
  se) rfl))))))))) (cR (sm pt23 (qT gt10) <|
  y2 pt24 (iAdd (qT gt23) (qI (.ofNat 1))) <|
  sa pt10 (qT gt24) <|
  se) rfl)))))) (cS (cR (sm pt65 (qT gt9) <|
  sm pt66 (qT gt1) <|
  sa pt6 (qT gt65) <|
  sa pt7 (qT gt66) <|
  sa pt8 (qI (.ofNat 0)) <|
  se) rfl) cT))))
 (rT gt6 (rT gt7 (rT gt8 r0)))⟩
theorem h47 : FnGood Pg 47 g47.1 := g47.2
theorem c47 {d : Option Nat} {ty : TypeId} {pos : String} {af : Array Edge} {g : Option (Nat × Bool)} {x : Operand} {xs : Array Operand} {ats : Array TypeId} : DXOk Pg ⟨d, .call { callee := .value x, args := xs, argTypes := ats }, ty, pos, af, g⟩ (xCallD [(47, g47.1)]) := oG (tb1 h47 tb0)
/- wellspring/wellspringref06.Decode -/
noncomputable def g104 : {X : Xop // FnGood Pg 104 X} := ⟨_, fN' rfl Tryz.func104 (by decide) Tryz.ntmps104 Tryz.results104 rfl
 (cS (cR (s1 pt4 (u0 k126 b0) <|
  sa pt5 (qI (.ofNat 0)) <|
  sa pt6 (qI (.ofNat 0)) <|
  se) rfl) (cS (cR (sm pt23 (qT gt0) <|
  sm pt24 (qT gt1) <|
  s1 pt25 (uC rfl h103 (bb (qT gt23) (bb (qT gt24) b0))) <|
  sm pt22 (qT gt25) <|
  y1 pt26 (fEx (qT gt22)) <|
  y1 pt27 (fEx (qT gt22)) <|
  y1 pt28 (fEx (qT gt22)) <|
  sa pt7 (qT gt26) <|
  sa pt8 (qT gt27) <|
  sa pt9 (qT gt28) <|
  se) rfl) (cS (cS (cR (sm pt29 (qT gt9) <|
  y2 pt30 (iNeq (qT gt29) (qI (.ofNat 0))) <|
  se) rfl) (cC gt30 cX cK)) (cS (cR (sm pt34 (qT gt0) <|
  sm pt35 (qT gt8) <|
  s1 pt36 (uC rfl h102 (bb (qT gt34) (bb (qT gt35) (bb (qI (.ofNat 10)) b0)))) <|
  sm pt33 (qT gt36) <|
  y1 pt37 (fEx (qT gt33)) <|
  y1 pt38 (fEx (qT gt33)) <|
  sa pt10 (qT gt37) <|
  sa pt11 (qT gt38) <|
  se) rfl) (cS (cS (cR (sm pt39 (qT gt11) <|
  y1 pt40 (fNo (qT gt39)) <|
  se) rfl) (cC gt40 cX cK)) (cS (cR (sm pt43 (qT gt0) <|
  sm pt44 (qT gt8) <|
  s1 pt45 (uC rfl h46 (bb (qT gt43) (bb (qT gt44) (bb (qI (.ofNat 2)) b0)))) <|
  sm pt42 (qT gt45) <|
  y1 pt46 (fEx (qT gt42)) <|
  y1 pt47 (fEx (qT gt42)) <|
  sa pt12 (qT gt46) <|
  sa pt13 (qT gt47) <|
  se) rfl) (cS (cR (sm pt49 (qT gt0) <|
  sm pt50 (qT gt8) <|
  y2 pt51 (iAdd (qT gt50) (qI (.ofNat 2))) <|
  s1 pt52 (uC rfl h46 (bb (qT gt49) (bb (qT gt51) (bb (qI (.ofNat 2)) b0)))) <|
  sm pt48 (qT gt52) <|
  y1 pt53 (fEx (qT gt48)) <|
  y1 pt54 (fEx (qT gt48)) <|
  sa pt14 (qT gt53) <|
  sa pt15 (qT gt54) <|
  se) rfl) (cS (cR (sm pt56 (qT gt0) <|
  sm pt57 (qT gt8) <|
  y2 pt58 (iAdd (qT gt57) (qI (.ofNat 4))) <|
  s1 pt59 (uC rfl h46 (bb (qT gt56) (bb (qT gt58) (bb (qI (.ofNat 4)) b0)))) <|
  sm pt55 (qT gt59) <|
  y1 pt60 (fEx (qT gt55)) <|
  y1 pt61 (fEx (qT gt55)) <|
  sa pt16 (qT gt60) <|
  sa pt17 (qT gt61) <|
  se) rfl) (cS (cR (sm pt63 (qT gt0) <|
  sm pt64 (qT gt8) <|
  y2 pt65 (iAdd (qT gt64) (qI (.ofNat 8))) <|
  s1 pt66 (uC rfl h46 (bb (qT gt63) (bb (qT gt65) (bb (qI (.ofNat 2)) b0)))) <|
  sm pt62 (qT gt66) <|
  y1 pt67 (fEx (qT gt62)) <|
  y1 pt68 (fEx (qT gt62)) <|
  sa pt18 (qT gt67) <|
  sa pt19 (qT gt68) <|
  se) rfl) (cS (cS (cR (sm pt69 (qT gt16) <|
  y2 pt70 (iGeq (qT gt69) (qI (.ofNat 2147483648))) <|
  se) rfl) (cC gt70 cX cK)) (cS (cR (sm pt72 (qT gt0) <|
  sm pt73 (qT gt8) <|
  y2 pt74 (iAdd (qT gt73) (qI (.ofNat 10))) <|
  sm pt75 (qT gt18) <|
  sm pt76 (qT gt12) <|
  s1 pt77 (uC rfl h181 (bb (qT gt72) (bb (qT gt74) (bb (qT gt75) (bb (qT gt76) b0))))) <|
  sm pt71 (qT gt77) <|
  y1 pt78 (fEx (qT gt71)) <|
  y1 pt79 (fEx (qT gt71)) <|
  sa pt20 (qT gt78) <|
  sa pt21 (qT gt79) <|
  se) rfl) (cS (cS (cR (sm pt80 (qT gt21) <|
  y2 pt81 (iNeq (qT gt80) (qI (.ofNat 0))) <|
  se) rfl) (cC gt81 cX cK)) (cS (cR (sm pt84 (qT gt7) <|
  sm pt85 (qT gt12) <|
  sm pt86 (qT gt14) <|
  sm pt87 (qT gt16) <|
  sm pt88 (qT gt20) <|
  s1 pt89 (u0 k347 (bb (qT gt84) (bb (qT gt85) (bb (qT gt86) (bb (qT gt87) (bb (qT gt88) b0)))))) <|
  sm pt90 (qT gt8) <|
  y2 pt91 (iAdd (qT gt90) (qI (.ofNat 10))) <|
  sm pt92 (qT gt18) <|
  y2 pt93 (iAdd (qT gt91) (qT gt92)) <|
  y0 (u2 k129 eStore rfl (qT gt4) (qT gt89)) <|
  sa pt5 (qT gt93) <|
  sa pt6 (qI (.ofNat 0)) <|
  se) rfl) cT)))))))))))))
 (rR gt4 underlying40 rfl i40 rfl (rT gt5 (rT gt6 r0)))⟩
theorem h104 : FnGood Pg 104 g104.1 := g104.2
theorem c104 {d : Option Nat} {ty : TypeId} {pos : String} {af : Array Edge} {g : Option (Nat × Bool)} {x : Operand} {xs : Array Operand} {ats : Array TypeId} : DXOk Pg ⟨d, .call { callee := .value x, args := xs, argTypes := ats }, ty, pos, af, g⟩ (xCallD [(104, g104.1)]) := oG (tb1 h104 tb0)
/- wellspring/wellspringref08.section -/
noncomputable def g48 : {X : Xop // FnGood Pg 48 X} := ⟨_, fN' rfl Tryz.func48 (by decide) Tryz.ntmps48 Tryz.results48 rfl
 (cS (cR (sa pt6 (qV (.one (.nils)) rfl) <|
  sa pt7 (qI (.ofNat 0)) <|
  sa pt8 (qI (.ofNat 0)) <|
  se) rfl) (cS (cR (sa pt9 (qV (.one (.nils)) rfl) <|
  se) rfl) (cS (cS (cR (sa pt10 (qI (.ofNat 0)) <|
  se) rfl) (cB (cO (cS (cS (cR (sm pt14 (qT gt10) <|
  sm pt15 (qT gt2) <|
  y2 pt16 (iLss (qT gt14) (qT gt15)) <|
  se) rfl) (cC gt16 cK cE)) (cS (cB (cS (cR (sm pt20 (qT gt0) <|
  sm pt21 (qT gt1) <|
  s1 pt22 (uC rfl h104 (bb (qT gt20) (bb (qT gt21) b0))) <|
  sm pt19 (qT gt22) <|
  y1 pt23 (fEx (qT gt19)) <|
  y1 pt24 (fEx (qT gt19)) <|
  y1 pt25 (fEx (qT gt19)) <|
  s1 pt11 (u0 k126 b0) <|
  y0 (u2 k129 eStore rfl (qT gt11) (qT gt23)) <|
  sa pt12 (qT gt24) <|
  sa pt13 (qT gt25) <|
  se) rfl) (cS (cS (cR (sm pt26 (qT gt13) <|
  y2 pt27 (iNeq (qT gt26) (qI (.ofNat 0))) <|
  se) rfl) (cC gt27 cX cK)) (cS (cR (sm pt29 (qT gt9) <|
  y1 pt30 (u1 k40 eLoadN rfl (qT gt11)) <|
  s1 pt31 (u0 k137 (bb (qT gt30) b0)) <|
  s1 pt32 (u0 k66 (bb (qT gt29) (bb (qT gt31) b0))) <|
  sa pt9 (qT gt32) <|
  se) rfl) (cR (sm pt33 (qT gt12) <|
  sa pt1 (qT gt33) <|
  se) rfl))))) (cR (sm pt17 (qT gt10) <|
  y2 pt18 (iAdd (qT gt17) (qI (.ofNat 1))) <|
  sa pt10 (qT gt18) <|
  se) rfl)))))) (cS (cR (sm pt34 (qT gt9) <|
  sm pt35 (qT gt1) <|
  sa pt6 (qT gt34) <|
  sa pt7 (qT gt35) <|
  sa pt8 (qI (.ofNat 0)) <|
  se) rfl) cT))))
 (rT gt6 (rT gt7 (rT gt8 r0)))⟩
theorem h48 : FnGood Pg 48 g48.1 := g48.2
theorem c48 {d : Option Nat} {ty : TypeId} {pos : String} {af : Array Edge} {g : Option (Nat × Bool)} {x : Operand} {xs : Array Operand} {ats : Array TypeId} : DXOk Pg ⟨d, .call { callee := .value x, args := xs, argTypes := ats }, ty, pos, af, g⟩ (xCallD [(48, g48.1)]) := oG (tb1 h48 tb0)
/- wellspring/wellspringref08.Decode -/
noncomputable def g11 : {X : Xop // FnGood Pg 11 X} := ⟨_, fN' rfl Tryz.func11 (by decide) Tryz.ntmps11 Tryz.results11 rfl
 (cS (cR (s1 pt2 (u0 k130 b0) <|
  sa pt3 (qI (.ofNat 0)) <|
  se) rfl) (cS (cS (cR (sm pt23 (qT gt0) <|
  y1 pt24 (u1 k0 eLenStr rfl (qT gt23)) <|
  y2 pt25 (iGtr (qT gt24) (qI (.ofNat 65535))) <|
  se) rfl) (cC gt25 cX cK)) (cS (cR (sm pt28 (qT gt0) <|
  s1 pt29 (uC rfl h45 (bb (qT gt28) b0)) <|
  sm pt27 (qT gt29) <|
  y1 pt30 (fEx (qT gt27)) <|
  y1 pt31 (fEx (qT gt27)) <|
  y1 pt32 (fEx (qT gt27)) <|
  sa pt4 (qT gt30) <|
  sa pt5 (qT gt31) <|
  sa pt6 (qT gt32) <|
  se) rfl) (cS (cS (cR (sm pt33 (qT gt6) <|
  y1 pt34 (fNo (qT gt33)) <|
  se) rfl) (cC gt34 cX cK)) (cS (cR (s1 pt7 (u0 k467 b0) <|
  se) rfl) (cS (cS (cR (sa pt8 (qI (.ofNat 0)) <|
  se) rfl) (cB (cO (cS (cS (cR (sm pt36 (qT gt8) <|
  y2 pt37 (iLss (qT gt36) (qI (.ofNat 4))) <|
  se) rfl) (cC gt37 cK cE)) (cS (cB (cS (cR (sm pt41 (qT gt0) <|
  sm pt42 (qT gt8) <|
  y2 pt43 (iMul (qI (.ofNat 2)) (qT gt42)) <|
  y2 pt44 (iAdd (qI (.ofNat 4)) (qT gt43)) <|
  s1 pt45 (uC rfl h46 (bb (qT gt41) (bb (qT gt44) (bb (qI (.ofNat 2)) b0)))) <|
  sm pt40 (qT gt45) <|
  y1 pt46 (fEx (qT gt40)) <|
  y1 pt47 (fEx (qT gt40)) <|
  sa pt9 (qT gt46) <|
  sa pt10 (qT gt47) <|
  se) rfl) (cR (sm pt48 (qT gt8) <|
  sm pt49 (qT gt9) <|
  s1 pt50 (u0 k468 (bb (qT gt7) (bb (qT gt48) b0))) <|
  y0 (u2 k69 eStore rfl (qT gt50) (qT gt49)) <|
  se) rfl))) (cR (sm pt38 (qT gt8) <|
  y2 pt39 (iAdd (qT gt38) (qI (.ofNat 1))) <|
  sa pt8 (qT gt39) <|
  se) rfl)))))) (cS (cR (sm pt52 (qT gt0) <|
  s1 pt53 (u0 k468 (bb (qT gt7) (bb (qI (.ofNat 0)) b0))) <|
  y1 pt54 (u1 k5 eLoad rfl (qT gt53)) <|
  s1 pt55 (uC rfl h47 (bb (qT gt52) (bb (qI (.ofNat 12)) (bb (qT gt54) b0)))) <|
  sm pt51 (qT gt55) <|
  y1 pt56 (fEx (qT gt51)) <|
  y1 pt57 (fEx (qT gt51)) <|
  y1 pt58 (fEx (qT gt51)) <|
  sa pt11 (qT gt56) <|
  sa pt12 (qT gt57) <|
  sa pt13 (qT gt58) <|
  se) rfl) (cS (cS (cR (sm pt59 (qT gt13) <|
  y2 pt60 (iNeq (qT gt59) (qI (.ofNat 0))) <|
  se) rfl) (cC gt60 cX cK)) (cS (cR (sm pt64 (qT gt0) <|
  sm pt65 (qT gt12) <|
  s1 pt66 (u0 k468 (bb (qT gt7) (bb (qI (.ofNat 1)) b0))) <|
  y1 pt67 (u1 k5 eLoad rfl (qT gt66)) <|
  s1 pt68 (uC rfl h48 (bb (qT gt64) (bb (qT gt65) (bb (qT gt67) b0)))) <|
  sm pt63 (qT gt68) <|
  y1 pt69 (fEx (qT gt63)) <|
  y1 pt70 (fEx (qT gt63)) <|
  y1 pt71 (fEx (qT gt63)) <|
  sa pt14 (qT gt69) <|
  sa pt15 (qT gt70) <|
  sa pt16 (qT gt71) <|
  se) rfl) (cS (cS (cR (sm pt72 (qT gt16) <|
  y2 pt73 (iNeq (qT gt72) (qI (.ofNat 0))) <|
  se) rfl) (cC gt73 cX cK)) (cS (cR (sm pt77 (qT gt0) <|
  sm pt78 (qT gt15) <|
  s1 pt79 (u0 k468 (bb (qT gt7) (bb (qI (.ofNat 2)) b0))) <|
  y1 pt80 (u1 k5 eLoad rfl (qT gt79)) <|
  s1 pt81 (uC rfl h48 (bb (qT gt77) (bb (qT gt78) (bb (qT gt80) b0)))) <|
  sm pt76 (qT gt81) <|
  y1 pt82 (fEx (qT gt76)) <|
  y1 pt83 (fEx (qT gt76)) <|
  y1 pt84 (fEx (qT gt76)) <|
  sa pt17 (qT gt82) <|
  sa pt18 (qT gt83) <|
  sa pt19 (qT gt84) <|
  se) rfl) (cS (cS (cR (sm pt85 (qT gt19) <|
  y2 pt86 (iNeq (qT gt85) (qI (.ofNat 0))) <|
  se) rfl) (cC gt86 cX cK)) (cS (cR (sm pt90 (qT gt0) <|
  sm pt91 (qT gt18) <|
  s1 pt92 (u0 k468 (bb (qT gt7) (bb (qI (.ofNat 3)) b0))) <|
  y1 pt93 (u1 k5 eLoad rfl (qT gt92)) <|
  s1 pt94 (uC rfl h48 (bb (qT gt90) (bb (qT gt91) (bb (qT gt93) b0)))) <|
  sm pt89 (qT gt94) <|
  y1 pt95 (fEx (qT gt89)) <|
  y1 pt96 (fEx (qT gt89)) <|
  y1 pt97 (fEx (qT gt89)) <|
  sa pt20 (qT gt95) <|
  sa pt21 (qT gt96) <|
  sa pt22 (qT gt97) <|
  se) rfl) (cS (cS (cR (sm pt98 (qT gt22) <|
  y2 pt99 (iNeq (qT gt98) (qI (.ofNat 0))) <|
  se) rfl) (cC gt99 cX cK)) (cS (cS (cR (sm pt102 (qT gt21) <|
  sm pt103 (qT gt0) <|
  y1 pt104 (u1 k0 eLenStr rfl (qT gt103)) <|
  y2 pt105 (iNeq (qT gt102) (qT gt104)) <|
  se) rfl) (cC gt105 cX cK)) (cS (cR (sm pt107 (qT gt4) <|
  sm pt108 (qT gt5) <|
  sm pt109 (qT gt11) <|
  sm pt110 (qT gt14) <|
  sm pt111 (qT gt17) <|
  sm pt112 (qT gt20) <|
  s1 pt113 (u0 k469 (bb (qT gt107) (bb (qT gt108) (bb (qT gt109) (bb (qT gt110) (bb (qT gt111) (bb (qT gt112) b0))))))) <|
  y0 (u2 k132 eStore rfl (qT gt2) (qT gt113)) <|
  sa pt3 (qI (.ofNat 0)) <|
  se) rfl) cT))))))))))))))))
 (rR gt2 underlying37 rfl i37 rfl (rT gt3 r0))⟩
theorem h11 : FnGood Pg 11 g11.1 := g11.2
theorem c11 {d : Option Nat} {ty : TypeId} {pos : String} {af : Array Edge} {g : Option (Nat × Bool)} {x : Operand} {xs : Array Operand} {ats : Array TypeId} : DXOk Pg ⟨d, .call { callee := .value x, args := xs, argTypes := ats }, ty, pos, af, g⟩ (xCallD [(11, g11.1)]) := oG (tb1 h11 tb0)
end Go.Proofs.YtddbhljljmijcaaGreat.V
