/- Functions of the program, evaluated. -/
import Derived.Test.YtddbhljljmijcaaGreatTc
namespace Go.Proofs.YtddbhljljmijcaaGreat.V
open Go.RowKit Go.Proofs Go.Proofs.Tryz
set_option linter.unusedVariables false
set_option maxRecDepth 100000
/- wellspring/age.within[int] -/
noncomputable def g182 : {X : Xop // FnGood Pg 182 X} := ⟨_, fN' rfl Tryz.func182 (by decide) Tryz.ntmps182 Tryz.results182 rfl
 (cS (cR (sa pt4 qB <|
  se) rfl) (cS (cR (sm pt5 (qT gt0) <|
  y2 pt6 (iGeq (qT gt5) (qI (.ofNat 0))) <|
  sm pt7 (qT gt6) <|
  g1 gt7 pt8 (fMv (qT gt0)) rfl <|
  g1 gt7 pt9 (fMv (qT gt1)) rfl <|
  g1 gt7 pt10 (iLeq (qT gt8) (qT gt9)) rfl <|
  s1 pt11 (uP (qT gt7) (qT gt10) qB) <|
  sa pt4 (qT gt11) <|
  se) rfl) cT))
 (rT gt4 r0)⟩
theorem h182 : FnGood Pg 182 g182.1 := g182.2
theorem c182 {d : Option Nat} {ty : TypeId} {pos : String} {af : Array Edge} {g : Option (Nat × Bool)} {x : Operand} {xs : Array Operand} {ats : Array TypeId} : DXOk Pg ⟨d, .call { callee := .value x, args := xs, argTypes := ats }, ty, pos, af, g⟩ (xCallD [(182, g182.1)]) := oG (tb1 h182 tb0)
/- wellspring/age.Live -/
noncomputable def g113 : {X : Xop // FnGood Pg 113 X} := ⟨_, fN' rfl Tryz.func113 (by decide) Tryz.ntmps113 Tryz.results113 rfl
 (cS (cR (sa pt4 qB <|
  se) rfl) (cS (cR (sm pt5 (qT gt0) <|
  s1 pt6 (uC rfl h182 (bb (qT gt5) (bb (qI (.ofNat 1099511627776)) b0))) <|
  sm pt7 (qT gt6) <|
  g1 gt7 pt8 (fMv (qT gt0)) rfl <|
  g1 gt7 pt9 (fMv (qT gt1)) rfl <|
  g1 gt7 pt10 (iLss (qT gt8) (qT gt9)) rfl <|
  s1 pt11 (uP (qT gt7) (qT gt10) qB) <|
  sa pt4 (qT gt11) <|
  se) rfl) cT))
 (rT gt4 r0)⟩
theorem h113 : FnGood Pg 113 g113.1 := g113.2
theorem c113 {d : Option Nat} {ty : TypeId} {pos : String} {af : Array Edge} {g : Option (Nat × Bool)} {x : Operand} {xs : Array Operand} {ats : Array TypeId} : DXOk Pg ⟨d, .call { callee := .value x, args := xs, argTypes := ats }, ty, pos, af, g⟩ (xCallD [(113, g113.1)]) := oG (tb1 h113 tb0)
/- (*wellspring/store.Store).Peek -/
noncomputable def g120 : {X : Xop // FnGood Pg 120 X} := ⟨_, fN' rfl Tryz.func120 (by decide) Tryz.ntmps120 Tryz.results120 rfl
 (cS (cR (s1 pt5 (u0 oX (bb (qT gt2) b0)) <|
  s1 pt6 (u0 k151 b0) <|
  sa pt7 qB <|
  se) rfl) (cS (cS (cR (sm pt10 (qT gt0) <|
  s1 pt11 (u0 k156 (bb (qT gt10) (bb (qV (.one (.nilp)) rfl) b0))) <|
  se) rfl) (cC gt11 cX cK)) (cS (cD mo (d1 0 0 rfl pt14 oM (aT gt0 a0) <|
  d1 1 1 rfl pt15 oC (aT gt14 a0) <|
  d1 2 3 rfl pt16 k157 (aT gt15 a0) <|
  d1 3 7 rfl pt17 k158 (aT gt16 a0) <|
  d1 4 0 rfl pt18 k45 (aT gt5 a0) <|
  d1 5 31 rfl pt19 k159 (aT gt17 (aT gt18 a0)) <|
  d1 6 63 rfl pt13 oM (aT gt19 a0) <|
  d1 7 127 rfl pt20 oE (aT gt13 a0) <|
  d1 8 127 rfl pt21 oE (aT gt13 a0) <|
  d1 9 0 rfl pt8 k151 a0 <|
  d0 10 767 rfl k155 (aT gt8 (aT gt20 a0)) <|
  d1 11 2047 rfl pt9 oA (aT gt21 a0) <|
  de) rfl rfl rfl) (cS (cS (cR (sm pt22 (qT gt9) <|
  y1 pt23 (fNo (qT gt22)) <|
  sm pt24 (qT gt23) <|
  g1 gt24 pt25 (fMv (qT gt1)) rfl <|
  g1 gt24 pt26 (u1 k160 eFaddr rfl (qT gt8)) rfl <|
  g1 gt24 pt27 (u1 k5 eLoad rfl (qT gt26)) rfl <|
  g1 gt24 pt28 (uC rfl h113 (bb (qT gt25) (bb (qT gt27) b0))) rfl <|
  g1 gt24 pt29 (fNo (qT gt28)) rfl <|
  s1 pt30 (uP (qT gt24) qB (qT gt29)) <|
  se) rfl) (cC gt30 (cS (cR (s1 pt31 (u0 k161 b0) <|
  y0 (u2 k155 eStore rfl (qT gt6) (qT gt31)) <|
  sa pt7 qB <|
  se) rfl) cT) cK)) (cS (cR (y1 pt32 (u1 k154 eLoadN rfl (qT gt8)) <|
  s1 pt33 (uC rfl h108 (bb (qT gt32) b0)) <|
  y0 (u2 k155 eStore rfl (qT gt6) (qT gt33)) <|
  sa pt7 qB <|
  se) rfl) cT)))))
 (rR gt6 underlying210 rfl i210 rfl (rT gt7 r0))⟩
theorem h120 : FnGood Pg 120 g120.1 := g120.2
theorem c120 {d : Option Nat} {ty : TypeId} {pos : String} {af : Array Edge} {g : Option (Nat × Bool)} {x : Operand} {xs : Array Operand} {ats : Array TypeId} : DXOk Pg ⟨d, .call { callee := .value x, args := xs, argTypes := ats }, ty, pos, af, g⟩ (xCallD [(120, g120.1)]) := oG (tb1 h120 tb0)
/- wellspring/rank.in -/
noncomputable def g191 : {X : Xop // FnGood Pg 191 X} := ⟨_, fN' rfl Tryz.func191 (by decide) Tryz.ntmps191 Tryz.results191 rfl
 (cS (cR (sa pt4 qB <|
  se) rfl) (cS (cR (sm pt5 (qT gt0) <|
  sm pt6 (qT gt1) <|
  y2 pt7 (iGeq (qT gt5) (qT gt6)) <|
  sm pt8 (qT gt7) <|
  g1 gt8 pt9 (fMv (qT gt0)) rfl <|
  g1 gt8 pt10 (iLeq (qT gt9) (qI (.ofNat 5))) rfl <|
  s1 pt11 (uP (qT gt8) (qT gt10) qB) <|
  sa pt4 (qT gt11) <|
  se) rfl) cT))
 (rT gt4 r0)⟩
theorem h191 : FnGood Pg 191 g191.1 := g191.2
theorem c191 {d : Option Nat} {ty : TypeId} {pos : String} {af : Array Edge} {g : Option (Nat × Bool)} {x : Operand} {xs : Array Operand} {ats : Array TypeId} : DXOk Pg ⟨d, .call { callee := .value x, args := xs, argTypes := ats }, ty, pos, af, g⟩ (xCallD [(191, g191.1)]) := oG (tb1 h191 tb0)
/- wellspring/rank.Told -/
noncomputable def g121 : {X : Xop // FnGood Pg 121 X} := ⟨_, fN' rfl Tryz.func121 (by decide) Tryz.ntmps121 Tryz.results121 rfl
 (cS (cR (sa pt2 qB <|
  se) rfl) (cS (cR (sm pt3 (qT gt0) <|
  s1 pt4 (uC rfl h191 (bb (qT gt3) (bb (qI (.ofNat 3)) b0))) <|
  sa pt2 (qT gt4) <|
  se) rfl) cT))
 (rT gt2 r0)⟩
theorem h121 : FnGood Pg 121 g121.1 := g121.2
theorem c121 {d : Option Nat} {ty : TypeId} {pos : String} {af : Array Edge} {g : Option (Nat × Bool)} {x : Operand} {xs : Array Operand} {ats : Array TypeId} : DXOk Pg ⟨d, .call { callee := .value x, args := xs, argTypes := ats }, ty, pos, af, g⟩ (xCallD [(121, g121.1)]) := oG (tb1 h121 tb0)
/- wellspring/age.Left -/
noncomputable def g122 : {X : Xop // FnGood Pg 122 X} := ⟨_, fN' rfl Tryz.func122 (by decide) Tryz.ntmps122 Tryz.results122 rfl
 (cS (cR (sa pt4 (qI (.ofNat 0)) <|
  se) rfl) (cS (cS (cR (sm pt5 (qT gt0) <|
  sm pt6 (qT gt1) <|
  s1 pt7 (uC rfl h113 (bb (qT gt5) (bb (qT gt6) b0))) <|
  y1 pt8 (fNo (qT gt7)) <|
  se) rfl) (cC gt8 cX cK)) (cS (cR (sm pt9 (qT gt1) <|
  sm pt10 (qT gt0) <|
  y2 pt11 (iSub (qT gt9) (qT gt10)) <|
  s1 pt12 (u0 bMin (bb (qT gt11) (bb (qI (.ofNat 604800)) b0))) <|
  sa pt4 (qT gt12) <|
  se) rfl) cT)))
 (rT gt4 r0)⟩
theorem h122 : FnGood Pg 122 g122.1 := g122.2
theorem c122 {d : Option Nat} {ty : TypeId} {pos : String} {af : Array Edge} {g : Option (Nat × Bool)} {x : Operand} {xs : Array Operand} {ats : Array TypeId} : DXOk Pg ⟨d, .call { callee := .value x, args := xs, argTypes := ats }, ty, pos, af, g⟩ (xCallD [(122, g122.1)]) := oG (tb1 h122 tb0)
/- (wellspring/chain.known).told -/
noncomputable def g57 : {X : Xop // FnGood Pg 57 X} := ⟨_, fN' rfl Tryz.func57 (by decide) Tryz.ntmps57 Tryz.results57 rfl
 (cS (cR (s1 pt2 (u0 oX (bb (qT gt0) b0)) <|
  s1 pt3 (u0 oX (bb (qT gt1) b0)) <|
  s1 pt4 (u0 k162 b0) <|
  sa pt5 qB <|
  se) rfl) (cS (cR (y1 pt9 (u1 k163 eFaddr rfl (qT gt2)) <|
  y1 pt10 (u1 k164 eLoad rfl (qT gt9)) <|
  y1 pt11 (u1 k165 eFaddr rfl (qT gt2)) <|
  y1 pt12 (u1 k5 eLoad rfl (qT gt11)) <|
  y1 pt13 (u1 k45 eLoadN rfl (qT gt3)) <|
  s1 pt14 (uC rfl h120 (bb (qT gt10) (bb (qT gt12) (bb (qT gt13) b0)))) <|
  sm pt8 (qT gt14) <|
  y1 pt15 (fEx (qT gt8)) <|
  y1 pt16 (fEx (qT gt8)) <|
  s1 pt6 (u0 k151 b0) <|
  y0 (u2 k155 eStore rfl (qT gt6) (qT gt15)) <|
  sa pt7 (qT gt16) <|
  se) rfl) (cS (cS (cR (sm pt17 (qT gt7) <|
  y1 pt18 (fNo (qT gt17)) <|
  sm pt19 (qT gt18) <|
  g1 gt19 pt20 (u1 k166 eFaddr rfl (qT gt6)) rfl <|
  g1 gt19 pt21 (u1 k5 eLoad rfl (qT gt20)) rfl <|
  g1 gt19 pt22 (uC rfl h121 (bb (qT gt21) b0)) rfl <|
  g1 gt19 pt23 (fNo (qT gt22)) rfl <|
  s1 pt24 (uP (qT gt19) qB (qT gt23)) <|
  se) rfl) (cC gt24 (cS (cR (s1 pt25 (u0 k167 b0) <|
  y0 (u2 k168 eStore rfl (qT gt4) (qT gt25)) <|
  sa pt5 qB <|
  se) rfl) cT) cK)) (cS (cD mo (d1 0 0 rfl pt26 k152 (aT gt6 a0) <|
  d1 1 1 rfl pt27 k169 (aT gt26 a0) <|
  d1 2 0 rfl pt28 k165 (aT gt2 a0) <|
  d1 3 4 rfl pt29 k5 (aT gt28 a0) <|
  d1 4 0 rfl pt30 k160 (aT gt6 a0) <|
  d1 5 16 rfl pt31 k5 (aT gt30 a0) <|
  d1 6 60 rfl pt32 c122 (aU rfl (aT gt29 (aT gt31 a0))) <|
  d1 7 127 rfl pt33 k170 (aT gt27 (aT gt32 a0)) <|
  d0 8 255 rfl k168 (aT gt4 (aT gt33 a0)) <|
  d1 9 511 rfl pt5 oA (aV (.one (.bool true)) rfl a0) <|
  de) rfl rfl rfl) cT))))
 (rR gt4 underlying72 rfl i72 rfl (rT gt5 r0))⟩
theorem h57 : FnGood Pg 57 g57.1 := g57.2
theorem c57 {d : Option Nat} {ty : TypeId} {pos : String} {af : Array Edge} {g : Option (Nat × Bool)} {x : Operand} {xs : Array Operand} {ats : Array TypeId} : DXOk Pg ⟨d, .call { callee := .value x, args := xs, argTypes := ats }, ty, pos, af, g⟩ (xCallD [(57, g57.1)]) := oG (tb1 h57 tb0)
/- wellspring/chain.Target -/
noncomputable def g123 : {X : Xop // FnGood Pg 123 X} := ⟨_, fN' rfl Tryz.func123 (by decide) Tryz.ntmps123 Tryz.results123 rfl
 (cS (cR (s1 pt1 (u0 oX (bb (qT gt0) b0)) <|
  sa pt2 (qV (.one (.str [])) rfl) <|
  sa pt3 qB <|
  se) rfl) (cS (cS (cR (y1 pt5 (u1 k171 eFaddr rfl (qT gt1)) <|
  y1 pt6 (u1 k49 eFaddr rfl (qT gt5)) <|
  y1 pt7 (u1 k5 eLoad rfl (qT gt6)) <|
  y2 pt8 (iNeq (qT gt7) (qI (.ofNat 5))) <|
  sm pt9 (qT gt8) <|
  g1 gt9 pt10 (u1 k153 eFaddr rfl (qT gt1)) rfl <|
  g1 gt9 pt11 (u1 k12 eLoad rfl (qT gt10)) rfl <|
  g1 gt9 pt12 (u1 k1 eLenSlc rfl (qT gt11)) rfl <|
  g1 gt9 pt13 (iEql (qT gt12) (qI (.ofNat 0))) rfl <|
  s1 pt14 (uP (qT gt9) qB (qT gt13)) <|
  se) rfl) (cC gt14 (cS (cR (sa pt2 (qV (.one (.str [])) rfl) <|
  sa pt3 qB <|
  se) rfl) cT) cK)) cX))
 (rT gt2 (rT gt3 r0))⟩
theorem h123 : FnGood Pg 123 g123.1 := g123.2
theorem c123 {d : Option Nat} {ty : TypeId} {pos : String} {af : Array Edge} {g : Option (Nat × Bool)} {x : Operand} {xs : Array Operand} {ats : Array TypeId} : DXOk Pg ⟨d, .call { callee := .value x, args := xs, argTypes := ats }, ty, pos, af, g⟩ (xCallD [(123, g123.1)]) := oG (tb1 h123 tb0)
/- (wellspring/chain.known).alias -/
noncomputable def g58 : {X : Xop // FnGood Pg 58 X} := ⟨_, fN' rfl Tryz.func58 (by decide) Tryz.ntmps58 Tryz.results58 rfl
 (cS (cR (s1 pt2 (u0 oX (bb (qT gt0) b0)) <|
  s1 pt3 (u0 oX (bb (qT gt1) b0)) <|
  s1 pt4 (u0 k162 b0) <|
  sa pt5 (qV (.one (.str [])) rfl) <|
  sa pt6 qB <|
  se) rfl) (cS (cS (cR (y1 pt11 (u1 k49 eFaddr rfl (qT gt3)) <|
  y1 pt12 (u1 k5 eLoad rfl (qT gt11)) <|
  y2 pt13 (iEql (qT gt12) (qI (.ofNat 5))) <|
  se) rfl) (cC gt13 cX cK)) (cS (cR (y1 pt15 (u1 k49 eFaddr rfl (qT gt3)) <|
  y0 (u2 k69 eStore rfl (qT gt15) (qI (.ofNat 5))) <|
  se) rfl) (cS (cR (y1 pt17 (u1 k172 eLoadN rfl (qT gt2)) <|
  y1 pt18 (u1 k45 eLoadN rfl (qT gt3)) <|
  s1 pt19 (uC rfl h57 (bb (qT gt17) (bb (qT gt18) b0))) <|
  sm pt16 (qT gt19) <|
  y1 pt20 (fEx (qT gt16)) <|
  y1 pt21 (fEx (qT gt16)) <|
  s1 pt7 (u0 k162 b0) <|
  y0 (u2 k168 eStore rfl (qT gt7) (qT gt20)) <|
  sa pt8 (qT gt21) <|
  se) rfl) (cS (cR (y1 pt23 (u1 k173 eFaddr rfl (qT gt7)) <|
  y1 pt24 (u1 k169 eLoadN rfl (qT gt23)) <|
  s1 pt25 (uC rfl h123 (bb (qT gt24) b0)) <|
  sm pt22 (qT gt25) <|
  y1 pt26 (fEx (qT gt22)) <|
  y1 pt27 (fEx (qT gt22)) <|
  sa pt9 (qT gt26) <|
  sa pt10 (qT gt27) <|
  se) rfl) (cS (cR (y1 pt28 (u1 k174 eLoadN rfl (qT gt7)) <|
  sm pt29 (qT gt9) <|
  sm pt30 (qT gt10) <|
  y0 (u2 k168 eStore rfl (qT gt4) (qT gt28)) <|
  sa pt5 (qT gt29) <|
  sa pt6 (qT gt30) <|
  se) rfl) cT))))))
 (rR gt4 underlying72 rfl i72 rfl (rT gt5 (rT gt6 r0)))⟩
theorem h58 : FnGood Pg 58 g58.1 := g58.2
theorem c58 {d : Option Nat} {ty : TypeId} {pos : String} {af : Array Edge} {g : Option (Nat × Bool)} {x : Operand} {xs : Array Operand} {ats : Array TypeId} : DXOk Pg ⟨d, .call { callee := .value x, args := xs, argTypes := ats }, ty, pos, af, g⟩ (xCallD [(58, g58.1)]) := oG (tb1 h58 tb0)
/- wellspring/neg.whole -/
noncomputable def g114 : {X : Xop // FnGood Pg 114 X} := ⟨_, fN' rfl Tryz.func114 (by decide) Tryz.ntmps114 Tryz.results114 rfl
 (cS (cR (s1 pt1 (u0 oX (bb (qT gt0) b0)) <|
  s1 pt2 (u0 k46 b0) <|
  se) rfl) (cS (cR (y1 pt3 (u1 k49 eFaddr rfl (qT gt1)) <|
  y0 (u2 k69 eStore rfl (qT gt3) (qI (.ofNat 0))) <|
  se) rfl) (cS (cR (y1 pt4 (u1 k45 eLoadN rfl (qT gt1)) <|
  y0 (u2 k47 eStore rfl (qT gt2) (qT gt4)) <|
  se) rfl) cT)))
 (rR gt2 underlying31 rfl i31 rfl r0)⟩
theorem h114 : FnGood Pg 114 g114.1 := g114.2
theorem c114 {d : Option Nat} {ty : TypeId} {pos : String} {af : Array Edge} {g : Option (Nat × Bool)} {x : Operand} {xs : Array Operand} {ats : Array TypeId} : DXOk Pg ⟨d, .call { callee := .value x, args := xs, argTypes := ats }, ty, pos, af, g⟩ (xCallD [(114, g114.1)]) := oG (tb1 h114 tb0)
/- (*wellspring/neg.Neg).Find -/
noncomputable def g124 : {X : Xop // FnGood Pg 124 X} := ⟨_, fN' rfl Tryz.func124 (by decide) Tryz.ntmps124 Tryz.results124 rfl
 (cS (cR (s1 pt5 (u0 oX (bb (qT gt2) b0)) <|
  s1 pt6 (u0 k175 b0) <|
  sa pt7 qB <|
  se) rfl) (cS (cS (cR (sm pt12 (qT gt0) <|
  s1 pt13 (u0 k176 (bb (qT gt12) (bb (qV (.one (.nilp)) rfl) b0))) <|
  se) rfl) (cC gt13 cX cK)) (cS (cS (cD mo (d1 0 0 rfl pt15 k45 (aT gt5 a0) <|
  d1 2 0 rfl pt17 k45 (aT gt5 a0) <|
  d1 5 0 rfl pt20 oM (aI (.ofNat 0) a0) <|
  d1 1 1 rfl pt16 c114 (aU rfl (aT gt15 a0)) <|
  d1 3 7 rfl pt18 k177 (aT gt16 (aT gt17 a0)) <|
  d1 4 15 rfl pt19 k43 (aT gt18 a0) <|
  de) rfl rfl rfl) (cB (cO (cS (cR (y2 pt21 (iLss (qT gt20) (qT gt19)) <|
  se) rfl) (cS (cC gt21 cK cE) (cS (cB (cS (cR (y2 pt22 (u2 k44 eIaddr rfl (qT gt18) (qT gt20)) <|
  y1 pt23 (u1 k45 eLoadN rfl (qT gt22)) <|
  s1 pt9 (u0 k46 b0) <|
  y0 (u2 k47 eStore rfl (qT gt9) (qT gt23)) <|
  se) rfl) (cS (cD mo (d1 0 0 rfl pt25 oM (aT gt0 a0) <|
  d1 1 1 rfl pt26 oC (aT gt25 a0) <|
  d1 2 3 rfl pt27 k178 (aT gt26 a0) <|
  d1 3 7 rfl pt28 k179 (aT gt27 a0) <|
  d1 4 0 rfl pt29 k45 (aT gt9 a0) <|
  d1 5 31 rfl pt30 k180 (aT gt28 (aT gt29 a0)) <|
  d1 6 63 rfl pt24 oM (aT gt30 a0) <|
  d1 7 127 rfl pt31 oE (aT gt24 a0) <|
  d1 8 127 rfl pt32 oE (aT gt24 a0) <|
  d1 9 0 rfl pt10 k175 a0 <|
  d0 10 767 rfl k181 (aT gt10 (aT gt31 a0)) <|
  d1 11 2047 rfl pt11 oA (aT gt32 a0) <|
  de) rfl rfl rfl) (cS (cR (sm pt33 (qT gt11) <|
  sm pt34 (qT gt33) <|
  g1 gt34 pt35 (fMv (qT gt1)) rfl <|
  g1 gt34 pt36 (u1 k182 eFaddr rfl (qT gt10)) rfl <|
  g1 gt34 pt37 (u1 k5 eLoad rfl (qT gt36)) rfl <|
  g1 gt34 pt38 (u0 (oG tb0) (bb (qU rfl) (bb (qT gt35) (bb (qT gt37) b0)))) rfl <|
  s1 pt39 (uP (qT gt34) (qT gt38) qB) <|
  se) rfl) (cC gt39 cX cK))))) (cR (y2 pt42 (iAdd (qT gt20) (qI (.ofNat 1))) <|
  sm pt20 (qT gt42) <|
  se) rfl))))))) (cS (cR (s1 pt43 (u0 k183 b0) <|
  y0 (u2 k181 eStore rfl (qT gt6) (qT gt43)) <|
  sa pt7 qB <|
  se) rfl) cT))))
 (rR gt6 underlying219 rfl i219 rfl (rT gt7 r0))⟩
theorem h124 : FnGood Pg 124 g124.1 := g124.2
theorem c124 {d : Option Nat} {ty : TypeId} {pos : String} {af : Array Edge} {g : Option (Nat × Bool)} {x : Operand} {xs : Array Operand} {ats : Array TypeId} : DXOk Pg ⟨d, .call { callee := .value x, args := xs, argTypes := ats }, ty, pos, af, g⟩ (xCallD [(124, g124.1)]) := oG (tb1 h124 tb0)
/- (wellspring/chain.known).end -/
noncomputable def g59 : {X : Xop // FnGood Pg 59 X} := ⟨_, fN' rfl Tryz.func59 (by decide) Tryz.ntmps59 Tryz.results59 rfl
 (cS (cR (s1 pt3 (u0 oX (bb (qT gt0) b0)) <|
  s1 pt4 (u0 oX (bb (qT gt1) b0)) <|
  s1 pt5 (u0 oX (bb (qT gt2) b0)) <|
  s1 pt6 (u0 k184 b0) <|
  se) rfl) (cS (cR (y1 pt10 (u1 k185 eFaddr rfl (qT gt3)) <|
  y1 pt11 (u1 k186 eLoad rfl (qT gt10)) <|
  y1 pt12 (u1 k165 eFaddr rfl (qT gt3)) <|
  y1 pt13 (u1 k5 eLoad rfl (qT gt12)) <|
  y1 pt14 (u1 k45 eLoadN rfl (qT gt5)) <|
  s1 pt15 (uC rfl h124 (bb (qT gt11) (bb (qT gt13) (bb (qT gt14) b0)))) <|
  sm pt9 (qT gt15) <|
  y1 pt16 (fEx (qT gt9)) <|
  y1 pt17 (fEx (qT gt9)) <|
  s1 pt7 (u0 k175 b0) <|
  y0 (u2 k181 eStore rfl (qT gt7) (qT gt16)) <|
  sa pt8 (qT gt17) <|
  se) rfl) (cS (cB (cS (cR (sm pt20 (qT gt8) <|
  y1 pt21 (fNo (qT gt20)) <|
  sa pt19 (qT gt21) <|
  se) rfl) (cC gt19 (cS (cR (y1 pt22 (u1 k187 eFaddr rfl (qT gt4)) <|
  y0 (u2 k69 eStore rfl (qT gt22) (qI (.ofNat 3))) <|
  se) rfl) (cS (cR (y1 pt23 (u1 k188 eLoadN rfl (qT gt4)) <|
  y0 (u2 k189 eStore rfl (qT gt6) (qT gt23)) <|
  se) rfl) cT)) cX))) cX)))
 (rR gt6 underlying74 rfl i74 rfl r0)⟩
theorem h59 : FnGood Pg 59 g59.1 := g59.2
theorem c59 {d : Option Nat} {ty : TypeId} {pos : String} {af : Array Edge} {g : Option (Nat × Bool)} {x : Operand} {xs : Array Operand} {ats : Array TypeId} : DXOk Pg ⟨d, .call { callee := .value x, args := xs, argTypes := ats }, ty, pos, af, g⟩ (xCallD [(59, g59.1)]) := oG (tb1 h59 tb0)
/- wellspring/chain.Follow -/
noncomputable def g17 : {X : Xop // FnGood Pg 17 X} := ⟨_, fN' rfl Tryz.func17 (by decide) Tryz.ntmps17 Tryz.results17 rfl
 (cS (cR (s1 pt7 (u0 oX (bb (qT gt3) b0)) <|
  s1 pt8 (u0 k184 b0) <|
  se) rfl) (cS (cR (sm pt17 (qT gt0) <|
  sm pt18 (qT gt1) <|
  sm pt19 (qT gt2) <|
  s1 pt20 (u0 k190 (bb (qT gt17) (bb (qT gt18) (bb (qT gt19) b0)))) <|
  s1 pt9 (u0 k191 b0) <|
  y0 (u2 k192 eStore rfl (qT gt9) (qT gt20)) <|
  se) rfl) (cS (cR (s1 pt10 (u0 k184 b0) <|
  se) rfl) (cS (cR (s1 pt21 (u0 oZ b0) <|
  sa pt11 (qT gt21) <|
  se) rfl) (cB (cO (cB (cS (cR (y1 pt22 (u1 k48 eFaddr rfl (qT gt7)) <|
  y1 pt23 (u1 k3 eLoad rfl (qT gt22)) <|
  y1 pt24 (u1 k193 eFaddr rfl (qT gt10)) <|
  y0 (u2 k115 eStore rfl (qT gt24) (qT gt23)) <|
  se) rfl) (cS (cR (sm pt25 (qT gt11) <|
  y1 pt26 (u1 k48 eFaddr rfl (qT gt7)) <|
  y1 pt27 (u1 k3 eLoad rfl (qT gt26)) <|
  s1 pt28 (u0 k194 (bb (qT gt25) (bb (qT gt27) b0))) <|
  y2 pt29 (iAdd (qT gt28) (qI (.ofNat 1))) <|
  s0 (u0 k195 (bb (qT gt25) (bb (qT gt27) (bb (qT gt29) b0)))) <|
  se) rfl) (cS (cS (cR (y1 pt31 (u1 k172 eLoadN rfl (qT gt9)) <|
  y1 pt32 (u1 k45 eLoadN rfl (qT gt7)) <|
  s1 pt33 (uC rfl h57 (bb (qT gt31) (bb (qT gt32) b0))) <|
  sm pt30 (qT gt33) <|
  y1 pt34 (fEx (qT gt30)) <|
  y1 pt35 (fEx (qT gt30)) <|
  s1 pt12 (u0 k162 b0) <|
  y0 (u2 k168 eStore rfl (qT gt12) (qT gt34)) <|
  sa pt13 (qT gt35) <|
  se) rfl) (cS (cR (sm pt36 (qT gt13) <|
  se) rfl) (cC gt36 (cS (cR (y1 pt37 (u1 k196 eFaddr rfl (qT gt10)) <|
  y1 pt38 (u1 k197 eLoad rfl (qT gt37)) <|
  y1 pt39 (u1 k174 eLoadN rfl (qT gt12)) <|
  s1 pt40 (u0 k198 (bb (qT gt39) b0)) <|
  s1 pt41 (u0 k199 (bb (qT gt38) (bb (qT gt40) b0))) <|
  y1 pt42 (u1 k196 eFaddr rfl (qT gt10)) <|
  y0 (u2 k200 eStore rfl (qT gt42) (qT gt41)) <|
  se) rfl) (cS (cR (y1 pt43 (u1 k188 eLoadN rfl (qT gt10)) <|
  y0 (u2 k189 eStore rfl (qT gt8) (qT gt43)) <|
  se) rfl) cT)) cK))) (cS (cR (y1 pt45 (u1 k172 eLoadN rfl (qT gt9)) <|
  y1 pt46 (u1 k45 eLoadN rfl (qT gt7)) <|
  s1 pt47 (uC rfl h58 (bb (qT gt45) (bb (qT gt46) b0))) <|
  sm pt44 (qT gt47) <|
  y1 pt48 (fEx (qT gt44)) <|
  y1 pt49 (fEx (qT gt44)) <|
  y1 pt50 (fEx (qT gt44)) <|
  s1 pt14 (u0 k162 b0) <|
  y0 (u2 k168 eStore rfl (qT gt14) (qT gt48)) <|
  sa pt15 (qT gt49) <|
  sa pt16 (qT gt50) <|
  se) rfl) (cS (cS (cR (sm pt51 (qT gt16) <|
  y1 pt52 (fNo (qT gt51)) <|
  se) rfl) (cC gt52 (cS (cR (y1 pt53 (u1 k172 eLoadN rfl (qT gt9)) <|
  y1 pt54 (u1 k188 eLoadN rfl (qT gt10)) <|
  y1 pt55 (u1 k45 eLoadN rfl (qT gt7)) <|
  s1 pt56 (uC rfl h59 (bb (qT gt53) (bb (qT gt54) (bb (qT gt55) b0)))) <|
  y0 (u2 k189 eStore rfl (qT gt8) (qT gt56)) <|
  se) rfl) cT) cK)) cX))))))))))))
 (rR gt8 underlying74 rfl i74 rfl r0)⟩
theorem h17 : FnGood Pg 17 g17.1 := g17.2
theorem c17 {d : Option Nat} {ty : TypeId} {pos : String} {af : Array Edge} {g : Option (Nat × Bool)} {x : Operand} {xs : Array Operand} {ats : Array TypeId} : DXOk Pg ⟨d, .call { callee := .value x, args := xs, argTypes := ats }, ty, pos, af, g⟩ (xCallD [(17, g17.1)]) := oG (tb1 h17 tb0)
/- (*wellspring/store.Store).Changes -/
noncomputable def g153 : {X : Xop // FnGood Pg 153 X} := ⟨_, fN' rfl Tryz.func153 (by decide) Tryz.ntmps153 Tryz.results153 rfl
 (cS (cR (sa pt2 (qI (.ofNat 0)) <|
  se) rfl) (cS (cS (cR (sm pt3 (qT gt0) <|
  s1 pt4 (u0 k156 (bb (qT gt3) (bb (qV (.one (.nilp)) rfl) b0))) <|
  se) rfl) (cC gt4 cX cK)) (cS (cR (sm pt5 (qT gt0) <|
  y1 pt6 (fNc (qT gt5)) <|
  y1 pt7 (u1 k201 eFaddr rfl (qT gt6)) <|
  y1 pt8 (u1 k5 eLoad rfl (qT gt7)) <|
  sa pt2 (qT gt8) <|
  se) rfl) cT)))
 (rT gt2 r0)⟩
theorem h153 : FnGood Pg 153 g153.1 := g153.2
theorem c153 {d : Option Nat} {ty : TypeId} {pos : String} {af : Array Edge} {g : Option (Nat × Bool)} {x : Operand} {xs : Array Operand} {ats : Array TypeId} : DXOk Pg ⟨d, .call { callee := .value x, args := xs, argTypes := ats }, ty, pos, af, g⟩ (xCallD [(153, g153.1)]) := oG (tb1 h153 tb0)
/- (*wellspring/neg.Neg).Changes -/
noncomputable def g154 : {X : Xop // FnGood Pg 154 X} := ⟨_, fN' rfl Tryz.func154 (by decide) Tryz.ntmps154 Tryz.results154 rfl
 (cS (cR (sa pt2 (qI (.ofNat 0)) <|
  se) rfl) (cS (cS (cR (sm pt3 (qT gt0) <|
  s1 pt4 (u0 k176 (bb (qT gt3) (bb (qV (.one (.nilp)) rfl) b0))) <|
  se) rfl) (cC gt4 cX cK)) (cS (cR (sm pt5 (qT gt0) <|
  y1 pt6 (fNc (qT gt5)) <|
  y1 pt7 (u1 k202 eFaddr rfl (qT gt6)) <|
  y1 pt8 (u1 k5 eLoad rfl (qT gt7)) <|
  sa pt2 (qT gt8) <|
  se) rfl) cT)))
 (rT gt2 r0)⟩
theorem h154 : FnGood Pg 154 g154.1 := g154.2
theorem c154 {d : Option Nat} {ty : TypeId} {pos : String} {af : Array Edge} {g : Option (Nat × Bool)} {x : Operand} {xs : Array Operand} {ats : Array TypeId} : DXOk Pg ⟨d, .call { callee := .value x, args := xs, argTypes := ats }, ty, pos, af, g⟩ (xCallD [(154, g154.1)]) := oG (tb1 h154 tb0)
/- (*wellspring/node.Node).fresh -/
noncomputable def g86 : {X : Xop // FnGood Pg 86 X} := ⟨_, fN' rfl Tryz.func86 (by decide) Tryz.ntmps86 Tryz.results86 rfl
 (cS (cD mo (d1 0 0 rfl pt3 oM (aT gt0 a0) <|
  d1 1 1 rfl pt4 oC (aT gt3 a0) <|
  d1 2 3 rfl pt5 k203 (aT gt4 a0) <|
  d1 3 7 rfl pt6 k164 (aT gt5 a0) <|
  d1 5 0 rfl pt8 oM (aT gt0 a0) <|
  d1 6 32 rfl pt9 oC (aT gt8 a0) <|
  d1 7 96 rfl pt10 k204 (aT gt9 a0) <|
  d1 8 224 rfl pt11 k186 (aT gt10 a0) <|
  d1 11 0 rfl pt2 k205 a0 <|
  d1 4 15 rfl pt7 c153 (aU rfl (aT gt6 a0)) <|
  d1 9 511 rfl pt12 c154 (aU rfl (aT gt11 a0)) <|
  d1 10 1023 rfl pt13 k206 (aT gt7 (aT gt12 a0)) <|
  d0 12 4095 rfl k207 (aT gt2 (aT gt13 a0)) <|
  de) rfl rfl rfl) (cS (cD mo (d1 0 0 rfl pt14 k208 (aT gt2 a0) <|
  d1 1 0 rfl pt15 oM (aT gt0 a0) <|
  d1 2 2 rfl pt16 oC (aT gt15 a0) <|
  d1 3 6 rfl pt17 k209 (aT gt16 a0) <|
  d1 4 14 rfl pt18 k208 (aT gt17 a0) <|
  d1 5 31 rfl pt19 k210 (aT gt14 (aT gt18 a0)) <|
  de) rfl rfl rfl) (cC gt19 (cS (cR (sm pt20 (qT gt0) <|
  y1 pt21 (fNc (qT gt20)) <|
  y1 pt22 (u1 k211 eFaddr rfl (qT gt21)) <|
  y1 pt23 (u1 k212 eLoad rfl (qT gt22)) <|
  s0 (u0 k213 (bb (qT gt23) b0)) <|
  se) rfl) (cR (sm pt24 (qT gt0) <|
  y1 pt25 (u1 k208 eLoadN rfl (qT gt2)) <|
  y1 pt26 (fNc (qT gt24)) <|
  y1 pt27 (u1 k209 eFaddr rfl (qT gt26)) <|
  y0 (u2 k207 eStore rfl (qT gt27) (qT gt25)) <|
  se) rfl)) cK)))
 r0⟩
theorem h86 : FnGood Pg 86 g86.1 := g86.2
theorem c86 {d : Option Nat} {ty : TypeId} {pos : String} {af : Array Edge} {g : Option (Nat × Bool)} {x : Operand} {xs : Array Operand} {ats : Array TypeId} : DXOk Pg ⟨d, .call { callee := .value x, args := xs, argTypes := ats }, ty, pos, af, g⟩ (xCallD [(86, g86.1)]) := oG (tb1 h86 tb0)
/- (wellspring/tmpl.Template).Check -/
noncomputable def g125 : {X : Xop // FnGood Pg 125 X} := ⟨_, fN' rfl Tryz.func125 (by decide) Tryz.ntmps125 Tryz.results125 rfl
 (cS (cR (s1 pt1 (u0 oX (bb (qT gt0) b0)) <|
  sa pt2 qB <|
  se) rfl) (cS (cS (cR (y1 pt7 (u1 k214 eFaddr rfl (qT gt1)) <|
  y1 pt8 (u1 k215 eLoad rfl (qT gt7)) <|
  y1 pt9 (u1 k216 eLenSlc rfl (qT gt8)) <|
  sm pt10 (qI (.ofNat 0)) <|
  se) rfl) (cB (cO (cS (cR (y2 pt11 (iLss (qT gt10) (qT gt9)) <|
  se) rfl) (cS (cC gt11 cK cE) (cS (cB (cS (cR (y2 pt12 (u2 k217 eIaddr rfl (qT gt8) (qT gt10)) <|
  y1 pt13 (u1 k218 eLoadN rfl (qT gt12)) <|
  s1 pt4 (u0 k219 b0) <|
  y0 (u2 k220 eStore rfl (qT gt4) (qT gt13)) <|
  se) rfl) (cS (cS (cR (y1 pt14 (u1 k221 eFaddr rfl (qT gt4)) <|
  y1 pt15 (u1 k222 eLoad rfl (qT gt14)) <|
  y1 pt16 (u1 k223 eLenSlc rfl (qT gt15)) <|
  y2 pt17 (iEql (qT gt16) (qI (.ofNat 0))) <|
  se) rfl) (cC gt17 cX cK)) (cS (cR (y1 pt18 (u1 k221 eFaddr rfl (qT gt4)) <|
  y1 pt19 (u1 k222 eLoad rfl (qT gt18)) <|
  y1 pt20 (u1 k223 eLenSlc rfl (qT gt19)) <|
  sm pt21 (qI (.ofNat 0)) <|
  se) rfl) (cB (cO (cS (cR (y2 pt22 (iLss (qT gt21) (qT gt20)) <|
  se) rfl) (cS (cC gt22 cK cE) (cS (cB (cS (cR (y2 pt23 (u2 k224 eIaddr rfl (qT gt19) (qT gt21)) <|
  y1 pt24 (u1 k225 eLoadN rfl (qT gt23)) <|
  s1 pt6 (u0 k226 b0) <|
  y0 (u2 k227 eStore rfl (qT gt6) (qT gt24)) <|
  se) rfl) (cS (cR (y1 pt25 (u1 k228 eFaddr rfl (qT gt6)) <|
  y1 pt26 (u1 k5 eLoad rfl (qT gt25)) <|
  y2 pt27 (iLss (qT gt26) (qI (.ofNat 0))) <|
  sm pt28 (qT gt27) <|
  g1 gt28 pt29 (u1 k229 eFaddr rfl (qT gt6)) rfl <|
  g1 gt28 pt30 (u1 k5 eLoad rfl (qT gt29)) rfl <|
  g1 gt28 pt31 (u1 k228 eFaddr rfl (qT gt6)) rfl <|
  g1 gt28 pt32 (u1 k5 eLoad rfl (qT gt31)) rfl <|
  g1 gt28 pt33 (iLss (qT gt30) (qT gt32)) rfl <|
  s1 pt34 (uP (qT gt28) qB (qT gt33)) <|
  sm pt35 (qT gt34) <|
  g1 gt35 pt36 (u1 k230 eFaddr rfl (qT gt6)) rfl <|
  g1 gt35 pt37 (u1 k5 eLoad rfl (qT gt36)) rfl <|
  g1 gt35 pt38 (u1 k231 eFaddr rfl (qT gt1)) rfl <|
  g1 gt35 pt39 (u1 k3 eLoad rfl (qT gt38)) rfl <|
  g1 gt35 pt40 (u1 k0 eLenStr rfl (qT gt39)) rfl <|
  g1 gt35 pt41 (iGtr (qT gt37) (qT gt40)) rfl <|
  s1 pt42 (uP (qT gt35) qB (qT gt41)) <|
  sm pt43 (qT gt42) <|
  g1 gt43 pt44 (u1 k230 eFaddr rfl (qT gt6)) rfl <|
  g1 gt43 pt45 (u1 k5 eLoad rfl (qT gt44)) rfl <|
  g1 gt43 pt46 (u1 k229 eFaddr rfl (qT gt6)) rfl <|
  g1 gt43 pt47 (u1 k5 eLoad rfl (qT gt46)) rfl <|
  g1 gt43 pt48 (iLss (qT gt45) (qT gt47)) rfl <|
  s1 pt49 (uP (qT gt43) qB (qT gt48)) <|
  sm pt50 (qT gt49) <|
  g1 gt50 pt51 (u1 k230 eFaddr rfl (qT gt6)) rfl <|
  g1 gt50 pt52 (u1 k5 eLoad rfl (qT gt51)) rfl <|
  g1 gt50 pt53 (u1 k229 eFaddr rfl (qT gt6)) rfl <|
  g1 gt50 pt54 (u1 k5 eLoad rfl (qT gt53)) rfl <|
  g1 gt50 pt55 (iSub (qT gt52) (qT gt54)) rfl <|
  g1 gt50 pt56 (iLss (qT gt55) (qI (.ofNat 4))) rfl <|
  s1 pt57 (uP (qT gt50) qB (qT gt56)) <|
  se) rfl) (cC gt57 cX cK)))) (cR (y2 pt58 (iAdd (qT gt21) (qI (.ofNat 1))) <|
  sm pt21 (qT gt58) <|
  se) rfl)))))))))) (cR (y2 pt59 (iAdd (qT gt10) (qI (.ofNat 1))) <|
  sm pt10 (qT gt59) <|
  se) rfl))))))) (cS (cR (sa pt2 qB <|
  se) rfl) cT)))
 (rT gt2 r0)⟩
theorem h125 : FnGood Pg 125 g125.1 := g125.2
theorem c125 {d : Option Nat} {ty : TypeId} {pos : String} {af : Array Edge} {g : Option (Nat × Bool)} {x : Operand} {xs : Array Operand} {ats : Array TypeId} : DXOk Pg ⟨d, .call { callee := .value x, args := xs, argTypes := ats }, ty, pos, af, g⟩ (xCallD [(125, g125.1)]) := oG (tb1 h125 tb0)
/- wellspring/tmpl.in -/
noncomputable def g54 : {X : Xop // FnGood Pg 54 X} := ⟨_, fN' rfl Tryz.func54 (by decide) Tryz.ntmps54 Tryz.results54 rfl
 (cS (cR (sa pt4 qB <|
  se) rfl) (cS (cR (sm pt5 (qT gt0) <|
  y2 pt6 (iGeq (qT gt5) (qI (.ofNat 0))) <|
  sm pt7 (qT gt6) <|
  g1 gt7 pt8 (fMv (qT gt0)) rfl <|
  g1 gt7 pt9 (fMv (qT gt1)) rfl <|
  g1 gt7 pt10 (iLeq (qT gt8) (qT gt9)) rfl <|
  s1 pt11 (uP (qT gt7) (qT gt10) qB) <|
  sa pt4 (qT gt11) <|
  se) rfl) cT))
 (rT gt4 r0)⟩
theorem h54 : FnGood Pg 54 g54.1 := g54.2
theorem c54 {d : Option Nat} {ty : TypeId} {pos : String} {af : Array Edge} {g : Option (Nat × Bool)} {x : Operand} {xs : Array Operand} {ats : Array TypeId} : DXOk Pg ⟨d, .call { callee := .value x, args := xs, argTypes := ats }, ty, pos, af, g⟩ (xCallD [(54, g54.1)]) := oG (tb1 h54 tb0)
/- (wellspring/tmpl.Template).Live -/
noncomputable def g126 : {X : Xop // FnGood Pg 126 X} := ⟨_, fN' rfl Tryz.func126 (by decide) Tryz.ntmps126 Tryz.results126 rfl
 (cS (cR (s1 pt2 (u0 oX (bb (qT gt0) b0)) <|
  sa pt4 qB <|
  se) rfl) (cS (cS (cR (y1 pt7 (u1 k214 eFaddr rfl (qT gt2)) <|
  y1 pt8 (u1 k215 eLoad rfl (qT gt7)) <|
  y1 pt9 (u1 k216 eLenSlc rfl (qT gt8)) <|
  sm pt10 (qI (.ofNat 0)) <|
  se) rfl) (cB (cO (cS (cR (y2 pt11 (iLss (qT gt10) (qT gt9)) <|
  se) rfl) (cS (cC gt11 cK cE) (cS (cB (cS (cR (y2 pt12 (u2 k217 eIaddr rfl (qT gt8) (qT gt10)) <|
  y1 pt13 (u1 k218 eLoadN rfl (qT gt12)) <|
  s1 pt6 (u0 k219 b0) <|
  y0 (u2 k220 eStore rfl (qT gt6) (qT gt13)) <|
  se) rfl) (cS (cR (sm pt14 (qT gt1) <|
  y1 pt15 (u1 k232 eFaddr rfl (qT gt6)) <|
  y1 pt16 (u1 k5 eLoad rfl (qT gt15)) <|
  s1 pt17 (uC rfl h113 (bb (qT gt14) (bb (qT gt16) b0))) <|
  y1 pt18 (fNo (qT gt17)) <|
  se) rfl) (cC gt18 cX cK)))) (cR (y2 pt19 (iAdd (qT gt10) (qI (.ofNat 1))) <|
  sm pt10 (qT gt19) <|
  se) rfl))))))) (cS (cR (sm pt20 (qT gt1) <|
  s1 pt21 (uC rfl h54 (bb (qT gt20) (bb (qI (.ofNat 1099511627776)) b0))) <|
  sa pt4 (qT gt21) <|
  se) rfl) cT)))
 (rT gt4 r0)⟩
theorem h126 : FnGood Pg 126 g126.1 := g126.2
theorem c126 {d : Option Nat} {ty : TypeId} {pos : String} {af : Array Edge} {g : Option (Nat × Bool)} {x : Operand} {xs : Array Operand} {ats : Array TypeId} : DXOk Pg ⟨d, .call { callee := .value x, args := xs, argTypes := ats }, ty, pos, af, g⟩ (xCallD [(126, g126.1)]) := oG (tb1 h126 tb0)
/- wellspring/patch.in -/
noncomputable def g127 : {X : Xop // FnGood Pg 127 X} := ⟨_, fN' rfl Tryz.func127 (by decide) Tryz.ntmps127 Tryz.results127 rfl
 (cS (cR (sa pt4 qB <|
  se) rfl) (cS (cR (sm pt5 (qT gt0) <|
  y2 pt6 (iGeq (qT gt5) (qI (.ofNat 0))) <|
  sm pt7 (qT gt6) <|
  g1 gt7 pt8 (fMv (qT gt0)) rfl <|
  g1 gt7 pt9 (fMv (qT gt1)) rfl <|
  g1 gt7 pt10 (iLeq (qT gt8) (qT gt9)) rfl <|
  s1 pt11 (uP (qT gt7) (qT gt10) qB) <|
  sa pt4 (qT gt11) <|
  se) rfl) cT))
 (rT gt4 r0)⟩
theorem h127 : FnGood Pg 127 g127.1 := g127.2
theorem c127 {d : Option Nat} {ty : TypeId} {pos : String} {af : Array Edge} {g : Option (Nat × Bool)} {x : Operand} {xs : Array Operand} {ats : Array TypeId} : DXOk Pg ⟨d, .call { callee := .value x, args := xs, argTypes := ats }, ty, pos, af, g⟩ (xCallD [(127, g127.1)]) := oG (tb1 h127 tb0)
/- (wellspring/patch.copier).asked -/
noncomputable def g128 : {X : Xop // FnGood Pg 128 X} := ⟨_, fN' rfl Tryz.func128 (by decide) Tryz.ntmps128 Tryz.results128 rfl
 (cS (cR (s1 pt1 (u0 oX (bb (qT gt0) b0)) <|
  sa pt2 qB <|
  se) rfl) (cS (cR (y1 pt5 (u1 k233 eFaddr rfl (qT gt1)) <|
  y1 pt6 (u1 k146 eFaddr rfl (qT gt5)) <|
  y1 pt7 (u1 k45 eLoadN rfl (qT gt6)) <|
  s1 pt3 (u0 k46 b0) <|
  y0 (u2 k47 eStore rfl (qT gt3) (qT gt7)) <|
  se) rfl) (cS (cR (y1 pt8 (u1 k48 eFaddr rfl (qT gt3)) <|
  y1 pt9 (u1 k3 eLoad rfl (qT gt8)) <|
  s1 pt10 (uC rfl h36 (bb (qT gt9) b0)) <|
  sa pt4 (qT gt10) <|
  se) rfl) (cS (cR (sm pt11 (qT gt4) <|
  s1 pt12 (u0 oS (bb (qT gt11) (bb (qV (.one (.str [])) rfl) b0))) <|
  sm pt13 (qT gt12) <|
  g1 gt13 pt14 (fMv (qT gt4)) rfl <|
  g1 gt13 pt15 (u1 k234 eFaddr rfl (qT gt1)) rfl <|
  g1 gt13 pt16 (u1 k235 eFaddr rfl (qT gt15)) rfl <|
  g1 gt13 pt17 (u1 k48 eFaddr rfl (qT gt16)) rfl <|
  g1 gt13 pt18 (u1 k3 eLoad rfl (qT gt17)) rfl <|
  g1 gt13 pt19 (u0 oS (bb (qT gt14) (bb (qT gt18) b0))) rfl <|
  s1 pt20 (uP (qT gt13) (qT gt19) qB) <|
  sm pt21 (qT gt20) <|
  g1 gt21 pt22 (u1 k49 eFaddr rfl (qT gt3)) rfl <|
  g1 gt21 pt23 (u1 k5 eLoad rfl (qT gt22)) rfl <|
  g1 gt21 pt24 (u1 k234 eFaddr rfl (qT gt1)) rfl <|
  g1 gt21 pt25 (u1 k235 eFaddr rfl (qT gt24)) rfl <|
  g1 gt21 pt26 (u1 k49 eFaddr rfl (qT gt25)) rfl <|
  g1 gt21 pt27 (u1 k5 eLoad rfl (qT gt26)) rfl <|
  g1 gt21 pt28 (iEql (qT gt23) (qT gt27)) rfl <|
  s1 pt29 (uP (qT gt21) (qT gt28) qB) <|
  sm pt30 (qT gt29) <|
  g1 gt30 pt31 (u1 k50 eFaddr rfl (qT gt3)) rfl <|
  g1 gt30 pt32 (u1 k5 eLoad rfl (qT gt31)) rfl <|
  g1 gt30 pt33 (u1 k234 eFaddr rfl (qT gt1)) rfl <|
  g1 gt30 pt34 (u1 k235 eFaddr rfl (qT gt33)) rfl <|
  g1 gt30 pt35 (u1 k50 eFaddr rfl (qT gt34)) rfl <|
  g1 gt30 pt36 (u1 k5 eLoad rfl (qT gt35)) rfl <|
  g1 gt30 pt37 (iEql (qT gt32) (qT gt36)) rfl <|
  s1 pt38 (uP (qT gt30) (qT gt37) qB) <|
  sm pt39 (qT gt38) <|
  g1 gt39 pt40 (u1 k49 eFaddr rfl (qT gt3)) rfl <|
  g1 gt39 pt41 (u1 k5 eLoad rfl (qT gt40)) rfl <|
  g1 gt39 pt42 (uC rfl h127 (bb (qT gt41) (bb (qI (.ofNat 65535)) b0))) rfl <|
  s1 pt43 (uP (qT gt39) (qT gt42) qB) <|
  sm pt44 (qT gt43) <|
  g1 gt44 pt45 (u1 k50 eFaddr rfl (qT gt3)) rfl <|
  g1 gt44 pt46 (u1 k5 eLoad rfl (qT gt45)) rfl <|
  g1 gt44 pt47 (uC rfl h127 (bb (qT gt46) (bb (qI (.ofNat 65535)) b0))) rfl <|
  s1 pt48 (uP (qT gt44) (qT gt47) qB) <|
  sa pt2 (qT gt48) <|
  se) rfl) cT))))
 (rT gt2 r0)⟩
theorem h128 : FnGood Pg 128 g128.1 := g128.2
theorem c128 {d : Option Nat} {ty : TypeId} {pos : String} {af : Array Edge} {g : Option (Nat × Bool)} {x : Operand} {xs : Array Operand} {ats : Array TypeId} : DXOk Pg ⟨d, .call { callee := .value x, args := xs, argTypes := ats }, ty, pos, af, g⟩ (xCallD [(128, g128.1)]) := oG (tb1 h128 tb0)
/- (wellspring/patch.copier).fits -/
noncomputable def g60 : {X : Xop // FnGood Pg 60 X} := ⟨_, fN' rfl Tryz.func60 (by decide) Tryz.ntmps60 Tryz.results60 rfl
 (cS (cR (s1 pt1 (u0 oX (bb (qT gt0) b0)) <|
  sa pt2 qB <|
  se) rfl) (cS (cS (cR (y1 pt5 (u1 k234 eFaddr rfl (qT gt1)) <|
  y1 pt6 (u1 k214 eFaddr rfl (qT gt5)) <|
  y1 pt7 (u1 k215 eLoad rfl (qT gt6)) <|
  y1 pt8 (u1 k216 eLenSlc rfl (qT gt7)) <|
  sm pt9 (qI (.ofNat 0)) <|
  se) rfl) (cB (cO (cS (cR (y2 pt10 (iLss (qT gt9) (qT gt8)) <|
  se) rfl) (cS (cC gt10 cK cE) (cS (cB (cS (cR (sm pt11 (qT gt9) <|
  y2 pt12 (u2 k217 eIaddr rfl (qT gt7) (qT gt9)) <|
  y1 pt13 (u1 k218 eLoadN rfl (qT gt12)) <|
  s1 pt4 (u0 k219 b0) <|
  sa pt3 (qT gt11) <|
  y0 (u2 k220 eStore rfl (qT gt4) (qT gt13)) <|
  se) rfl) (cS (cR (y1 pt14 (u1 k236 eFaddr rfl (qT gt4)) <|
  y1 pt15 (u1 k108 eLoad rfl (qT gt14)) <|
  sm pt16 (qT gt15) <|
  g1 gt16 pt17 (fMv (qT gt3)) rfl <|
  g1 gt16 pt18 (u1 k234 eFaddr rfl (qT gt1)) rfl <|
  g1 gt16 pt19 (u1 k214 eFaddr rfl (qT gt18)) rfl <|
  g1 gt16 pt20 (u1 k215 eLoad rfl (qT gt19)) rfl <|
  g1 gt16 pt21 (u1 k216 eLenSlc rfl (qT gt20)) rfl <|
  g1 gt16 pt22 (iSub (qT gt21) (qI (.ofNat 1))) rfl <|
  g1 gt16 pt23 (iNeq (qT gt17) (qT gt22)) rfl <|
  s1 pt24 (uP (qT gt16) (qT gt23) qB) <|
  se) rfl) (cC gt24 cX cK)))) (cR (y2 pt25 (iAdd (qT gt9) (qI (.ofNat 1))) <|
  sm pt9 (qT gt25) <|
  se) rfl))))))) (cS (cR (y1 pt26 (u1 k234 eFaddr rfl (qT gt1)) <|
  y1 pt27 (u1 k237 eLoadN rfl (qT gt26)) <|
  s1 pt28 (uC rfl h125 (bb (qT gt27) b0)) <|
  sm pt29 (qT gt28) <|
  g1 gt29 pt30 (u1 k234 eFaddr rfl (qT gt1)) rfl <|
  g1 gt29 pt31 (u1 k237 eLoadN rfl (qT gt30)) rfl <|
  g1 gt29 pt32 (u1 k238 eFaddr rfl (qT gt1)) rfl <|
  g1 gt29 pt33 (u1 k5 eLoad rfl (qT gt32)) rfl <|
  g1 gt29 pt34 (uC rfl h126 (bb (qT gt31) (bb (qT gt33) b0))) rfl <|
  s1 pt35 (uP (qT gt29) (qT gt34) qB) <|
  sm pt36 (qT gt35) <|
  g1 gt36 pt37 (u1 k234 eFaddr rfl (qT gt1)) rfl <|
  g1 gt36 pt38 (u1 k239 eFaddr rfl (qT gt37)) rfl <|
  g1 gt36 pt39 (u1 k5 eLoad rfl (qT gt38)) rfl <|
  g1 gt36 pt40 (uC rfl h127 (bb (qT gt39) (bb (qI (.ofNat 15)) b0))) rfl <|
  s1 pt41 (uP (qT gt36) (qT gt40) qB) <|
  sm pt42 (qT gt41) <|
  g1 gt42 pt43 (u1 k233 eFaddr rfl (qT gt1)) rfl <|
  g1 gt42 pt44 (u1 k240 eFaddr rfl (qT gt43)) rfl <|
  g1 gt42 pt45 (u1 k5 eLoad rfl (qT gt44)) rfl <|
  g1 gt42 pt46 (uC rfl h127 (bb (qT gt45) (bb (qI (.ofNat 65535)) b0))) rfl <|
  s1 pt47 (uP (qT gt42) (qT gt46) qB) <|
  sm pt48 (qT gt47) <|
  g1 gt48 pt49 (u1 k241 eLoadN rfl (qT gt1)) rfl <|
  g1 gt48 pt50 (uC rfl h128 (bb (qT gt49) b0)) rfl <|
  s1 pt51 (uP (qT gt48) (qT gt50) qB) <|
  sa pt2 (qT gt51) <|
  se) rfl) cT)))
 (rT gt2 r0)⟩
theorem h60 : FnGood Pg 60 g60.1 := g60.2
theorem c60 {d : Option Nat} {ty : TypeId} {pos : String} {af : Array Edge} {g : Option (Nat × Bool)} {x : Operand} {xs : Array Operand} {ats : Array TypeId} : DXOk Pg ⟨d, .call { callee := .value x, args := xs, argTypes := ats }, ty, pos, af, g⟩ (xCallD [(60, g60.1)]) := oG (tb1 h60 tb0)
/- (wellspring/edns.Opt).Limit -/
noncomputable def g22 : {X : Xop // FnGood Pg 22 X} := ⟨_, fN' rfl Tryz.func22 (by decide) Tryz.ntmps22 Tryz.results22 rfl
 (cS (cR (s1 pt1 (u0 oX (bb (qT gt0) b0)) <|
  sa pt2 (qI (.ofNat 0)) <|
  se) rfl) (cS (cS (cR (y1 pt3 (u1 k242 eFaddr rfl (qT gt1)) <|
  y1 pt4 (u1 k108 eLoad rfl (qT gt3)) <|
  y1 pt5 (fNo (qT gt4)) <|
  se) rfl) (cC gt5 (cS (cR (sa pt2 (qI (.ofNat 512)) <|
  se) rfl) cT) cK)) cX))
 (rT gt2 r0)⟩
theorem h22 : FnGood Pg 22 g22.1 := g22.2
theorem c22 {d : Option Nat} {ty : TypeId} {pos : String} {af : Array Edge} {g : Option (Nat × Bool)} {x : Operand} {xs : Array Operand} {ats : Array TypeId} : DXOk Pg ⟨d, .call { callee := .value x, args := xs, argTypes := ats }, ty, pos, af, g⟩ (xCallD [(22, g22.1)]) := oG (tb1 h22 tb0)
/- wellspring/patch.bytes -/
noncomputable def g193 : {X : Xop // FnGood Pg 193 X} := ⟨_, fN' rfl Tryz.func193 (by decide) Tryz.ntmps193 Tryz.results193 rfl
 (cS (cR (s1 pt1 (u0 oX (bb (qT gt0) b0)) <|
  sa pt2 (qI (.ofNat 0)) <|
  se) rfl) (cS (cR (sa pt3 (qI (.ofNat 0)) <|
  se) rfl) (cS (cS (cR (y1 pt6 (u1 k221 eFaddr rfl (qT gt1)) <|
  y1 pt7 (u1 k222 eLoad rfl (qT gt6)) <|
  y1 pt8 (u1 k223 eLenSlc rfl (qT gt7)) <|
  sm pt9 (qI (.ofNat 0)) <|
  se) rfl) (cB (cO (cS (cR (y2 pt10 (iLss (qT gt9) (qT gt8)) <|
  se) rfl) (cS (cC gt10 cK cE) (cS (cB (cS (cR (y2 pt11 (u2 k224 eIaddr rfl (qT gt7) (qT gt9)) <|
  y1 pt12 (u1 k225 eLoadN rfl (qT gt11)) <|
  s1 pt5 (u0 k226 b0) <|
  y0 (u2 k227 eStore rfl (qT gt5) (qT gt12)) <|
  se) rfl) (cR (sm pt13 (qT gt3) <|
  y1 pt14 (u1 k230 eFaddr rfl (qT gt5)) <|
  y1 pt15 (u1 k5 eLoad rfl (qT gt14)) <|
  y1 pt16 (u1 k228 eFaddr rfl (qT gt5)) <|
  y1 pt17 (u1 k5 eLoad rfl (qT gt16)) <|
  y2 pt18 (iSub (qT gt15) (qT gt17)) <|
  y2 pt19 (iAdd (qT gt13) (qT gt18)) <|
  sa pt3 (qT gt19) <|
  se) rfl))) (cR (y2 pt20 (iAdd (qT gt9) (qI (.ofNat 1))) <|
  sm pt9 (qT gt20) <|
  se) rfl))))))) (cS (cR (sm pt21 (qT gt3) <|
  sa pt2 (qT gt21) <|
  se) rfl) cT))))
 (rT gt2 r0)⟩
theorem h193 : FnGood Pg 193 g193.1 := g193.2
theorem c193 {d : Option Nat} {ty : TypeId} {pos : String} {af : Array Edge} {g : Option (Nat × Bool)} {x : Operand} {xs : Array Operand} {ats : Array TypeId} : DXOk Pg ⟨d, .call { callee := .value x, args := xs, argTypes := ats }, ty, pos, af, g⟩ (xCallD [(193, g193.1)]) := oG (tb1 h193 tb0)
/- (wellspring/patch.copier).room -/
noncomputable def g129 : {X : Xop // FnGood Pg 129 X} := ⟨_, fN' rfl Tryz.func129 (by decide) Tryz.ntmps129 Tryz.results129 rfl
 (cS (cR (s1 pt1 (u0 oX (bb (qT gt0) b0)) <|
  sa pt2 (qI (.ofNat 0)) <|
  sa pt3 (qI (.ofNat 0)) <|
  se) rfl) (cS (cR (y1 pt9 (u1 k233 eFaddr rfl (qT gt1)) <|
  y1 pt10 (u1 k146 eFaddr rfl (qT gt9)) <|
  y1 pt11 (u1 k48 eFaddr rfl (qT gt10)) <|
  y1 pt12 (u1 k3 eLoad rfl (qT gt11)) <|
  y1 pt13 (u1 k0 eLenStr rfl (qT gt12)) <|
  y2 pt14 (iAdd (qI (.ofNat 12)) (qT gt13)) <|
  y2 pt15 (iAdd (qT gt14) (qI (.ofNat 4))) <|
  sa pt4 (qT gt15) <|
  se) rfl) (cS (cS (cR (y1 pt16 (u1 k233 eFaddr rfl (qT gt1)) <|
  y1 pt17 (u1 k147 eFaddr rfl (qT gt16)) <|
  y1 pt18 (u1 k242 eFaddr rfl (qT gt17)) <|
  y1 pt19 (u1 k108 eLoad rfl (qT gt18)) <|
  se) rfl) (cC gt19 cX cK)) (cS (cR (y1 pt22 (u1 k233 eFaddr rfl (qT gt1)) <|
  y1 pt23 (u1 k147 eFaddr rfl (qT gt22)) <|
  y1 pt24 (u1 k142 eLoadN rfl (qT gt23)) <|
  s1 pt25 (uC rfl h22 (bb (qT gt24) b0)) <|
  sa pt5 (qT gt25) <|
  se) rfl) (cS (cS (cR (y1 pt26 (u1 k234 eFaddr rfl (qT gt1)) <|
  y1 pt27 (u1 k214 eFaddr rfl (qT gt26)) <|
  y1 pt28 (u1 k215 eLoad rfl (qT gt27)) <|
  y1 pt29 (u1 k216 eLenSlc rfl (qT gt28)) <|
  sm pt30 (qI (.ofNat 0)) <|
  se) rfl) (cB (cO (cS (cR (y2 pt31 (iLss (qT gt30) (qT gt29)) <|
  se) rfl) (cS (cC gt31 cK cE) (cS (cB (cS (cR (sm pt32 (qT gt30) <|
  y2 pt33 (u2 k217 eIaddr rfl (qT gt28) (qT gt30)) <|
  y1 pt34 (u1 k218 eLoadN rfl (qT gt33)) <|
  s1 pt7 (u0 k219 b0) <|
  sa pt6 (qT gt32) <|
  y0 (u2 k220 eStore rfl (qT gt7) (qT gt34)) <|
  se) rfl) (cS (cR (y1 pt35 (u1 k218 eLoadN rfl (qT gt7)) <|
  s1 pt36 (uC rfl h193 (bb (qT gt35) b0)) <|
  sa pt8 (qT gt36) <|
  se) rfl) (cS (cS (cR (sm pt37 (qT gt4) <|
  sm pt38 (qT gt8) <|
  y2 pt39 (iAdd (qT gt37) (qT gt38)) <|
  sm pt40 (qT gt5) <|
  y2 pt41 (iGtr (qT gt39) (qT gt40)) <|
  se) rfl) (cC gt41 cX cK)) (cR (sm pt44 (qT gt4) <|
  sm pt45 (qT gt8) <|
  y2 pt46 (iAdd (qT gt44) (qT gt45)) <|
  sa pt4 (qT gt46) <|
  se) rfl))))) (cR (y2 pt47 (iAdd (qT gt30) (qI (.ofNat 1))) <|
  sm pt30 (qT gt47) <|
  se) rfl))))))) (cS (cR (y1 pt48 (u1 k234 eFaddr rfl (qT gt1)) <|
  y1 pt49 (u1 k214 eFaddr rfl (qT gt48)) <|
  y1 pt50 (u1 k215 eLoad rfl (qT gt49)) <|
  y1 pt51 (u1 k216 eLenSlc rfl (qT gt50)) <|
  sm pt52 (qT gt4) <|
  sa pt2 (qT gt51) <|
  sa pt3 (qT gt52) <|
  se) rfl) cT))))))
 (rT gt2 (rT gt3 r0))⟩
theorem h129 : FnGood Pg 129 g129.1 := g129.2
theorem c129 {d : Option Nat} {ty : TypeId} {pos : String} {af : Array Edge} {g : Option (Nat × Bool)} {x : Operand} {xs : Array Operand} {ats : Array TypeId} : DXOk Pg ⟨d, .call { callee := .value x, args := xs, argTypes := ats }, ty, pos, af, g⟩ (xCallD [(129, g129.1)]) := oG (tb1 h129 tb0)
/- (wellspring/flag.Field).With -/
noncomputable def g67 : {X : Xop // FnGood Pg 67 X} := ⟨_, fN' rfl Tryz.func67 (by decide) Tryz.ntmps67 Tryz.results67 rfl
 (cS (cR (sa pt6 (qI (.ofNat 0)) <|
  sa pt7 qB <|
  se) rfl) (cS (cS (cR (sm pt9 (qT gt0) <|
  sm pt10 (qT gt1) <|
  s1 pt11 (uC rfl h138 (bb (qT gt9) (bb (qT gt10) b0))) <|
  y1 pt12 (fNo (qT gt11)) <|
  se) rfl) (cC gt12 cX cK)) (cS (cR (s1 pt13 (uC rfl h139 b0) <|
  sm pt14 (qT gt0) <|
  s1 pt15 (u0 k78 (bb (qT gt13) (bb (qT gt14) b0))) <|
  s1 pt8 (u0 k79 b0) <|
  y0 (u2 k80 eStore rfl (qT gt8) (qT gt15)) <|
  se) rfl) (cS (cS (cR (sm pt16 (qT gt2) <|
  y2 pt17 (iLss (qT gt16) (qI (.ofNat 0))) <|
  sm pt18 (qT gt17) <|
  g1 gt18 pt19 (fMv (qT gt2)) rfl <|
  g1 gt18 pt20 (u1 k82 eLoadN rfl (qT gt8)) rfl <|
  g1 gt18 pt21 (uC rfl h140 (bb (qT gt20) b0)) rfl <|
  g1 gt18 pt22 (iGtr (qT gt19) (qT gt21)) rfl <|
  s1 pt23 (uP (qT gt18) qB (qT gt22)) <|
  se) rfl) (cC gt23 cX cK)) (cS (cD mo (d1 0 0 rfl pt24 oM (aT gt1 a0) <|
  d1 1 0 rfl pt25 k82 (aT gt8 a0) <|
  d1 3 0 rfl pt27 k81 (aT gt8 a0) <|
  d1 4 8 rfl pt28 k5 (aT gt27 a0) <|
  d1 7 0 rfl pt31 oM (aT gt2 a0) <|
  d1 8 0 rfl pt32 k81 (aT gt8 a0) <|
  d1 9 256 rfl pt33 k5 (aT gt32 a0) <|
  d1 10 896 rfl pt34 (oH (.inl rfl)) (aT gt31 (aT gt33 a0)) <|
  d1 2 2 rfl pt26 c140 (aU rfl (aT gt25 a0)) <|
  d1 5 30 rfl pt29 (oH (.inl rfl)) (aT gt26 (aT gt28 a0)) <|
  d1 6 63 rfl pt30 oI (aT gt24 (aT gt29 a0)) <|
  d1 11 2047 rfl pt35 oI (aT gt30 (aT gt34 a0)) <|
  d1 12 4095 rfl pt6 oA (aT gt35 a0) <|
  d1 13 8191 rfl pt7 oA (aV (.one (.bool true)) rfl a0) <|
  de) rfl rfl rfl) cT)))))
 (rT gt6 (rT gt7 r0))⟩
theorem h67 : FnGood Pg 67 g67.1 := g67.2
theorem c67 {d : Option Nat} {ty : TypeId} {pos : String} {af : Array Edge} {g : Option (Nat × Bool)} {x : Operand} {xs : Array Operand} {ats : Array TypeId} : DXOk Pg ⟨d, .call { callee := .value x, args := xs, argTypes := ats }, ty, pos, af, g⟩ (xCallD [(67, g67.1)]) := oG (tb1 h67 tb0)
/- (wellspring/flag.Field).lay -/
noncomputable def g194 : {X : Xop // FnGood Pg 194 X} := ⟨_, fN' rfl Tryz.func194 (by decide) Tryz.ntmps194 Tryz.results194 rfl
 (cS (cR (sa pt6 (qI (.ofNat 0)) <|
  se) rfl) (cS (cR (sm pt8 (qT gt0) <|
  sm pt9 (qT gt1) <|
  sm pt10 (qT gt2) <|
  s1 pt11 (uC rfl h67 (bb (qT gt8) (bb (qT gt9) (bb (qT gt10) b0)))) <|
  sm pt7 (qT gt11) <|
  y1 pt12 (fEx (qT gt7)) <|
  y1 pt13 (fEx (qT gt7)) <|
  sa pt1 (qT gt12) <|
  se) rfl) (cS (cR (sm pt14 (qT gt1) <|
  sa pt6 (qT gt14) <|
  se) rfl) cT)))
 (rT gt6 r0)⟩
theorem h194 : FnGood Pg 194 g194.1 := g194.2
theorem c194 {d : Option Nat} {ty : TypeId} {pos : String} {af : Array Edge} {g : Option (Nat × Bool)} {x : Operand} {xs : Array Operand} {ats : Array TypeId} : DXOk Pg ⟨d, .call { callee := .value x, args := xs, argTypes := ats }, ty, pos, af, g⟩ (xCallD [(194, g194.1)]) := oG (tb1 h194 tb0)
/- wellspring/flag.Answer -/
noncomputable def g130 : {X : Xop // FnGood Pg 130 X} := ⟨_, fN' rfl Tryz.func130 (by decide) Tryz.ntmps130 Tryz.results130 rfl
 (cS (cR (sa pt4 (qI (.ofNat 0)) <|
  se) rfl) (cS (cR (s1 pt9 (uC rfl h194 (bb (qI (.ofNat 5)) (bb (qI (.ofNat 0)) (bb (qI (.ofNat 1)) b0)))) <|
  s1 pt10 (uC rfl h194 (bb (qI (.ofNat 0)) (bb (qT gt9) (bb (qI (.ofNat 1)) b0)))) <|
  sm pt11 (qT gt1) <|
  s1 pt12 (u0 bMax (bb (qT gt11) (bb (qI (.ofNat 0)) b0))) <|
  s1 pt13 (u0 oI (bb (qT gt12) (bb (qI (.ofNat 15)) b0))) <|
  s1 pt14 (uC rfl h194 (bb (qI (.ofNat 8)) (bb (qT gt10) (bb (qT gt13) b0)))) <|
  sa pt5 (qT gt14) <|
  se) rfl) (cS (cR (sa pt6 (qU rfl) <|
  se) rfl) (cS (cS (cR (s1 pt15 (u0 k243 (bb (qI (.ofNat 1)) (bb (qI (.ofNat 4)) (bb (qI (.ofNat 7)) b0)))) <|
  y1 pt16 (u1 k244 eLenSlc rfl (qT gt15)) <|
  sm pt17 (qI (.ofNat 0)) <|
  se) rfl) (cB (cO (cS (cR (y2 pt18 (iLss (qT gt17) (qT gt16)) <|
  se) rfl) (cS (cC gt18 cK cE) (cS (cB (cS (cR (y2 pt19 (u2 k245 eIaddr rfl (qT gt15) (qT gt17)) <|
  y1 pt20 (u1 k246 eLoad rfl (qT gt19)) <|
  sa pt8 (qT gt20) <|
  se) rfl) (cR (sm pt21 (qT gt8) <|
  sm pt22 (qT gt5) <|
  sm pt23 (qT gt6) <|
  sm pt24 (qT gt8) <|
  sm pt25 (qT gt0) <|
  s1 pt26 (u0 c81 (bb (qT gt23) (bb (qT gt24) (bb (qT gt25) b0)))) <|
  s1 pt27 (uC rfl h194 (bb (qT gt21) (bb (qT gt22) (bb (qT gt26) b0)))) <|
  sa pt5 (qT gt27) <|
  se) rfl))) (cR (y2 pt28 (iAdd (qT gt17) (qI (.ofNat 1))) <|
  sm pt17 (qT gt28) <|
  se) rfl))))))) (cS (cR (sm pt29 (qT gt5) <|
  sa pt4 (qT gt29) <|
  se) rfl) cT)))))
 (rT gt4 r0)⟩
theorem h130 : FnGood Pg 130 g130.1 := g130.2
theorem c130 {d : Option Nat} {ty : TypeId} {pos : String} {af : Array Edge} {g : Option (Nat × Bool)} {x : Operand} {xs : Array Operand} {ats : Array TypeId} : DXOk Pg ⟨d, .call { callee := .value x, args := xs, argTypes := ats }, ty, pos, af, g⟩ (xCallD [(130, g130.1)]) := oG (tb1 h130 tb0)
/- wellspring/patch.counts -/
noncomputable def g131 : {X : Xop // FnGood Pg 131 X} := ⟨_, fN' rfl Tryz.func131 (by decide) Tryz.ntmps131 Tryz.results131 rfl
 (cS (cR (sa pt2 (qI (.ofNat 0)) <|
  sa pt3 (qI (.ofNat 0)) <|
  se) rfl) (cS (cR (sa pt4 (qI (.ofNat 0)) <|
  sa pt5 (qI (.ofNat 0)) <|
  se) rfl) (cS (cS (cR (sm pt8 (qT gt0) <|
  y1 pt9 (u1 k216 eLenSlc rfl (qT gt8)) <|
  sm pt10 (qI (.ofNat 0)) <|
  se) rfl) (cB (cO (cS (cR (y2 pt11 (iLss (qT gt10) (qT gt9)) <|
  se) rfl) (cS (cC gt11 cK cE) (cS (cB (cS (cR (y2 pt12 (u2 k217 eIaddr rfl (qT gt8) (qT gt10)) <|
  y1 pt13 (u1 k218 eLoadN rfl (qT gt12)) <|
  s1 pt7 (u0 k219 b0) <|
  y0 (u2 k220 eStore rfl (qT gt7) (qT gt13)) <|
  se) rfl) (cS (cR (y1 pt14 (u1 k236 eFaddr rfl (qT gt7)) <|
  y1 pt15 (u1 k108 eLoad rfl (qT gt14)) <|
  se) rfl) (cC gt15 cX (cR (sm pt21 (qT gt4) <|
  y1 pt22 (u1 k221 eFaddr rfl (qT gt7)) <|
  y1 pt23 (u1 k222 eLoad rfl (qT gt22)) <|
  y1 pt24 (u1 k223 eLenSlc rfl (qT gt23)) <|
  y2 pt25 (iAdd (qT gt21) (qT gt24)) <|
  sa pt4 (qT gt25) <|
  se) rfl))))) (cR (y2 pt26 (iAdd (qT gt10) (qI (.ofNat 1))) <|
  sm pt10 (qT gt26) <|
  se) rfl))))))) (cS (cR (sm pt27 (qT gt4) <|
  sm pt28 (qT gt5) <|
  sa pt2 (qT gt27) <|
  sa pt3 (qT gt28) <|
  se) rfl) cT))))
 (rT gt2 (rT gt3 r0))⟩
theorem h131 : FnGood Pg 131 g131.1 := g131.2
theorem c131 {d : Option Nat} {ty : TypeId} {pos : String} {af : Array Edge} {g : Option (Nat × Bool)} {x : Operand} {xs : Array Operand} {ats : Array TypeId} : DXOk Pg ⟨d, .call { callee := .value x, args := xs, argTypes := ats }, ty, pos, af, g⟩ (xCallD [(131, g131.1)]) := oG (tb1 h131 tb0)
/- (wellspring/patch.copier).opt -/
noncomputable def g132 : {X : Xop // FnGood Pg 132 X} := ⟨_, fN' rfl Tryz.func132 (by decide) Tryz.ntmps132 Tryz.results132 rfl
 (cS (cR (s1 pt1 (u0 oX (bb (qT gt0) b0)) <|
  sa pt2 (qV (.one (.str [])) rfl) <|
  sa pt3 (qI (.ofNat 0)) <|
  se) rfl) (cS (cS (cR (y1 pt6 (u1 k233 eFaddr rfl (qT gt1)) <|
  y1 pt7 (u1 k147 eFaddr rfl (qT gt6)) <|
  y1 pt8 (u1 k242 eFaddr rfl (qT gt7)) <|
  y1 pt9 (u1 k108 eLoad rfl (qT gt8)) <|
  y1 pt10 (fNo (qT gt9)) <|
  se) rfl) (cC gt10 (cS (cR (sa pt2 (qV (.one (.str [])) rfl) <|
  sa pt3 (qI (.ofNat 0)) <|
  se) rfl) cT) cK)) cX))
 (rT gt2 (rT gt3 r0))⟩
theorem h132 : FnGood Pg 132 g132.1 := g132.2
theorem c132 {d : Option Nat} {ty : TypeId} {pos : String} {af : Array Edge} {g : Option (Nat × Bool)} {x : Operand} {xs : Array Operand} {ats : Array TypeId} : DXOk Pg ⟨d, .call { callee := .value x, args := xs, argTypes := ats }, ty, pos, af, g⟩ (xCallD [(132, g132.1)]) := oG (tb1 h132 tb0)
/- wellspring/octet.Put -/
noncomputable def g142 : {X : Xop // FnGood Pg 142 X} := ⟨_, fN' rfl Tryz.func142 (by decide) Tryz.ntmps142 Tryz.results142 rfl
 (cS (cR (sa pt4 (qV (.one (.str [])) rfl) <|
  se) rfl) (cS (cS (cR (sm pt7 (qT gt1) <|
  s1 pt8 (uC rfl h203 (bb (qT gt7) b0)) <|
  y1 pt9 (fNo (qT gt8)) <|
  sm pt10 (qT gt9) <|
  g1 gt10 pt11 (fMv (qT gt0)) rfl <|
  g1 gt10 pt12 (iLss (qT gt11) (qI (.ofNat 0))) rfl <|
  s1 pt13 (uP (qT gt10) qB (qT gt12)) <|
  sm pt14 (qT gt13) <|
  g1 gt14 pt15 (fMv (qT gt0)) rfl <|
  g1 gt14 pt16 (fMv (qT gt1)) rfl <|
  g1 gt14 pt17 (iMul (qI (.ofNat 8)) (qT gt16)) rfl <|
  g1 gt14 pt18 (u0 (oH (.inr rfl)) (bb (qT gt15) (bb (qT gt17) b0))) rfl <|
  g1 gt14 pt19 (iNeq (qT gt18) (qI (.ofNat 0))) rfl <|
  s1 pt20 (uP (qT gt14) qB (qT gt19)) <|
  se) rfl) (cC gt20 cX cK)) (cS (cR (sm pt21 (qT gt1) <|
  s1 pt22 (u0 k247 (bb (qT gt21) (bb (qT gt21) b0))) <|
  sa pt5 (qT gt22) <|
  se) rfl) (cS (cS (cR (sm pt23 (qT gt1) <|
  sm pt24 (qI (.ofNat 0)) <|
  se) rfl) (cB (cO (cS (cR (y2 pt25 (iLss (qT gt24) (qT gt23)) <|
  se) rfl) (cS (cC gt25 cK cE) (cS (cB (cS (cR (sm pt26 (qT gt24) <|
  sa pt6 (qT gt26) <|
  se) rfl) (cR (sm pt27 (qT gt5) <|
  sm pt28 (qT gt1) <|
  y2 pt29 (iSub (qT gt28) (qI (.ofNat 1))) <|
  sm pt30 (qT gt6) <|
  y2 pt31 (iSub (qT gt29) (qT gt30)) <|
  sm pt32 (qT gt0) <|
  sm pt33 (qT gt6) <|
  y2 pt34 (iMul (qI (.ofNat 8)) (qT gt33)) <|
  s1 pt35 (u0 (oH (.inr rfl)) (bb (qT gt32) (bb (qT gt34) b0))) <|
  y1 pt36 (u1 k57 eCvt rfl (qT gt35)) <|
  y2 pt37 (u2 k63 eIaddr rfl (qT gt27) (qT gt31)) <|
  y0 (u2 k150 eStore rfl (qT gt37) (qT gt36)) <|
  se) rfl))) (cR (y2 pt38 (iAdd (qT gt24) (qI (.ofNat 1))) <|
  sm pt24 (qT gt38) <|
  se) rfl))))))) (cS (cR (sm pt39 (qT gt5) <|
  s1 pt40 (u0 k60 (bb (qT gt39) b0)) <|
  sa pt4 (qT gt40) <|
  se) rfl) cT)))))
 (rT gt4 r0)⟩
theorem h142 : FnGood Pg 142 g142.1 := g142.2
theorem c142 {d : Option Nat} {ty : TypeId} {pos : String} {af : Array Edge} {g : Option (Nat × Bool)} {x : Operand} {xs : Array Operand} {ats : Array TypeId} : DXOk Pg ⟨d, .call { callee := .value x, args := xs, argTypes := ats }, ty, pos, af, g⟩ (xCallD [(142, g142.1)]) := oG (tb1 h142 tb0)
/- wellspring/patch.two -/
noncomputable def g134 : {X : Xop // FnGood Pg 134 X} := ⟨_, fN' rfl Tryz.func134 (by decide) Tryz.ntmps134 Tryz.results134 rfl
 (cS (cR (sa pt2 (qV (.one (.str [])) rfl) <|
  se) rfl) (cS (cR (sm pt3 (qT gt0) <|
  s1 pt4 (uC rfl h142 (bb (qT gt3) (bb (qI (.ofNat 2)) b0))) <|
  sa pt2 (qT gt4) <|
  se) rfl) cT))
 (rT gt2 r0)⟩
theorem h134 : FnGood Pg 134 g134.1 := g134.2
theorem c134 {d : Option Nat} {ty : TypeId} {pos : String} {af : Array Edge} {g : Option (Nat × Bool)} {x : Operand} {xs : Array Operand} {ats : Array TypeId} : DXOk Pg ⟨d, .call { callee := .value x, args := xs, argTypes := ats }, ty, pos, af, g⟩ (xCallD [(134, g134.1)]) := oG (tb1 h134 tb0)
/- (wellspring/tmpl.Piece).from -/
noncomputable def g196 : {X : Xop // FnGood Pg 196 X} := ⟨_, fN' rfl Tryz.func196 (by decide) Tryz.ntmps196 Tryz.results196 rfl
 (cS (cR (s1 pt2 (u0 oX (bb (qT gt0) b0)) <|
  s1 pt3 (u0 oX (bb (qT gt1) b0)) <|
  sa pt4 (qV (.one (.nilf)) rfl) <|
  se) rfl) (cS (cR (s1 pt5 (u0 (oF0 rfl) (bb (qT gt2) (bb (qT gt3) b0))) <|
  sa pt4 (qT gt5) <|
  se) rfl) cT))
 (rT gt4 r0)⟩
theorem h196 : FnGood Pg 196 g196.1 := g196.2
theorem c196 {d : Option Nat} {ty : TypeId} {pos : String} {af : Array Edge} {g : Option (Nat × Bool)} {x : Operand} {xs : Array Operand} {ats : Array TypeId} : DXOk Pg ⟨d, .call { callee := .value x, args := xs, argTypes := ats }, ty, pos, af, g⟩ (xCallD [(196, g196.1)]) := oG (tb1 h196 tb0)
/- (wellspring/tmpl.Piece).from$1 -/
noncomputable def g237 (y : Nat) (XY : Xop) : {X : Xop // FnGood Pg y XY → FnGood Pg 237 X} := ⟨_, fun hy => fN' rfl Tryz.func237 (by decide) Tryz.ntmps237 Tryz.results237 rfl
 (cS (cR (y1 pt5 (u1 k221 eFaddr rfl (qT gt1)) <|
  y1 pt6 (u1 k222 eLoad rfl (qT gt5)) <|
  y1 pt7 (u1 k223 eLenSlc rfl (qT gt6)) <|
  sm pt8 (qI (.ofNat 0)) <|
  se) rfl) (cB (cO (cS (cR (y2 pt9 (iLss (qT gt8) (qT gt7)) <|
  se) rfl) (cS (cC gt9 cK cE) (cS (cB (cS (cR (sm pt10 (qT gt8) <|
  sa pt4 (qT gt10) <|
  se) rfl) (cS (cDv [⟨0, 0, some 11, [0]⟩, ⟨1, 0, some 12, [1]⟩, ⟨2, 2, some 13, [12]⟩, ⟨3, 0, some 14, [2]⟩, ⟨4, 0, some 15, [4]⟩, ⟨5, 24, some 16, [14, 15]⟩, ⟨6, 0, some 17, [1]⟩, ⟨7, 64, some 18, [17]⟩, ⟨8, 192, some 19, [18]⟩, ⟨9, 504, some 20, [16, 19]⟩, ⟨10, 1022, some 21, [13, 20]⟩, ⟨11, 2046, some 22, [21]⟩, ⟨12, 4095, some 23, [11, 22]⟩, ⟨13, 8191, some 24, [23]⟩] [(0, 0, false), (1, 0, false), (2, 2, false), (3, 0, false), (4, 0, false), (5, 24, false), (6, 0, false), (7, 64, false), (8, 192, false), (9, 504, false), (10, 1022, false), (11, 2046, false), (12, 4095, true), (13, 8191, false)] mo (d1 0 0 rfl pt11 oM (aT gt0 a0) <|
  d1 1 0 rfl pt12 k221 (aT gt1 a0) <|
  d1 2 2 rfl pt13 k222 (aT gt12 a0) <|
  d1 3 0 rfl pt14 k5 (aT gt2 a0) <|
  d1 4 0 rfl pt15 oM (aT gt4 a0) <|
  d1 5 24 rfl pt16 oI (aT gt14 (aT gt15 a0)) <|
  d1 6 0 rfl pt17 k221 (aT gt1 a0) <|
  d1 7 64 rfl pt18 k222 (aT gt17 a0) <|
  d1 8 192 rfl pt19 k223 (aT gt18 a0) <|
  d1 9 504 rfl pt20 oI (aT gt16 (aT gt19 a0)) <|
  d1 10 1022 rfl pt21 k224 (aT gt13 (aT gt20 a0)) <|
  d1 11 2046 rfl pt22 k225 (aT gt21 a0) <|
  d1 12 4095 rfl pt23 (oG (tb1 hy tb0)) (aT gt11 (aT gt22 a0)) <|
  d1 13 8191 rfl pt24 oN (aT gt23 a0) <|
  de) rfl rfl rfl rfl rfl) (cC gt24 cT cK)))) (cR (y2 pt25 (iAdd (qT gt8) (qI (.ofNat 1))) <|
  sm pt8 (qT gt25) <|
  se) rfl)))))))
 r0⟩
theorem h237 (y : Nat) (XY : Xop) (hy : FnGood Pg y XY) : FnGood Pg 237 (g237 y XY).1 := (g237 y XY).2 hy
/- (wellspring/tmpl.Template).Part -/
noncomputable def g135 : {X : Xop // FnGood Pg 135 X} := ⟨_, fM rfl Tryz.func135 (by decide) Tryz.ntmps135 Tryz.results135 rfl td0
 (mS (mG (cR (s1 pt4 (u0 oX (bb (qT gt0) b0)) <|
  sa pt8 (qV (.one (.str [])) rfl) <|
  se) rfl)) (mS (mG (cS (cR (sm pt14 (qT gt1) <|
  y2 pt15 (iLss (qT gt14) (qI (.ofNat 0))) <|
  sm pt16 (qT gt15) <|
  g1 gt16 pt17 (fMv (qT gt1)) rfl <|
  g1 gt16 pt18 (u1 k214 eFaddr rfl (qT gt4)) rfl <|
  g1 gt16 pt19 (u1 k215 eLoad rfl (qT gt18)) rfl <|
  g1 gt16 pt20 (u1 k216 eLenSlc rfl (qT gt19)) rfl <|
  g1 gt16 pt21 (iGeq (qT gt17) (qT gt20)) rfl <|
  s1 pt22 (uP (qT gt16) qB (qT gt21)) <|
  sm pt23 (qT gt22) <|
  g1 gt23 pt24 (fMv (qT gt3)) rfl <|
  g1 gt23 pt25 (iLss (qT gt24) (qI (.ofNat 0))) rfl <|
  s1 pt26 (uP (qT gt23) qB (qT gt25)) <|
  sm pt27 (qT gt26) <|
  g1 gt27 pt28 (u1 k237 eLoadN rfl (qT gt4)) rfl <|
  g1 gt27 pt29 (uC rfl h125 (bb (qT gt28) b0)) rfl <|
  g1 gt27 pt30 (fNo (qT gt29)) rfl <|
  s1 pt31 (uP (qT gt27) qB (qT gt30)) <|
  se) rfl) (cC gt31 cX cK))) (mS (mG (cR (y1 pt32 (u1 k214 eFaddr rfl (qT gt4)) <|
  y1 pt33 (u1 k215 eLoad rfl (qT gt32)) <|
  sm pt34 (qT gt1) <|
  y2 pt35 (u2 k217 eIaddr rfl (qT gt33) (qT gt34)) <|
  y1 pt36 (u1 k218 eLoadN rfl (qT gt35)) <|
  s1 pt9 (u0 k219 b0) <|
  y0 (u2 k220 eStore rfl (qT gt9) (qT gt36)) <|
  se) rfl)) (mS (mG (cS (cR (sm pt37 (qT gt2) <|
  y1 pt38 (u1 k232 eFaddr rfl (qT gt9)) <|
  y1 pt39 (u1 k5 eLoad rfl (qT gt38)) <|
  s1 pt40 (uC rfl h113 (bb (qT gt37) (bb (qT gt39) b0))) <|
  y1 pt41 (fNo (qT gt40)) <|
  se) rfl) (cC gt41 cX cK))) (mS (mG (cR (sm pt42 (qT gt3) <|
  y1 pt43 (u1 k221 eFaddr rfl (qT gt9)) <|
  y1 pt44 (u1 k222 eLoad rfl (qT gt43)) <|
  y1 pt45 (u1 k223 eLenSlc rfl (qT gt44)) <|
  s1 pt46 (u0 oI (bb (qT gt42) (bb (qT gt45) b0))) <|
  sa pt10 (qT gt46) <|
  se) rfl)) (mS (mG (cS (cR (y1 pt47 (u1 k236 eFaddr rfl (qT gt9)) <|
  y1 pt48 (u1 k108 eLoad rfl (qT gt47)) <|
  se) rfl) (cC gt48 cX cK))) (mS (mG (cR (sm pt49 (qT gt2) <|
  y1 pt50 (u1 k232 eFaddr rfl (qT gt9)) <|
  y1 pt51 (u1 k5 eLoad rfl (qT gt50)) <|
  s1 pt52 (uC rfl h122 (bb (qT gt49) (bb (qT gt51) b0))) <|
  s1 pt53 (uC rfl h142 (bb (qT gt52) (bb (qI (.ofNat 4)) b0))) <|
  s1 pt11 (u0 k248 b0) <|
  y0 (u2 k115 eStore rfl (qT gt11) (qT gt53)) <|
  se) rfl)) (mS (mG (cR (s1 pt12 (u0 k249 b0) <|
  se) rfl)) (mS (mS (mG (cR (y1 pt54 (u1 k218 eLoadN rfl (qT gt9)) <|
  sm pt55 (qT gt10) <|
  s1 pt56 (uC rfl h196 (bb (qT gt54) (bb (qT gt55) b0))) <|
  se) rfl)) (mB (rangeIn_good (rid := 135) gt56 rfl func237 rfl (by decide) rfl (.cons pt57 (by decide) .nil) rfl h237 (cR (s1 pt13 (u0 k226 b0) <|
  y0 (u2 k227 eStore rfl (qT gt13) (qT gt57)) <|
  se) rfl) (cB (cS (cR (y1 pt58 (u1 k231 eFaddr rfl (qT gt4)) <|
  y1 pt59 (u1 k3 eLoad rfl (qT gt58)) <|
  y1 pt60 (u1 k228 eFaddr rfl (qT gt13)) <|
  y1 pt61 (u1 k5 eLoad rfl (qT gt60)) <|
  y1 pt62 (u1 k229 eFaddr rfl (qT gt13)) <|
  y1 pt63 (u1 k5 eLoad rfl (qT gt62)) <|
  s1 pt64 (u0 k23 (bb (qT gt59) (bb (qT gt61) (bb (qT gt63) b0)))) <|
  s1 pt65 (uC rfl h133 (bb (qT gt12) (bb (qT gt64) b0))) <|
  se) rfl) (cS (cR (y1 pt66 (u1 k3 eLoad rfl (qT gt11)) <|
  s1 pt67 (uC rfl h133 (bb (qT gt12) (bb (qT gt66) b0))) <|
  se) rfl) (cR (y1 pt68 (u1 k231 eFaddr rfl (qT gt4)) <|
  y1 pt69 (u1 k3 eLoad rfl (qT gt68)) <|
  y1 pt70 (u1 k229 eFaddr rfl (qT gt13)) <|
  y1 pt71 (u1 k5 eLoad rfl (qT gt70)) <|
  y2 pt72 (iAdd (qT gt71) (qI (.ofNat 4))) <|
  y1 pt73 (u1 k230 eFaddr rfl (qT gt13)) <|
  y1 pt74 (u1 k5 eLoad rfl (qT gt73)) <|
  s1 pt75 (u0 k23 (bb (qT gt69) (bb (qT gt72) (bb (qT gt74) b0)))) <|
  s1 pt76 (uC rfl h133 (bb (qT gt12) (bb (qT gt75) b0))) <|
  se) rfl))))))) (mG (cS (cR (s1 pt77 (uC rfl h136 (bb (qT gt12) b0)) <|
  sa pt8 (qT gt77) <|
  se) rfl) cT)))))))))))
 (rT gt8 r0)⟩
theorem h135 : FnGood Pg 135 g135.1 := g135.2
theorem c135 {d : Option Nat} {ty : TypeId} {pos : String} {af : Array Edge} {g : Option (Nat × Bool)} {x : Operand} {xs : Array Operand} {ats : Array TypeId} : DXOk Pg ⟨d, .call { callee := .value x, args := xs, argTypes := ats }, ty, pos, af, g⟩ (xCallD [(135, g135.1)]) := oG (tb1 h135 tb0)
end Go.Proofs.YtddbhljljmijcaaGreat.V
