/- The kinds of the program's operations. -/
import Derived.Test.YtddbhljljmijcaaGreatSh
namespace Go.Proofs.YtddbhljljmijcaaGreat.V
open Go.RowKit Go.Proofs Go.Proofs.Tryz
set_option linter.unusedVariables false
set_option maxRecDepth 100000
/-- The program. -/
noncomputable abbrev Pg : Program := Go.Proofs.Tryz.prog
theorem mo : Pg.follows .mixedOrders = true := rfl
theorem i3 : Pg.info? 3 = some Tryz.t3 := rfl
theorem i4 : Pg.info? 4 = some Tryz.t4 := rfl
theorem i5 : Pg.info? 5 = some Tryz.t5 := rfl
theorem i9 : Pg.info? 9 = some Tryz.t9 := rfl
theorem i24 : Pg.info? 24 = some Tryz.t24 := rfl
theorem i27 : Pg.info? 27 = some Tryz.t27 := rfl
theorem i29 : Pg.info? 29 = some Tryz.t29 := rfl
theorem i31 : Pg.info? 31 = some Tryz.t31 := rfl
theorem i34 : Pg.info? 34 = some Tryz.t34 := rfl
theorem i35 : Pg.info? 35 = some Tryz.t35 := rfl
theorem i37 : Pg.info? 37 = some Tryz.t37 := rfl
theorem i38 : Pg.info? 38 = some Tryz.t38 := rfl
theorem i40 : Pg.info? 40 = some Tryz.t40 := rfl
theorem i41 : Pg.info? 41 = some Tryz.t41 := rfl
theorem i46 : Pg.info? 46 = some Tryz.t46 := rfl
theorem i50 : Pg.info? 50 = some Tryz.t50 := rfl
theorem i57 : Pg.info? 57 = some Tryz.t57 := rfl
theorem i60 : Pg.info? 60 = some Tryz.t60 := rfl
theorem i61 : Pg.info? 61 = some Tryz.t61 := rfl
theorem i65 : Pg.info? 65 = some Tryz.t65 := rfl
theorem i67 : Pg.info? 67 = some Tryz.t67 := rfl
theorem i70 : Pg.info? 70 = some Tryz.t70 := rfl
theorem i72 : Pg.info? 72 = some Tryz.t72 := rfl
theorem i74 : Pg.info? 74 = some Tryz.t74 := rfl
theorem i76 : Pg.info? 76 = some Tryz.t76 := rfl
theorem i78 : Pg.info? 78 = some Tryz.t78 := rfl
theorem i92 : Pg.info? 92 = some Tryz.t92 := rfl
theorem i93 : Pg.info? 93 = some Tryz.t93 := rfl
theorem i94 : Pg.info? 94 = some Tryz.t94 := rfl
theorem i95 : Pg.info? 95 = some Tryz.t95 := rfl
theorem i96 : Pg.info? 96 = some Tryz.t96 := rfl
theorem i97 : Pg.info? 97 = some Tryz.t97 := rfl
theorem i99 : Pg.info? 99 = some Tryz.t99 := rfl
theorem i108 : Pg.info? 108 = some Tryz.t108 := rfl
theorem i114 : Pg.info? 114 = some Tryz.t114 := rfl
theorem i118 : Pg.info? 118 = some Tryz.t118 := rfl
theorem i120 : Pg.info? 120 = some Tryz.t120 := rfl
theorem i122 : Pg.info? 122 = some Tryz.t122 := rfl
theorem i125 : Pg.info? 125 = some Tryz.t125 := rfl
theorem i129 : Pg.info? 129 = some Tryz.t129 := rfl
theorem i143 : Pg.info? 143 = some Tryz.t143 := rfl
theorem i151 : Pg.info? 151 = some Tryz.t151 := rfl
theorem i154 : Pg.info? 154 = some Tryz.t154 := rfl
theorem i159 : Pg.info? 159 = some Tryz.t159 := rfl
theorem i160 : Pg.info? 160 = some Tryz.t160 := rfl
theorem i168 : Pg.info? 168 = some Tryz.t168 := rfl
theorem i170 : Pg.info? 170 = some Tryz.t170 := rfl
theorem i171 : Pg.info? 171 = some Tryz.t171 := rfl
theorem i173 : Pg.info? 173 = some Tryz.t173 := rfl
theorem i188 : Pg.info? 188 = some Tryz.t188 := rfl
theorem i191 : Pg.info? 191 = some Tryz.t191 := rfl
theorem i193 : Pg.info? 193 = some Tryz.t193 := rfl
theorem i197 : Pg.info? 197 = some Tryz.t197 := rfl
theorem i199 : Pg.info? 199 = some Tryz.t199 := rfl
theorem i210 : Pg.info? 210 = some Tryz.t210 := rfl
theorem i219 : Pg.info? 219 = some Tryz.t219 := rfl
theorem i225 : Pg.info? 225 = some Tryz.t225 := rfl
theorem i227 : Pg.info? 227 = some Tryz.t227 := rfl
theorem i230 : Pg.info? 230 = some Tryz.t230 := rfl
theorem i241 : Pg.info? 241 = some Tryz.t241 := rfl
theorem i243 : Pg.info? 243 = some Tryz.t243 := rfl
theorem i253 : Pg.info? 253 = some Tryz.t253 := rfl
theorem i254 : Pg.info? 254 = some Tryz.t254 := rfl
theorem i256 : Pg.info? 256 = some Tryz.t256 := rfl
theorem i257 : Pg.info? 257 = some Tryz.t257 := rfl
theorem i270 : Pg.info? 270 = some Tryz.t270 := rfl
theorem i282 : Pg.info? 282 = some Tryz.t282 := rfl
theorem i319 : Pg.info? 319 = some Tryz.t319 := rfl
theorem i322 : Pg.info? 322 = some Tryz.t322 := rfl
theorem i338 : Pg.info? 338 = some Tryz.t338 := rfl
theorem i347 : Pg.info? 347 = some Tryz.t347 := rfl
theorem i352 : Pg.info? 352 = some Tryz.t352 := rfl
def z3 : List At := [.int .i64 (.ofNat 0)]
def z4 : List At := [.bool false]
def z5 : List At := [.int .u8 (.ofNat 0)]
def z9 : List At := [.str []]
def z24 : List At := [.int .i64 (.ofNat 0)]
def z27 : List At := [.nils]
def z29 : List At := [.int .i64 (.ofNat 0), .int .i64 (.ofNat 0), .int .i64 (.ofNat 0), .int .i64 (.ofNat 0), .int .i64 (.ofNat 0), .int .i64 (.ofNat 0), .nils]
def z31 : List At := [.str [], .int .i64 (.ofNat 0), .int .i64 (.ofNat 0)]
def z35 : List At := [.nils]
def z37 : List At := [.int .i64 (.ofNat 0), .int .i64 (.ofNat 0), .nils, .nils, .nils, .nils]
def z38 : List At := [.nils]
def z40 : List At := [.str [], .int .i64 (.ofNat 0), .int .i64 (.ofNat 0), .int .i64 (.ofNat 0), .str []]
def z46 : List At := [.str [], .int .i64 (.ofNat 0), .int .i64 (.ofNat 0), .bool false, .str []]
def z50 : List At := [.int .i64 (.ofNat 0), .int .i64 (.ofNat 0), .int .i64 (.ofNat 0)]
def z57 : List At := [.str [], .int .i64 (.ofNat 0), .int .i64 (.ofNat 0), .nils, .int .i64 (.ofNat 0)]
def z67 : List At := [.str [], .int .i64 (.ofNat 0), .int .i64 (.ofNat 0), .int .i64 (.ofNat 0), .str [], .nils]
def z72 : List At := [.str [], .int .i64 (.ofNat 0), .int .i64 (.ofNat 0), .nils, .int .i64 (.ofNat 0), .int .i64 (.ofNat 0)]
def z74 : List At := [.nils, .int .i64 (.ofNat 0), .str [], .str [], .int .i64 (.ofNat 0), .int .i64 (.ofNat 0), .nils, .int .i64 (.ofNat 0), .int .i64 (.ofNat 0)]
def z76 : List At := [.bool false, .int .i64 (.ofNat 0), .int .i64 (.ofNat 0), .int .i64 (.ofNat 0), .bool false]
def z78 : List At := [.int .i64 (.ofNat 0), .int .i64 (.ofNat 0), .str [], .int .i64 (.ofNat 0), .int .i64 (.ofNat 0), .bool false, .int .i64 (.ofNat 0), .int .i64 (.ofNat 0), .int .i64 (.ofNat 0), .bool false]
def z97 : List At := [.int .i64 (.ofNat 0), .int .i64 (.ofNat 0)]
def z99 : List At := [.int .i64 (.ofNat 0), .int .i64 (.ofNat 0), .int .i64 (.ofNat 0), .int .i64 (.ofNat 0), .int .i64 (.ofNat 0), .int .i64 (.ofNat 0), .nils, .nilp, .nilp, .nils, .nils, .nils, .nils, .nilm, .int .i64 (.ofNat 0), .int .i64 (.ofNat 0), .int .i64 (.ofNat 0), .int .i64 (.ofNat 0), .int .i64 (.ofNat 0), .int .i64 (.ofNat 0), .nils]
def z108 : List At := [.str [], .int .i64 (.ofNat 0), .int .i64 (.ofNat 0), .int .i64 (.ofNat 0), .str [], .int .i64 (.ofNat 0), .int .i64 (.ofNat 0), .bool false, .int .i64 (.ofNat 0), .int .i64 (.ofNat 0), .int .i64 (.ofNat 0), .bool false, .str [], .int .i64 (.ofNat 0), .int .i64 (.ofNat 0), .int .i64 (.ofNat 0)]
def z114 : List At := [.int .i64 (.ofNat 0), .int .i64 (.ofNat 0), .str [], .str [], .int .i64 (.ofNat 0), .int .i64 (.ofNat 0), .int .i64 (.ofNat 0), .int .i64 (.ofNat 0)]
def z120 : List At := [.nils, .int .i64 (.ofNat 0)]
def z122 : List At := [.int .i64 (.ofNat 0), .str [], .int .i64 (.ofNat 0), .int .i64 (.ofNat 0), .nils, .int .i64 (.ofNat 0)]
def z125 : List At := [.str [], .int .i64 (.ofNat 0), .int .i64 (.ofNat 0), .str [], .int .i64 (.ofNat 0)]
def z129 : List At := [.int .i64 (.ofNat 0), .int .i64 (.ofNat 0), .int .i64 (.ofNat 0), .int .i64 (.ofNat 0)]
def z143 : List At := [.nilp, .nilp, .int .i64 (.ofNat 0)]
def z151 : List At := [.str [], .int .i64 (.ofNat 0), .int .i64 (.ofNat 0), .int .i64 (.ofNat 0), .str [], .nils, .int .i64 (.ofNat 0), .int .i64 (.ofNat 0), .str [], .int .i64 (.ofNat 0), .int .i64 (.ofNat 0), .bool false, .int .i64 (.ofNat 0), .int .i64 (.ofNat 0), .int .i64 (.ofNat 0), .bool false, .int .i64 (.ofNat 0)]
def z154 : List At := [.nils]
def z159 : List At := [.nils, .bool false]
def z160 : List At := [.int .i64 (.ofNat 0)]
def z170 : List At := [.int .i64 (.ofNat 0), .nilm, .nils, .int .i64 (.ofNat 0)]
def z173 : List At := [.int .i64 (.ofNat 0), .nilm, .nils, .int .i64 (.ofNat 0)]
def z188 : List At := [.nils]
def z191 : List At := [.str [], .int .i64 (.ofNat 0), .int .i64 (.ofNat 0), .nils, .int .i64 (.ofNat 0), .int .i64 (.ofNat 0)]
def z193 : List At := [.str [], .int .i64 (.ofNat 0), .int .i64 (.ofNat 0), .bool false, .str [], .int .i64 (.ofNat 0), .int .i64 (.ofNat 0), .nils, .int .i64 (.ofNat 0)]
def z197 : List At := [.nilp, .nilp, .int .i64 (.ofNat 0), .nils, .int .i64 (.ofNat 0)]
def z199 : List At := [.int .i64 (.ofNat 0), .nils, .int .i64 (.ofNat 0), .str [], .str [], .int .i64 (.ofNat 0), .int .i64 (.ofNat 0), .nils, .int .i64 (.ofNat 0), .int .i64 (.ofNat 0), .str [], .str [], .int .i64 (.ofNat 0), .int .i64 (.ofNat 0), .str []]
def z210 : List At := [.str [], .int .i64 (.ofNat 0), .int .i64 (.ofNat 0), .nils, .int .i64 (.ofNat 0), .int .i64 (.ofNat 0), .int .i64 (.ofNat 0)]
def z219 : List At := [.str [], .int .i64 (.ofNat 0), .int .i64 (.ofNat 0), .bool false, .str [], .int .i64 (.ofNat 0), .int .i64 (.ofNat 0), .nils, .int .i64 (.ofNat 0), .int .i64 (.ofNat 0)]
def z227 : List At := [.nils, .int .i64 (.ofNat 0), .bool false]
def z230 : List At := [.int .i64 (.ofNat 0), .int .i64 (.ofNat 0), .int .i64 (.ofNat 0)]
def z243 : List At := [.nilp, .nils]
def z253 : List At := [.int .i64 (.ofNat 0), .int .i64 (.ofNat 0)]
def z254 : List At := [.int .i64 (.ofNat 0), .int .i64 (.ofNat 0), .int .i64 (.ofNat 0), .int .i64 (.ofNat 0), .int .i64 (.ofNat 0), .int .i64 (.ofNat 0), .int .i64 (.ofNat 0), .int .i64 (.ofNat 0), .int .i64 (.ofNat 0), .int .i64 (.ofNat 0), .int .i64 (.ofNat 0), .int .i64 (.ofNat 0), .int .i64 (.ofNat 0), .int .i64 (.ofNat 0), .int .i64 (.ofNat 0), .int .i64 (.ofNat 0), .int .i64 (.ofNat 0), .int .i64 (.ofNat 0)]
def z257 : List At := [.nilp, .nilp, .nilp]
def z270 : List At := [.str [], .int .i64 (.ofNat 0), .int .i64 (.ofNat 0), .int .i64 (.ofNat 0), .str [], .nils, .nils]
def z282 : List At := [.int .i64 (.ofNat 0), .int .i64 (.ofNat 0), .nils, .nils, .nils, .nils, .str []]
def z319 : List At := [.str [], .int .i64 (.ofNat 0), .bool false]
def z322 : List At := [.int .i64 (.ofNat 0), .int .i64 (.ofNat 0), .int .i64 (.ofNat 0), .int .i64 (.ofNat 0), .int .i64 (.ofNat 0), .int .i64 (.ofNat 0)]
def z338 : List At := [.str [], .str [], .nils]
def z347 : List At := [.str [], .int .i64 (.ofNat 0), .int .i64 (.ofNat 0), .int .i64 (.ofNat 0), .nilp, .nils]
def z352 : List At := [.int .i64 (.ofNat 0), .int .i64 (.ofNat 0), .int .i64 (.ofNat 0)]
section
variable {d : Option Nat} {ty t : TypeId} {pos : String} {af : Array Edge} {g : Option (Nat × Bool)} {x y : Operand}
theorem k0 : DXOk Pg ⟨d, .call { callee := .builtin .len, args := #[x], argTypes := #[9] }, ty, pos, af, g⟩ xLenStr := bLS underlying9
theorem k1 : DXOk Pg ⟨d, .call { callee := .builtin .len, args := #[x], argTypes := #[27] }, ty, pos, af, g⟩ xLenSlc := bLL underlying27
theorem k2 : DXOk Pg ⟨d, .indexAddr 27 x y, ty, pos, af, g⟩ (xIaddrS 1) := oIS 1 underlying27 i9 rfl
theorem k3 : DXOk Pg ⟨d, .load 9 x, ty, pos, af, g⟩ xLoad1 := oL underlying9 rfl
theorem k4 : DXOk Pg ⟨d, .fieldAddr 29 x 0, ty, pos, af, g⟩ (xFaddr 0) := oFA 0 underlying29 rfl rfl i3 rfl
theorem k5 : DXOk Pg ⟨d, .load 3 x, ty, pos, af, g⟩ xLoad1 := oL underlying3 rfl
theorem k6 : DXOk Pg ⟨d, .fieldAddr 29 x 1, ty, pos, af, g⟩ (xFaddr 1) := oFA 1 underlying29 rfl rfl i3 rfl
theorem k7 : DXOk Pg ⟨d, .fieldAddr 29 x 2, ty, pos, af, g⟩ (xFaddr 2) := oFA 2 underlying29 rfl rfl i3 rfl
theorem k8 : DXOk Pg ⟨d, .fieldAddr 29 x 3, ty, pos, af, g⟩ (xFaddr 3) := oFA 3 underlying29 rfl rfl i3 rfl
theorem k9 : DXOk Pg ⟨d, .fieldAddr 29 x 4, ty, pos, af, g⟩ (xFaddr 4) := oFA 4 underlying29 rfl rfl i3 rfl
theorem k10 : DXOk Pg ⟨d, .fieldAddr 29 x 5, ty, pos, af, g⟩ (xFaddr 5) := oFA 5 underlying29 rfl rfl i3 rfl
theorem k11 : DXOk Pg ⟨d, .fieldAddr 29 x 6, ty, pos, af, g⟩ (xFaddr 6) := oFA 6 underlying29 rfl rfl i27 rfl
theorem k12 : DXOk Pg ⟨d, .load 27 x, ty, pos, af, g⟩ xLoad1 := oL underlying27 rfl
theorem k13 : DXOk Pg ⟨d, .binOp .eql 27 x y t, ty, pos, af, g⟩ (xEqNil .slice false) := oQ ⟨_, underlying27⟩
theorem k14 : DXOk Pg ⟨d, .buildSlice 27 0 #[], ty, pos, af, g⟩ (xBuildSlice [] [] false 0 1) := oBL [] z9 [] false 1 underlying27 i9 rfl rfl rfl rfl rfl rfl rfl rfl
theorem k15 : DXOk Pg ⟨d, .call { callee := .builtin .append, args := #[x, y], argTypes := #[27, 27] }, ty, pos, af, g⟩ (xAppend 1 false) := bA 1 false underlying27 i9 underlying27 nofun rfl rfl rfl rfl rfl
theorem k16 {p0 p1 : Operand} : DXOk Pg ⟨d, .build 170 #[(0, p0), (1, p1)], ty, pos, af, g⟩ (xBuild [(0, 1), (1, 1)] z170) := oBS [(0, 1), (1, 1)] z170 underlying170 rfl i170 rfl rfl rfl
theorem k17 {p0 p1 : Operand} : DXOk Pg ⟨d, .build 173 #[(0, p0), (1, p1)], ty, pos, af, g⟩ (xBuild [(0, 1), (1, 1)] z173) := oBS [(0, 1), (1, 1)] z173 underlying173 rfl i173 rfl rfl rfl
theorem k18 : DXOk Pg ⟨d, .load 29 x, ty, pos, af, g⟩ (xLoadN 7) := oLN 7 underlying29 rfl i29 rfl
theorem k19 : DXOk Pg ⟨d, .store 27 x y, ty, pos, af, g⟩ (xStore 1) := oW 1 i27 rfl
theorem k20 {p0 p1 p2 p3 : Operand} : DXOk Pg ⟨d, .build 99 #[(0, p0), (1, p1), (2, p2), (7, p3)], ty, pos, af, g⟩ (xBuild [(0, 7), (7, 1), (8, 1), (13, 1)] z99) := oBS [(0, 7), (7, 1), (8, 1), (13, 1)] z99 underlying99 rfl i99 rfl rfl rfl
theorem k21 : DXOk Pg ⟨d, .index 9 x y, ty, pos, af, g⟩ xIndexS := oJS underlying9
theorem k22 : DXOk Pg ⟨d, .convert 5 3 x, ty, pos, af, g⟩ (xCvt .i64) := oCI underlying5 underlying3
theorem k23 {x1 x2 : Operand} : DXOk Pg ⟨d, .slice 9 x (some x1) (some x2) none, ty, pos, af, g⟩ (xSstr true true) := oSS underlying9 true true rfl rfl
theorem k24 {p0 : Operand} : DXOk Pg ⟨d, .buildSlice 27 1 #[(0, p0)], ty, pos, af, g⟩ (xBuildSlice [(0, 1)] [.str []] false 1 1) := oBL [(0, 1)] z9 [.str []] false 1 underlying27 i9 rfl rfl rfl rfl rfl rfl rfl rfl
theorem k25 : DXOk Pg ⟨d, .alloc 50, ty, pos, af, g⟩ (xAlloc z50 0) := oB z50 0 i50 rfl rfl rfl
theorem k26 {p0 p1 p2 : Operand} : DXOk Pg ⟨d, .build 50 #[(0, p0), (1, p1), (2, p2)], ty, pos, af, g⟩ (xBuild [(0, 1), (1, 1), (2, 1)] z50) := oBA [(0, 1), (1, 1), (2, 1)] z50 underlying50 i3 i50 rfl rfl rfl
theorem k27 : DXOk Pg ⟨d, .store 50 x y, ty, pos, af, g⟩ (xStore 3) := oW 3 i50 rfl
theorem k28 : DXOk Pg ⟨d, .load 50 x, ty, pos, af, g⟩ (xLoadN 3) := oLN 3 underlying50 rfl i50 rfl
theorem k29 : DXOk Pg ⟨d, .build 50 #[], ty, pos, af, g⟩ (xBuild [] z50) := oBA [] z50 underlying50 i3 i50 rfl rfl rfl
theorem k30 : DXOk Pg ⟨d, .binOp .eql 50 x y t, ty, pos, af, g⟩ (xEqAgg [.int, .int, .int] false) := qQ (.array 3 3 _ .int underlying50 i3 rfl ⟨_, underlying3⟩ rfl) eqGuardType50
theorem k31 : DXOk Pg ⟨d, .indexAddr 50 x y, ty, pos, af, g⟩ (xIaddrA 3 1) := oIA 3 1 underlying50 i3 rfl
theorem k32 {x2 : Operand} : DXOk Pg ⟨d, .slice 9 x none (some x2) none, ty, pos, af, g⟩ (xSstr false true) := oSS underlying9 false true rfl rfl
theorem k33 : DXOk Pg ⟨d, .fieldAddr 40 x 0, ty, pos, af, g⟩ (xFaddr 0) := oFA 0 underlying40 rfl rfl i9 rfl
theorem k34 : DXOk Pg ⟨d, .fieldAddr 40 x 1, ty, pos, af, g⟩ (xFaddr 1) := oFA 1 underlying40 rfl rfl i3 rfl
theorem k35 : DXOk Pg ⟨d, .fieldAddr 40 x 2, ty, pos, af, g⟩ (xFaddr 2) := oFA 2 underlying40 rfl rfl i3 rfl
theorem k36 : DXOk Pg ⟨d, .fieldAddr 40 x 3, ty, pos, af, g⟩ (xFaddr 3) := oFA 3 underlying40 rfl rfl i3 rfl
theorem k37 : DXOk Pg ⟨d, .fieldAddr 40 x 4, ty, pos, af, g⟩ (xFaddr 4) := oFA 4 underlying40 rfl rfl i9 rfl
theorem k38 : DXOk Pg ⟨d, .call { callee := .builtin .len, args := #[x], argTypes := #[35] }, ty, pos, af, g⟩ xLenSlc := bLL underlying35
theorem k39 : DXOk Pg ⟨d, .indexAddr 35 x y, ty, pos, af, g⟩ (xIaddrS 5) := oIS 5 underlying35 i40 rfl
theorem k40 : DXOk Pg ⟨d, .load 40 x, ty, pos, af, g⟩ (xLoadN 5) := oLN 5 underlying40 rfl i40 rfl
theorem k41 : DXOk Pg ⟨d, .fieldAddr 37 x 2, ty, pos, af, g⟩ (xFaddr 2) := oFA 2 underlying37 rfl rfl i34 rfl
theorem k42 : DXOk Pg ⟨d, .load 34 x, ty, pos, af, g⟩ xLoad1 := oL underlying34 rfl
theorem k43 : DXOk Pg ⟨d, .call { callee := .builtin .len, args := #[x], argTypes := #[34] }, ty, pos, af, g⟩ xLenSlc := bLL underlying34
theorem k44 : DXOk Pg ⟨d, .indexAddr 34 x y, ty, pos, af, g⟩ (xIaddrS 3) := oIS 3 underlying34 i31 rfl
theorem k45 : DXOk Pg ⟨d, .load 31 x, ty, pos, af, g⟩ (xLoadN 3) := oLN 3 underlying31 rfl i31 rfl
theorem k46 : DXOk Pg ⟨d, .alloc 31, ty, pos, af, g⟩ (xAlloc z31 0) := oB z31 0 i31 rfl rfl rfl
theorem k47 : DXOk Pg ⟨d, .store 31 x y, ty, pos, af, g⟩ (xStore 3) := oW 3 i31 rfl
theorem k48 : DXOk Pg ⟨d, .fieldAddr 31 x 0, ty, pos, af, g⟩ (xFaddr 0) := oFA 0 underlying31 rfl rfl i9 rfl
theorem k49 : DXOk Pg ⟨d, .fieldAddr 31 x 1, ty, pos, af, g⟩ (xFaddr 1) := oFA 1 underlying31 rfl rfl i3 rfl
theorem k50 : DXOk Pg ⟨d, .fieldAddr 31 x 2, ty, pos, af, g⟩ (xFaddr 2) := oFA 2 underlying31 rfl rfl i3 rfl
theorem k51 : DXOk Pg ⟨d, .fieldAddr 37 x 0, ty, pos, af, g⟩ (xFaddr 0) := oFA 0 underlying37 rfl rfl i3 rfl
theorem k52 : DXOk Pg ⟨d, .fieldAddr 37 x 1, ty, pos, af, g⟩ (xFaddr 1) := oFA 1 underlying37 rfl rfl i3 rfl
theorem k53 : DXOk Pg ⟨d, .fieldAddr 37 x 3, ty, pos, af, g⟩ (xFaddr 3) := oFA 3 underlying37 rfl rfl i35 rfl
theorem k54 : DXOk Pg ⟨d, .load 35 x, ty, pos, af, g⟩ xLoad1 := oL underlying35 rfl
theorem k55 : DXOk Pg ⟨d, .fieldAddr 37 x 4, ty, pos, af, g⟩ (xFaddr 4) := oFA 4 underlying37 rfl rfl i35 rfl
theorem k56 : DXOk Pg ⟨d, .fieldAddr 37 x 5, ty, pos, af, g⟩ (xFaddr 5) := oFA 5 underlying37 rfl rfl i35 rfl
theorem k57 : DXOk Pg ⟨d, .convert 3 5 x, ty, pos, af, g⟩ (xCvt .u8) := oCI underlying3 underlying5
theorem k58 {p0 : Operand} : DXOk Pg ⟨d, .buildSlice 38 1 #[(0, p0)], ty, pos, af, g⟩ (xBuildSlice [(0, 1)] [.int .u8 (.ofNat 0)] true 1 1) := oBL [(0, 1)] z5 [.int .u8 (.ofNat 0)] true 1 underlying38 i5 rfl rfl rfl rfl rfl rfl rfl rfl
theorem k59 : DXOk Pg ⟨d, .call { callee := .builtin .append, args := #[x, y], argTypes := #[38, 38] }, ty, pos, af, g⟩ (xAppend 1 true) := bA 1 true underlying38 i5 underlying38 nofun rfl rfl rfl rfl rfl
theorem k60 : DXOk Pg ⟨d, .convert 38 9 x, ty, pos, af, g⟩ xB2s := oCB underlying38 underlying5 underlying9
theorem k61 : DXOk Pg ⟨d, .convert 9 38 x, ty, pos, af, g⟩ xS2b := oCS underlying9 underlying38 underlying5
theorem k62 : DXOk Pg ⟨d, .call { callee := .builtin .len, args := #[x], argTypes := #[38] }, ty, pos, af, g⟩ xLenSlc := bLL underlying38
theorem k63 : DXOk Pg ⟨d, .indexAddr 38 x y, ty, pos, af, g⟩ (xIaddrS 1) := oIS 1 underlying38 i5 rfl
theorem k64 : DXOk Pg ⟨d, .load 5 x, ty, pos, af, g⟩ xLoad1 := oL underlying5 rfl
theorem k65 : DXOk Pg ⟨d, .load 37 x, ty, pos, af, g⟩ (xLoadN 6) := oLN 6 underlying37 rfl i37 rfl
theorem k66 : DXOk Pg ⟨d, .call { callee := .builtin .append, args := #[x, y], argTypes := #[35, 35] }, ty, pos, af, g⟩ (xAppend 5 false) := bA 5 false underlying35 i40 underlying35 nofun rfl rfl rfl rfl rfl
theorem k67 : DXOk Pg ⟨d, .binOp .eql 23 x y t, ty, pos, af, g⟩ (xEqPtr false) := pQ ⟨_, _, underlying23, i99, by decide⟩
theorem k68 : DXOk Pg ⟨d, .fieldAddr 99 x 12, ty, pos, af, g⟩ (xFaddr 19) := oFA 19 underlying99 rfl rfl i3 rfl
theorem k69 : DXOk Pg ⟨d, .store 3 x y, ty, pos, af, g⟩ (xStore 1) := oW 1 i3 rfl
theorem k70 : DXOk Pg ⟨d, .fieldAddr 99 x 13, ty, pos, af, g⟩ (xFaddr 20) := oFA 20 underlying99 rfl rfl i41 rfl
theorem k71 : DXOk Pg ⟨d, .store 41 x y, ty, pos, af, g⟩ (xStore 1) := oW 1 i41 rfl
theorem k72 {x1 : Operand} : DXOk Pg ⟨d, .slice 9 x (some x1) none none, ty, pos, af, g⟩ (xSstr true false) := oSS underlying9 true false rfl rfl
theorem k73 : DXOk Pg ⟨d, .alloc 254, ty, pos, af, g⟩ (xAlloc z254 0) := oB z254 0 i254 rfl rfl rfl
theorem k74 {p0 p1 : Operand} : DXOk Pg ⟨d, .build 253 #[(0, p0), (1, p1)], ty, pos, af, g⟩ (xBuild [(0, 1), (1, 1)] z253) := oBS [(0, 1), (1, 1)] z253 underlying253 rfl i253 rfl rfl rfl
theorem k75 {p0 p1 p2 p3 p4 p5 p6 p7 p8 : Operand} : DXOk Pg ⟨d, .build 254 #[(0, p0), (1, p1), (2, p2), (3, p3), (4, p4), (5, p5), (6, p6), (7, p7), (8, p8)], ty, pos, af, g⟩ (xBuild [(0, 2), (2, 2), (4, 2), (6, 2), (8, 2), (10, 2), (12, 2), (14, 2), (16, 2)] z254) := oBA [(0, 2), (2, 2), (4, 2), (6, 2), (8, 2), (10, 2), (12, 2), (14, 2), (16, 2)] z254 underlying254 i253 i254 rfl rfl rfl
theorem k76 : DXOk Pg ⟨d, .store 254 x y, ty, pos, af, g⟩ (xStore 18) := oW 18 i254 rfl
theorem k77 : DXOk Pg ⟨d, .fieldAddr 253 x 1, ty, pos, af, g⟩ (xFaddr 1) := oFA 1 underlying253 rfl rfl i3 rfl
theorem k78 : DXOk Pg ⟨d, .index 254 x y, ty, pos, af, g⟩ (xIndexA true 9 2) := oJA true 9 2 underlying254 underlying253 i253 rfl rfl
theorem k79 : DXOk Pg ⟨d, .alloc 253, ty, pos, af, g⟩ (xAlloc z253 0) := oB z253 0 i253 rfl rfl rfl
theorem k80 : DXOk Pg ⟨d, .store 253 x y, ty, pos, af, g⟩ (xStore 2) := oW 2 i253 rfl
theorem k81 : DXOk Pg ⟨d, .fieldAddr 253 x 0, ty, pos, af, g⟩ (xFaddr 0) := oFA 0 underlying253 rfl rfl i3 rfl
theorem k82 : DXOk Pg ⟨d, .load 253 x, ty, pos, af, g⟩ (xLoadN 2) := oLN 2 underlying253 rfl i253 rfl
theorem k83 : DXOk Pg ⟨d, .alloc 257, ty, pos, af, g⟩ (xAlloc z257 0) := oB z257 0 i257 rfl rfl rfl
theorem k84 {p0 p1 p2 : Operand} : DXOk Pg ⟨d, .build 257 #[(0, p0), (1, p1), (2, p2)], ty, pos, af, g⟩ (xBuild [(0, 1), (1, 1), (2, 1)] z257) := oBA [(0, 1), (1, 1), (2, 1)] z257 underlying257 i256 i257 rfl rfl rfl
theorem k85 : DXOk Pg ⟨d, .store 257 x y, ty, pos, af, g⟩ (xStore 3) := oW 3 i257 rfl
theorem k86 : DXOk Pg ⟨d, .fieldAddr 243 x 1, ty, pos, af, g⟩ (xFaddr 1) := oFA 1 underlying243 rfl rfl i38 rfl
theorem k87 : DXOk Pg ⟨d, .load 38 x, ty, pos, af, g⟩ xLoad1 := oL underlying38 rfl
theorem k88 : DXOk Pg ⟨d, .call { callee := .builtin .unsafeString, args := #[x, y], argTypes := #[311, 3] }, ty, pos, af, g⟩ xUstr := bUS underlying311 rfl
theorem k89 : DXOk Pg ⟨d, .fieldAddr 347 x 3, ty, pos, af, g⟩ (xFaddr 3) := oFA 3 underlying347 rfl rfl i3 rfl
theorem k90 : DXOk Pg ⟨d, .fieldAddr 347 x 1, ty, pos, af, g⟩ (xFaddr 1) := oFA 1 underlying347 rfl rfl i3 rfl
theorem k91 : DXOk Pg ⟨d, .fieldAddr 347 x 4, ty, pos, af, g⟩ (xFaddr 4) := oFA 4 underlying347 rfl rfl i243 rfl
theorem k92 : DXOk Pg ⟨d, .fieldAddr 347 x 0, ty, pos, af, g⟩ (xFaddr 0) := oFA 0 underlying347 rfl rfl i9 rfl
theorem k93 : DXOk Pg ⟨d, .fieldAddr 347 x 2, ty, pos, af, g⟩ (xFaddr 2) := oFA 2 underlying347 rfl rfl i3 rfl
theorem k94 : DXOk Pg ⟨d, .fieldAddr 243 x 0, ty, pos, af, g⟩ (xFaddr 0) := oFA 0 underlying243 rfl rfl i241 rfl
theorem k95 : DXOk Pg ⟨d, .load 241 x, ty, pos, af, g⟩ xLoad1 := oL underlying241 rfl
theorem k96 : DXOk Pg ⟨d, .binOp .eql 241 x y t, ty, pos, af, g⟩ (xEqPtr false) := pQ ⟨_, _, underlying241, i243, by decide⟩
theorem k97 : DXOk Pg ⟨d, .convert 241 341 x, ty, pos, af, g⟩ xUTo := oCU underlying241 underlying341 i243 rfl
theorem k98 : DXOk Pg ⟨d, .convert 341 241 x, ty, pos, af, g⟩ (xUFrom [(243, 0), (347, 4)]) := oCV underlying341 underlying241 i243 rfl [(243, 0), (347, 4)] (by decide +kernel)
theorem k99 : DXOk Pg ⟨d, .store 241 x y, ty, pos, af, g⟩ (xStore 1) := oW 1 i241 rfl
theorem k100 : DXOk Pg ⟨d, .binOp .neq 241 x y t, ty, pos, af, g⟩ (xEqPtr true) := pR ⟨_, _, underlying241, i243, by decide⟩
theorem k101 : DXOk Pg ⟨d, .call { callee := .builtin .append, args := #[x, y], argTypes := #[38, 9] }, ty, pos, af, g⟩ (xAppend 1 true) := bA 1 true underlying38 i5 underlying9 nofun rfl rfl rfl rfl rfl
theorem k102 : DXOk Pg ⟨d, .store 38 x y, ty, pos, af, g⟩ (xStore 1) := oW 1 i38 rfl
theorem k103 {p0 p1 p2 p3 : Operand} : DXOk Pg ⟨d, .build 347 #[(0, p0), (1, p1), (2, p2), (3, p3)], ty, pos, af, g⟩ (xBuild [(0, 1), (1, 1), (2, 1), (3, 1)] z347) := oBS [(0, 1), (1, 1), (2, 1), (3, 1)] z347 underlying347 rfl i347 rfl rfl rfl
theorem k104 {p0 p1 p2 : Operand} : DXOk Pg ⟨d, .build 31 #[(0, p0), (1, p1), (2, p2)], ty, pos, af, g⟩ (xBuild [(0, 1), (1, 1), (2, 1)] z31) := oBS [(0, 1), (1, 1), (2, 1)] z31 underlying31 rfl i31 rfl rfl rfl
theorem k105 : DXOk Pg ⟨d, .fieldAddr 319 x 0, ty, pos, af, g⟩ (xFaddr 0) := oFA 0 underlying319 rfl rfl i9 rfl
theorem k106 : DXOk Pg ⟨d, .fieldAddr 319 x 1, ty, pos, af, g⟩ (xFaddr 1) := oFA 1 underlying319 rfl rfl i3 rfl
theorem k107 : DXOk Pg ⟨d, .fieldAddr 319 x 2, ty, pos, af, g⟩ (xFaddr 2) := oFA 2 underlying319 rfl rfl i4 rfl
theorem k108 : DXOk Pg ⟨d, .load 4 x, ty, pos, af, g⟩ xLoad1 := oL underlying4 rfl
theorem k109 : DXOk Pg ⟨d, .store 4 x y, ty, pos, af, g⟩ (xStore 1) := oW 1 i4 rfl
theorem k110 {p0 p1 p2 : Operand} : DXOk Pg ⟨d, .build 352 #[(0, p0), (1, p1), (2, p2)], ty, pos, af, g⟩ (xBuild [(0, 1), (1, 1), (2, 1)] z352) := oBS [(0, 1), (1, 1), (2, 1)] z352 underlying352 rfl i352 rfl rfl rfl
theorem k111 {p : Operand} : DXOk Pg ⟨d, .insert 354 x y p, ty, pos, af, g⟩ (xUpd (.atom .int)) := oYI underlying354 ⟨_, underlying3⟩
theorem k112 : DXOk Pg ⟨d, .alloc 338, ty, pos, af, g⟩ (xAlloc z338 0) := oB z338 0 i338 rfl rfl rfl
theorem k113 : DXOk Pg ⟨d, .fieldAddr 352 x 0, ty, pos, af, g⟩ (xFaddr 0) := oFA 0 underlying352 rfl rfl i3 rfl
theorem k114 : DXOk Pg ⟨d, .fieldAddr 338 x 0, ty, pos, af, g⟩ (xFaddr 0) := oFA 0 underlying338 rfl rfl i9 rfl
theorem k115 : DXOk Pg ⟨d, .store 9 x y, ty, pos, af, g⟩ (xStore 1) := oW 1 i9 rfl
theorem k116 : DXOk Pg ⟨d, .fieldAddr 352 x 1, ty, pos, af, g⟩ (xFaddr 1) := oFA 1 underlying352 rfl rfl i3 rfl
theorem k117 : DXOk Pg ⟨d, .fieldAddr 338 x 1, ty, pos, af, g⟩ (xFaddr 1) := oFA 1 underlying338 rfl rfl i9 rfl
theorem k118 : DXOk Pg ⟨d, .load 338 x, ty, pos, af, g⟩ (xLoadN 3) := oLN 3 underlying338 rfl i338 rfl
theorem k119 : DXOk Pg ⟨d, .fieldAddr 352 x 2, ty, pos, af, g⟩ (xFaddr 2) := oFA 2 underlying352 rfl rfl i3 rfl
theorem k120 : DXOk Pg ⟨d, .store 338 x y, ty, pos, af, g⟩ (xStore 3) := oW 3 i338 rfl
theorem k121 : DXOk Pg ⟨d, .fieldAddr 338 x 2, ty, pos, af, g⟩ (xFaddr 2) := oFA 2 underlying338 rfl rfl i27 rfl
theorem k122 : DXOk Pg ⟨d, .lookup 354 x y true, ty, pos, af, g⟩ (xLookup (.atom .int) (.agg [.int .i64 (.ofNat 0), .int .i64 (.ofNat 0), .int .i64 (.ofNat 0)]) true) := oK (.agg [.int .i64 (.ofNat 0), .int .i64 (.ofNat 0), .int .i64 (.ofNat 0)]) underlying354 ⟨_, underlying3⟩ i352 rfl rfl
theorem k123 : DXOk Pg ⟨d, .alloc 352, ty, pos, af, g⟩ (xAlloc z352 0) := oB z352 0 i352 rfl rfl rfl
theorem k124 : DXOk Pg ⟨d, .store 352 x y, ty, pos, af, g⟩ (xStore 3) := oW 3 i352 rfl
theorem k125 : DXOk Pg ⟨d, .load 352 x, ty, pos, af, g⟩ (xLoadN 3) := oLN 3 underlying352 rfl i352 rfl
theorem k126 : DXOk Pg ⟨d, .alloc 40, ty, pos, af, g⟩ (xAlloc z40 0) := oB z40 0 i40 rfl rfl rfl
theorem k127 {p0 p1 : Operand} : DXOk Pg ⟨d, .build 319 #[(0, p0), (1, p1)], ty, pos, af, g⟩ (xBuild [(0, 1), (1, 1)] z319) := oBS [(0, 1), (1, 1)] z319 underlying319 rfl i319 rfl rfl rfl
theorem k128 {p0 p1 p2 p3 : Operand} : DXOk Pg ⟨d, .build 40 #[(0, p0), (1, p1), (2, p2), (3, p3)], ty, pos, af, g⟩ (xBuild [(0, 1), (1, 1), (2, 1), (3, 1)] z40) := oBS [(0, 1), (1, 1), (2, 1), (3, 1)] z40 underlying40 rfl i40 rfl rfl rfl
theorem k129 : DXOk Pg ⟨d, .store 40 x y, ty, pos, af, g⟩ (xStore 5) := oW 5 i40 rfl
theorem k130 : DXOk Pg ⟨d, .alloc 37, ty, pos, af, g⟩ (xAlloc z37 0) := oB z37 0 i37 rfl rfl rfl
theorem k131 {p0 p1 : Operand} : DXOk Pg ⟨d, .build 37 #[(0, p0), (1, p1)], ty, pos, af, g⟩ (xBuild [(0, 1), (1, 1)] z37) := oBS [(0, 1), (1, 1)] z37 underlying37 rfl i37 rfl rfl rfl
theorem k132 : DXOk Pg ⟨d, .store 37 x y, ty, pos, af, g⟩ (xStore 6) := oW 6 i37 rfl
theorem k133 {p0 : Operand} : DXOk Pg ⟨d, .buildSlice 34 1 #[(0, p0)], ty, pos, af, g⟩ (xBuildSlice [(0, 3)] [.str [], .int .i64 (.ofNat 0), .int .i64 (.ofNat 0)] false 1 3) := oBL [(0, 3)] z31 [.str [], .int .i64 (.ofNat 0), .int .i64 (.ofNat 0)] false 3 underlying34 i31 rfl rfl rfl rfl rfl rfl rfl rfl
theorem k134 : DXOk Pg ⟨d, .call { callee := .builtin .append, args := #[x, y], argTypes := #[34, 34] }, ty, pos, af, g⟩ (xAppend 3 false) := bA 3 false underlying34 i31 underlying34 nofun rfl rfl rfl rfl rfl
theorem k135 : DXOk Pg ⟨d, .store 34 x y, ty, pos, af, g⟩ (xStore 1) := oW 1 i34 rfl
theorem k136 : DXOk Pg ⟨d, .index 257 x y, ty, pos, af, g⟩ (xIndexA false 3 1) := oJA false 3 1 underlying257 underlying256 i256 rfl rfl
theorem k137 {p0 : Operand} : DXOk Pg ⟨d, .buildSlice 35 1 #[(0, p0)], ty, pos, af, g⟩ (xBuildSlice [(0, 5)] [.str [], .int .i64 (.ofNat 0), .int .i64 (.ofNat 0), .int .i64 (.ofNat 0), .str []] false 1 5) := oBL [(0, 5)] z40 [.str [], .int .i64 (.ofNat 0), .int .i64 (.ofNat 0), .int .i64 (.ofNat 0), .str []] false 5 underlying35 i40 rfl rfl rfl rfl rfl rfl rfl rfl
theorem k138 : DXOk Pg ⟨d, .store 35 x y, ty, pos, af, g⟩ (xStore 1) := oW 1 i35 rfl
theorem k139 : DXOk Pg ⟨d, .alloc 76, ty, pos, af, g⟩ (xAlloc z76 0) := oB z76 0 i76 rfl rfl rfl
theorem k140 : DXOk Pg ⟨d, .build 76 #[], ty, pos, af, g⟩ (xBuild [] z76) := oBS [] z76 underlying76 rfl i76 rfl rfl rfl
theorem k141 : DXOk Pg ⟨d, .store 76 x y, ty, pos, af, g⟩ (xStore 5) := oW 5 i76 rfl
theorem k142 : DXOk Pg ⟨d, .load 76 x, ty, pos, af, g⟩ (xLoadN 5) := oLN 5 underlying76 rfl i76 rfl
theorem k143 : DXOk Pg ⟨d, .alloc 78, ty, pos, af, g⟩ (xAlloc z78 0) := oB z78 0 i78 rfl rfl rfl
theorem k144 {p0 p1 : Operand} : DXOk Pg ⟨d, .build 78 #[(0, p0), (1, p1)], ty, pos, af, g⟩ (xBuild [(0, 1), (1, 1)] z78) := oBS [(0, 1), (1, 1)] z78 underlying78 rfl i78 rfl rfl rfl
theorem k145 : DXOk Pg ⟨d, .store 78 x y, ty, pos, af, g⟩ (xStore 10) := oW 10 i78 rfl
theorem k146 : DXOk Pg ⟨d, .fieldAddr 78 x 2, ty, pos, af, g⟩ (xFaddr 2) := oFA 2 underlying78 rfl rfl i31 rfl
theorem k147 : DXOk Pg ⟨d, .fieldAddr 78 x 3, ty, pos, af, g⟩ (xFaddr 5) := oFA 5 underlying78 rfl rfl i76 rfl
theorem k148 : DXOk Pg ⟨d, .fieldAddr 76 x 3, ty, pos, af, g⟩ (xFaddr 3) := oFA 3 underlying76 rfl rfl i3 rfl
theorem k149 : DXOk Pg ⟨d, .load 78 x, ty, pos, af, g⟩ (xLoadN 10) := oLN 10 underlying78 rfl i78 rfl
theorem k150 : DXOk Pg ⟨d, .store 5 x y, ty, pos, af, g⟩ (xStore 1) := oW 1 i5 rfl
theorem k151 : DXOk Pg ⟨d, .alloc 210, ty, pos, af, g⟩ (xAlloc z210 0) := oB z210 0 i210 rfl rfl rfl
theorem k152 : DXOk Pg ⟨d, .fieldAddr 210 x 0, ty, pos, af, g⟩ (xFaddr 0) := oFA 0 underlying210 rfl rfl i57 rfl
theorem k153 : DXOk Pg ⟨d, .fieldAddr 57 x 1, ty, pos, af, g⟩ (xFaddr 3) := oFA 3 underlying57 rfl rfl i27 rfl
theorem k154 : DXOk Pg ⟨d, .load 210 x, ty, pos, af, g⟩ (xLoadN 7) := oLN 7 underlying210 rfl i210 rfl
theorem k155 : DXOk Pg ⟨d, .store 210 x y, ty, pos, af, g⟩ (xStore 7) := oW 7 i210 rfl
theorem k156 : DXOk Pg ⟨d, .binOp .eql 60 x y t, ty, pos, af, g⟩ (xEqPtr false) := pQ ⟨_, _, underlying60, i170, by decide⟩
theorem k157 : DXOk Pg ⟨d, .fieldAddr 170 x 1, ty, pos, af, g⟩ (xFaddr 1) := oFA 1 underlying170 rfl rfl i168 rfl
theorem k158 : DXOk Pg ⟨d, .load 168 x, ty, pos, af, g⟩ xLoad1 := oL underlying168 rfl
theorem k159 : DXOk Pg ⟨d, .lookup 168 x y true, ty, pos, af, g⟩ (xLookup (.row [.str, .int, .int]) (.agg [.str [], .int .i64 (.ofNat 0), .int .i64 (.ofNat 0), .nils, .int .i64 (.ofNat 0), .int .i64 (.ofNat 0), .int .i64 (.ofNat 0)]) true) := oK (.agg [.str [], .int .i64 (.ofNat 0), .int .i64 (.ofNat 0), .nils, .int .i64 (.ofNat 0), .int .i64 (.ofNat 0), .int .i64 (.ofNat 0)]) underlying168 ⟨underlying31, rfl, ⟨by decide, rfl, underlying9, ⟨by decide, rfl, ⟨_, underlying3⟩, ⟨by decide, rfl, ⟨_, underlying3⟩, trivial⟩⟩⟩⟩ i210 rfl rfl
theorem k160 : DXOk Pg ⟨d, .fieldAddr 210 x 1, ty, pos, af, g⟩ (xFaddr 5) := oFA 5 underlying210 rfl rfl i3 rfl
theorem k161 : DXOk Pg ⟨d, .build 210 #[], ty, pos, af, g⟩ (xBuild [] z210) := oBS [] z210 underlying210 rfl i210 rfl rfl rfl
theorem k162 : DXOk Pg ⟨d, .alloc 72, ty, pos, af, g⟩ (xAlloc z72 0) := oB z72 0 i72 rfl rfl rfl
theorem k163 : DXOk Pg ⟨d, .fieldAddr 143 x 0, ty, pos, af, g⟩ (xFaddr 0) := oFA 0 underlying143 rfl rfl i60 rfl
theorem k164 : DXOk Pg ⟨d, .load 60 x, ty, pos, af, g⟩ xLoad1 := oL underlying60 rfl
theorem k165 : DXOk Pg ⟨d, .fieldAddr 143 x 2, ty, pos, af, g⟩ (xFaddr 2) := oFA 2 underlying143 rfl rfl i3 rfl
theorem k166 : DXOk Pg ⟨d, .fieldAddr 210 x 2, ty, pos, af, g⟩ (xFaddr 6) := oFA 6 underlying210 rfl rfl i3 rfl
theorem k167 : DXOk Pg ⟨d, .build 72 #[], ty, pos, af, g⟩ (xBuild [] z72) := oBS [] z72 underlying72 rfl i72 rfl rfl rfl
theorem k168 : DXOk Pg ⟨d, .store 72 x y, ty, pos, af, g⟩ (xStore 6) := oW 6 i72 rfl
theorem k169 : DXOk Pg ⟨d, .load 57 x, ty, pos, af, g⟩ (xLoadN 5) := oLN 5 underlying57 rfl i57 rfl
theorem k170 {p0 p1 : Operand} : DXOk Pg ⟨d, .build 72 #[(0, p0), (1, p1)], ty, pos, af, g⟩ (xBuild [(0, 5), (5, 1)] z72) := oBS [(0, 5), (5, 1)] z72 underlying72 rfl i72 rfl rfl rfl
theorem k171 : DXOk Pg ⟨d, .fieldAddr 57 x 0, ty, pos, af, g⟩ (xFaddr 0) := oFA 0 underlying57 rfl rfl i31 rfl
theorem k172 : DXOk Pg ⟨d, .load 143 x, ty, pos, af, g⟩ (xLoadN 3) := oLN 3 underlying143 rfl i143 rfl
theorem k173 : DXOk Pg ⟨d, .fieldAddr 72 x 0, ty, pos, af, g⟩ (xFaddr 0) := oFA 0 underlying72 rfl rfl i57 rfl
theorem k174 : DXOk Pg ⟨d, .load 72 x, ty, pos, af, g⟩ (xLoadN 6) := oLN 6 underlying72 rfl i72 rfl
theorem k175 : DXOk Pg ⟨d, .alloc 219, ty, pos, af, g⟩ (xAlloc z219 0) := oB z219 0 i219 rfl rfl rfl
theorem k176 : DXOk Pg ⟨d, .binOp .eql 61 x y t, ty, pos, af, g⟩ (xEqPtr false) := pQ ⟨_, _, underlying61, i173, by decide⟩
theorem k177 {p0 p1 : Operand} : DXOk Pg ⟨d, .buildSlice 34 2 #[(0, p0), (1, p1)], ty, pos, af, g⟩ (xBuildSlice [(0, 3), (3, 3)] [.str [], .int .i64 (.ofNat 0), .int .i64 (.ofNat 0), .str [], .int .i64 (.ofNat 0), .int .i64 (.ofNat 0)] false 2 3) := oBL [(0, 3), (3, 3)] z31 [.str [], .int .i64 (.ofNat 0), .int .i64 (.ofNat 0), .str [], .int .i64 (.ofNat 0), .int .i64 (.ofNat 0)] false 3 underlying34 i31 rfl rfl rfl rfl rfl rfl rfl rfl
theorem k178 : DXOk Pg ⟨d, .fieldAddr 173 x 1, ty, pos, af, g⟩ (xFaddr 1) := oFA 1 underlying173 rfl rfl i171 rfl
theorem k179 : DXOk Pg ⟨d, .load 171 x, ty, pos, af, g⟩ xLoad1 := oL underlying171 rfl
theorem k180 : DXOk Pg ⟨d, .lookup 171 x y true, ty, pos, af, g⟩ (xLookup (.row [.str, .int, .int]) (.agg [.str [], .int .i64 (.ofNat 0), .int .i64 (.ofNat 0), .bool false, .str [], .int .i64 (.ofNat 0), .int .i64 (.ofNat 0), .nils, .int .i64 (.ofNat 0), .int .i64 (.ofNat 0)]) true) := oK (.agg [.str [], .int .i64 (.ofNat 0), .int .i64 (.ofNat 0), .bool false, .str [], .int .i64 (.ofNat 0), .int .i64 (.ofNat 0), .nils, .int .i64 (.ofNat 0), .int .i64 (.ofNat 0)]) underlying171 ⟨underlying31, rfl, ⟨by decide, rfl, underlying9, ⟨by decide, rfl, ⟨_, underlying3⟩, ⟨by decide, rfl, ⟨_, underlying3⟩, trivial⟩⟩⟩⟩ i219 rfl rfl
theorem k181 : DXOk Pg ⟨d, .store 219 x y, ty, pos, af, g⟩ (xStore 10) := oW 10 i219 rfl
theorem k182 : DXOk Pg ⟨d, .fieldAddr 219 x 3, ty, pos, af, g⟩ (xFaddr 9) := oFA 9 underlying219 rfl rfl i3 rfl
theorem k183 : DXOk Pg ⟨d, .build 219 #[], ty, pos, af, g⟩ (xBuild [] z219) := oBS [] z219 underlying219 rfl i219 rfl rfl rfl
theorem k184 : DXOk Pg ⟨d, .alloc 74, ty, pos, af, g⟩ (xAlloc z74 0) := oB z74 0 i74 rfl rfl rfl
theorem k185 : DXOk Pg ⟨d, .fieldAddr 143 x 1, ty, pos, af, g⟩ (xFaddr 1) := oFA 1 underlying143 rfl rfl i61 rfl
theorem k186 : DXOk Pg ⟨d, .load 61 x, ty, pos, af, g⟩ xLoad1 := oL underlying61 rfl
theorem k187 : DXOk Pg ⟨d, .fieldAddr 74 x 1, ty, pos, af, g⟩ (xFaddr 1) := oFA 1 underlying74 rfl rfl i3 rfl
theorem k188 : DXOk Pg ⟨d, .load 74 x, ty, pos, af, g⟩ (xLoadN 9) := oLN 9 underlying74 rfl i74 rfl
theorem k189 : DXOk Pg ⟨d, .store 74 x y, ty, pos, af, g⟩ (xStore 9) := oW 9 i74 rfl
theorem k190 {p0 p1 p2 : Operand} : DXOk Pg ⟨d, .build 143 #[(0, p0), (1, p1), (2, p2)], ty, pos, af, g⟩ (xBuild [(0, 1), (1, 1), (2, 1)] z143) := oBS [(0, 1), (1, 1), (2, 1)] z143 underlying143 rfl i143 rfl rfl rfl
theorem k191 : DXOk Pg ⟨d, .alloc 143, ty, pos, af, g⟩ (xAlloc z143 0) := oB z143 0 i143 rfl rfl rfl
theorem k192 : DXOk Pg ⟨d, .store 143 x y, ty, pos, af, g⟩ (xStore 3) := oW 3 i143 rfl
theorem k193 : DXOk Pg ⟨d, .fieldAddr 74 x 2, ty, pos, af, g⟩ (xFaddr 2) := oFA 2 underlying74 rfl rfl i9 rfl
theorem k194 : DXOk Pg ⟨d, .lookup 144 x y false, ty, pos, af, g⟩ (xLookup (.atom .str) (.one (.int .i64 (.ofNat 0))) false) := oK (.one (.int .i64 (.ofNat 0))) underlying144 underlying9 i3 rfl rfl
theorem k195 {p : Operand} : DXOk Pg ⟨d, .mapUpdate 144 x y p, ty, pos, af, g⟩ (xUpd (.atom .str)) := oY underlying144 underlying9
theorem k196 : DXOk Pg ⟨d, .fieldAddr 74 x 0, ty, pos, af, g⟩ (xFaddr 0) := oFA 0 underlying74 rfl rfl i70 rfl
theorem k197 : DXOk Pg ⟨d, .load 70 x, ty, pos, af, g⟩ xLoad1 := oL underlying70 rfl
theorem k198 {p0 : Operand} : DXOk Pg ⟨d, .buildSlice 70 1 #[(0, p0)], ty, pos, af, g⟩ (xBuildSlice [(0, 6)] [.str [], .int .i64 (.ofNat 0), .int .i64 (.ofNat 0), .nils, .int .i64 (.ofNat 0), .int .i64 (.ofNat 0)] false 1 6) := oBL [(0, 6)] z72 [.str [], .int .i64 (.ofNat 0), .int .i64 (.ofNat 0), .nils, .int .i64 (.ofNat 0), .int .i64 (.ofNat 0)] false 6 underlying70 i72 rfl rfl rfl rfl rfl rfl rfl rfl
theorem k199 : DXOk Pg ⟨d, .call { callee := .builtin .append, args := #[x, y], argTypes := #[70, 70] }, ty, pos, af, g⟩ (xAppend 6 false) := bA 6 false underlying70 i72 underlying70 nofun rfl rfl rfl rfl rfl
theorem k200 : DXOk Pg ⟨d, .store 70 x y, ty, pos, af, g⟩ (xStore 1) := oW 1 i70 rfl
theorem k201 : DXOk Pg ⟨d, .fieldAddr 170 x 3, ty, pos, af, g⟩ (xFaddr 3) := oFA 3 underlying170 rfl rfl i3 rfl
theorem k202 : DXOk Pg ⟨d, .fieldAddr 173 x 3, ty, pos, af, g⟩ (xFaddr 3) := oFA 3 underlying173 rfl rfl i3 rfl
theorem k203 : DXOk Pg ⟨d, .fieldAddr 99 x 1, ty, pos, af, g⟩ (xFaddr 7) := oFA 7 underlying99 rfl rfl i60 rfl
theorem k204 : DXOk Pg ⟨d, .fieldAddr 99 x 2, ty, pos, af, g⟩ (xFaddr 8) := oFA 8 underlying99 rfl rfl i61 rfl
theorem k205 : DXOk Pg ⟨d, .alloc 97, ty, pos, af, g⟩ (xAlloc z97 0) := oB z97 0 i97 rfl rfl rfl
theorem k206 {p0 p1 : Operand} : DXOk Pg ⟨d, .build 97 #[(0, p0), (1, p1)], ty, pos, af, g⟩ (xBuild [(0, 1), (1, 1)] z97) := oBA [(0, 1), (1, 1)] z97 underlying97 i3 i97 rfl rfl rfl
theorem k207 : DXOk Pg ⟨d, .store 97 x y, ty, pos, af, g⟩ (xStore 2) := oW 2 i97 rfl
theorem k208 : DXOk Pg ⟨d, .load 97 x, ty, pos, af, g⟩ (xLoadN 2) := oLN 2 underlying97 rfl i97 rfl
theorem k209 : DXOk Pg ⟨d, .fieldAddr 99 x 8, ty, pos, af, g⟩ (xFaddr 14) := oFA 14 underlying99 rfl rfl i97 rfl
theorem k210 : DXOk Pg ⟨d, .binOp .neq 97 x y t, ty, pos, af, g⟩ (xEqAgg [.int, .int] true) := qR (.array 2 3 _ .int underlying97 i3 rfl ⟨_, underlying3⟩ rfl) eqGuardType97
theorem k211 : DXOk Pg ⟨d, .fieldAddr 99 x 7, ty, pos, af, g⟩ (xFaddr 13) := oFA 13 underlying99 rfl rfl i92 rfl
theorem k212 : DXOk Pg ⟨d, .load 92 x, ty, pos, af, g⟩ xLoad1 := oL underlying92 rfl
theorem k213 : DXOk Pg ⟨d, .call { callee := .builtin .clear, args := #[x], argTypes := #[92] }, ty, pos, af, g⟩ xClearM := bClM underlying92
theorem k214 : DXOk Pg ⟨d, .fieldAddr 67 x 3, ty, pos, af, g⟩ (xFaddr 5) := oFA 5 underlying67 rfl rfl i65 rfl
theorem k215 : DXOk Pg ⟨d, .load 65 x, ty, pos, af, g⟩ xLoad1 := oL underlying65 rfl
theorem k216 : DXOk Pg ⟨d, .call { callee := .builtin .len, args := #[x], argTypes := #[65] }, ty, pos, af, g⟩ xLenSlc := bLL underlying65
theorem k217 : DXOk Pg ⟨d, .indexAddr 65 x y, ty, pos, af, g⟩ (xIaddrS 3) := oIS 3 underlying65 i227 rfl
theorem k218 : DXOk Pg ⟨d, .load 227 x, ty, pos, af, g⟩ (xLoadN 3) := oLN 3 underlying227 rfl i227 rfl
theorem k219 : DXOk Pg ⟨d, .alloc 227, ty, pos, af, g⟩ (xAlloc z227 0) := oB z227 0 i227 rfl rfl rfl
theorem k220 : DXOk Pg ⟨d, .store 227 x y, ty, pos, af, g⟩ (xStore 3) := oW 3 i227 rfl
theorem k221 : DXOk Pg ⟨d, .fieldAddr 227 x 0, ty, pos, af, g⟩ (xFaddr 0) := oFA 0 underlying227 rfl rfl i225 rfl
theorem k222 : DXOk Pg ⟨d, .load 225 x, ty, pos, af, g⟩ xLoad1 := oL underlying225 rfl
theorem k223 : DXOk Pg ⟨d, .call { callee := .builtin .len, args := #[x], argTypes := #[225] }, ty, pos, af, g⟩ xLenSlc := bLL underlying225
theorem k224 : DXOk Pg ⟨d, .indexAddr 225 x y, ty, pos, af, g⟩ (xIaddrS 3) := oIS 3 underlying225 i230 rfl
theorem k225 : DXOk Pg ⟨d, .load 230 x, ty, pos, af, g⟩ (xLoadN 3) := oLN 3 underlying230 rfl i230 rfl
theorem k226 : DXOk Pg ⟨d, .alloc 230, ty, pos, af, g⟩ (xAlloc z230 0) := oB z230 0 i230 rfl rfl rfl
theorem k227 : DXOk Pg ⟨d, .store 230 x y, ty, pos, af, g⟩ (xStore 3) := oW 3 i230 rfl
theorem k228 : DXOk Pg ⟨d, .fieldAddr 230 x 0, ty, pos, af, g⟩ (xFaddr 0) := oFA 0 underlying230 rfl rfl i3 rfl
theorem k229 : DXOk Pg ⟨d, .fieldAddr 230 x 2, ty, pos, af, g⟩ (xFaddr 2) := oFA 2 underlying230 rfl rfl i3 rfl
theorem k230 : DXOk Pg ⟨d, .fieldAddr 230 x 1, ty, pos, af, g⟩ (xFaddr 1) := oFA 1 underlying230 rfl rfl i3 rfl
theorem k231 : DXOk Pg ⟨d, .fieldAddr 67 x 2, ty, pos, af, g⟩ (xFaddr 4) := oFA 4 underlying67 rfl rfl i9 rfl
theorem k232 : DXOk Pg ⟨d, .fieldAddr 227 x 1, ty, pos, af, g⟩ (xFaddr 1) := oFA 1 underlying227 rfl rfl i3 rfl
theorem k233 : DXOk Pg ⟨d, .fieldAddr 151 x 1, ty, pos, af, g⟩ (xFaddr 6) := oFA 6 underlying151 rfl rfl i78 rfl
theorem k234 : DXOk Pg ⟨d, .fieldAddr 151 x 0, ty, pos, af, g⟩ (xFaddr 0) := oFA 0 underlying151 rfl rfl i67 rfl
theorem k235 : DXOk Pg ⟨d, .fieldAddr 67 x 0, ty, pos, af, g⟩ (xFaddr 0) := oFA 0 underlying67 rfl rfl i31 rfl
theorem k236 : DXOk Pg ⟨d, .fieldAddr 227 x 2, ty, pos, af, g⟩ (xFaddr 2) := oFA 2 underlying227 rfl rfl i4 rfl
theorem k237 : DXOk Pg ⟨d, .load 67 x, ty, pos, af, g⟩ (xLoadN 6) := oLN 6 underlying67 rfl i67 rfl
theorem k238 : DXOk Pg ⟨d, .fieldAddr 151 x 2, ty, pos, af, g⟩ (xFaddr 16) := oFA 16 underlying151 rfl rfl i3 rfl
theorem k239 : DXOk Pg ⟨d, .fieldAddr 67 x 1, ty, pos, af, g⟩ (xFaddr 3) := oFA 3 underlying67 rfl rfl i3 rfl
theorem k240 : DXOk Pg ⟨d, .fieldAddr 78 x 0, ty, pos, af, g⟩ (xFaddr 0) := oFA 0 underlying78 rfl rfl i3 rfl
theorem k241 : DXOk Pg ⟨d, .load 151 x, ty, pos, af, g⟩ (xLoadN 17) := oLN 17 underlying151 rfl i151 rfl
theorem k242 : DXOk Pg ⟨d, .fieldAddr 76 x 0, ty, pos, af, g⟩ (xFaddr 0) := oFA 0 underlying76 rfl rfl i4 rfl
theorem k243 {p0 p1 p2 : Operand} : DXOk Pg ⟨d, .buildSlice 307 3 #[(0, p0), (1, p1), (2, p2)], ty, pos, af, g⟩ (xBuildSlice [(0, 1), (1, 1), (2, 1)] [.int .i64 (.ofNat 0), .int .i64 (.ofNat 0), .int .i64 (.ofNat 0)] false 3 1) := oBL [(0, 1), (1, 1), (2, 1)] z160 [.int .i64 (.ofNat 0), .int .i64 (.ofNat 0), .int .i64 (.ofNat 0)] false 1 underlying307 i160 rfl rfl rfl rfl rfl rfl rfl rfl
theorem k244 : DXOk Pg ⟨d, .call { callee := .builtin .len, args := #[x], argTypes := #[307] }, ty, pos, af, g⟩ xLenSlc := bLL underlying307
theorem k245 : DXOk Pg ⟨d, .indexAddr 307 x y, ty, pos, af, g⟩ (xIaddrS 1) := oIS 1 underlying307 i160 rfl
theorem k246 : DXOk Pg ⟨d, .load 160 x, ty, pos, af, g⟩ xLoad1 := oL underlying160 rfl
theorem k247 : DXOk Pg ⟨d, .makeSlice 38 x y, ty, pos, af, g⟩ (xMake 1 true z5) := oMS 1 true z5 underlying38 i5 rfl rfl rfl rfl rfl rfl
theorem k248 : DXOk Pg ⟨d, .alloc 9, ty, pos, af, g⟩ (xAlloc z9 0) := oB z9 0 i9 rfl rfl rfl
theorem k249 : DXOk Pg ⟨d, .alloc 243, ty, pos, af, g⟩ (xAlloc z243 243) := oB z243 243 i243 rfl rfl rfl
theorem k250 : DXOk Pg ⟨d, .fieldAddr 78 x 1, ty, pos, af, g⟩ (xFaddr 1) := oFA 1 underlying78 rfl rfl i3 rfl
theorem k251 {x2 : Operand} : DXOk Pg ⟨d, .slice 65 x none (some x2) none, ty, pos, af, g⟩ (xSlice 3 false true false) := oSL 3 underlying65 i227 rfl false true false rfl rfl rfl
theorem k252 {p0 p1 p2 p3 p4 p5 : Operand} : DXOk Pg ⟨d, .buildSlice 96 6 #[(0, p0), (1, p1), (2, p2), (3, p3), (4, p4), (5, p5)], ty, pos, af, g⟩ (xBuildSlice [(0, 1), (1, 1), (2, 1), (3, 1), (4, 1), (5, 1)] [.int .i64 (.ofNat 0), .int .i64 (.ofNat 0), .int .i64 (.ofNat 0), .int .i64 (.ofNat 0), .int .i64 (.ofNat 0), .int .i64 (.ofNat 0)] false 6 1) := oBL [(0, 1), (1, 1), (2, 1), (3, 1), (4, 1), (5, 1)] z3 [.int .i64 (.ofNat 0), .int .i64 (.ofNat 0), .int .i64 (.ofNat 0), .int .i64 (.ofNat 0), .int .i64 (.ofNat 0), .int .i64 (.ofNat 0)] false 1 underlying96 i3 rfl rfl rfl rfl rfl rfl rfl rfl
theorem k253 : DXOk Pg ⟨d, .call { callee := .builtin .len, args := #[x], argTypes := #[96] }, ty, pos, af, g⟩ xLenSlc := bLL underlying96
theorem k254 : DXOk Pg ⟨d, .indexAddr 96 x y, ty, pos, af, g⟩ (xIaddrS 1) := oIS 1 underlying96 i3 rfl
theorem k255 {p0 p1 p2 : Operand} : DXOk Pg ⟨d, .build 151 #[(0, p0), (1, p1), (2, p2)], ty, pos, af, g⟩ (xBuild [(0, 6), (6, 10), (16, 1)] z151) := oBS [(0, 6), (6, 10), (16, 1)] z151 underlying151 rfl i151 rfl rfl rfl
theorem k256 : DXOk Pg ⟨d, .alloc 151, ty, pos, af, g⟩ (xAlloc z151 0) := oB z151 0 i151 rfl rfl rfl
theorem k257 : DXOk Pg ⟨d, .store 151 x y, ty, pos, af, g⟩ (xStore 17) := oW 17 i151 rfl
theorem k258 : DXOk Pg ⟨d, .load 41 x, ty, pos, af, g⟩ xLoad1 := oL underlying41 rfl
theorem k259 : DXOk Pg ⟨d, .fieldAddr 108 x 0, ty, pos, af, g⟩ (xFaddr 0) := oFA 0 underlying108 rfl rfl i9 rfl
theorem k260 : DXOk Pg ⟨d, .fieldAddr 108 x 1, ty, pos, af, g⟩ (xFaddr 1) := oFA 1 underlying108 rfl rfl i3 rfl
theorem k261 {p0 p1 p2 p3 : Operand} : DXOk Pg ⟨d, .build 46 #[(0, p0), (1, p1), (2, p2), (4, p3)], ty, pos, af, g⟩ (xBuild [(0, 1), (1, 1), (2, 1), (4, 1)] z46) := oBS [(0, 1), (1, 1), (2, 1), (4, 1)] z46 underlying46 rfl i46 rfl rfl rfl
theorem k262 {p0 : Operand} : DXOk Pg ⟨d, .buildSlice 41 1 #[(0, p0)], ty, pos, af, g⟩ (xBuildSlice [(0, 5)] [.str [], .int .i64 (.ofNat 0), .int .i64 (.ofNat 0), .bool false, .str []] false 1 5) := oBL [(0, 5)] z46 [.str [], .int .i64 (.ofNat 0), .int .i64 (.ofNat 0), .bool false, .str []] false 5 underlying41 i46 rfl rfl rfl rfl rfl rfl rfl rfl
theorem k263 : DXOk Pg ⟨d, .call { callee := .builtin .append, args := #[x, y], argTypes := #[41, 41] }, ty, pos, af, g⟩ (xAppend 5 false) := bA 5 false underlying41 i46 underlying41 nofun rfl rfl rfl rfl rfl
theorem k264 : DXOk Pg ⟨d, .binOp .eql 34 x y t, ty, pos, af, g⟩ (xEqNil .slice false) := oQ ⟨_, underlying34⟩
theorem k265 : DXOk Pg ⟨d, .buildSlice 34 0 #[], ty, pos, af, g⟩ (xBuildSlice [] [] false 0 3) := oBL [] z31 [] false 3 underlying34 i31 rfl rfl rfl rfl rfl rfl rfl rfl
theorem k266 : DXOk Pg ⟨d, .binOp .eql 31 x y t, ty, pos, af, g⟩ (xEqAgg [.str, .int, .int] false) := qQ (.struct underlying31 rfl ⟨by decide, rfl, underlying9, ⟨by decide, rfl, ⟨_, underlying3⟩, ⟨by decide, rfl, ⟨_, underlying3⟩, trivial⟩⟩⟩) eqGuardType31
theorem k267 {x1 : Operand} : DXOk Pg ⟨d, .slice 34 x (some x1) none none, ty, pos, af, g⟩ (xSlice 3 true false false) := oSL 3 underlying34 i31 rfl true false false rfl rfl rfl
theorem k268 : DXOk Pg ⟨d, .call { callee := .builtin .clear, args := #[x], argTypes := #[34] }, ty, pos, af, g⟩ (xClear z31) := bCl z31 underlying34 i31 rfl rfl
theorem k269 {x2 : Operand} : DXOk Pg ⟨d, .slice 34 x none (some x2) none, ty, pos, af, g⟩ (xSlice 3 false true false) := oSL 3 underlying34 i31 rfl false true false rfl rfl rfl
theorem k270 : DXOk Pg ⟨d, .fieldAddr 170 x 2, ty, pos, af, g⟩ (xFaddr 2) := oFA 2 underlying170 rfl rfl i34 rfl
theorem k271 : DXOk Pg ⟨d, .fieldAddr 108 x 3, ty, pos, af, g⟩ (xFaddr 12) := oFA 12 underlying108 rfl rfl i31 rfl
theorem k272 : DXOk Pg ⟨d, .lookup 92 x y true, ty, pos, af, g⟩ (xLookup (.row [.str, .int, .int]) (.agg [.str [], .int .i64 (.ofNat 0), .int .i64 (.ofNat 0), .int .i64 (.ofNat 0), .str [], .nils, .nils]) true) := oK (.agg [.str [], .int .i64 (.ofNat 0), .int .i64 (.ofNat 0), .int .i64 (.ofNat 0), .str [], .nils, .nils]) underlying92 ⟨underlying31, rfl, ⟨by decide, rfl, underlying9, ⟨by decide, rfl, ⟨_, underlying3⟩, ⟨by decide, rfl, ⟨_, underlying3⟩, trivial⟩⟩⟩⟩ i270 rfl rfl
theorem k273 : DXOk Pg ⟨d, .alloc 270, ty, pos, af, g⟩ (xAlloc z270 0) := oB z270 0 i270 rfl rfl rfl
theorem k274 : DXOk Pg ⟨d, .store 270 x y, ty, pos, af, g⟩ (xStore 7) := oW 7 i270 rfl
theorem k275 : DXOk Pg ⟨d, .fieldAddr 270 x 0, ty, pos, af, g⟩ (xFaddr 0) := oFA 0 underlying270 rfl rfl i67 rfl
theorem k276 : DXOk Pg ⟨d, .fieldAddr 108 x 2, ty, pos, af, g⟩ (xFaddr 2) := oFA 2 underlying108 rfl rfl i78 rfl
theorem k277 : DXOk Pg ⟨d, .fieldAddr 99 x 9, ty, pos, af, g⟩ (xFaddr 16) := oFA 16 underlying99 rfl rfl i3 rfl
theorem k278 : DXOk Pg ⟨d, .load 108 x, ty, pos, af, g⟩ (xLoadN 16) := oLN 16 underlying108 rfl i108 rfl
theorem k279 : DXOk Pg ⟨d, .fieldAddr 99 x 10, ty, pos, af, g⟩ (xFaddr 17) := oFA 17 underlying99 rfl rfl i3 rfl
theorem k280 : DXOk Pg ⟨d, .fieldAddr 270 x 1, ty, pos, af, g⟩ (xFaddr 6) := oFA 6 underlying270 rfl rfl i34 rfl
theorem k281 : DXOk Pg ⟨d, .fieldAddr 122 x 0, ty, pos, af, g⟩ (xFaddr 0) := oFA 0 underlying122 rfl rfl i3 rfl
theorem k282 : DXOk Pg ⟨d, .call { callee := .builtin .len, args := #[x], argTypes := #[94] }, ty, pos, af, g⟩ xLenSlc := bLL underlying94
theorem k283 : DXOk Pg ⟨d, .indexAddr 94 x y, ty, pos, af, g⟩ (xIaddrS 6) := oIS 6 underlying94 i122 rfl
theorem k284 : DXOk Pg ⟨d, .load 122 x, ty, pos, af, g⟩ (xLoadN 6) := oLN 6 underlying122 rfl i122 rfl
theorem k285 : DXOk Pg ⟨d, .fieldAddr 99 x 4, ty, pos, af, g⟩ (xFaddr 10) := oFA 10 underlying99 rfl rfl i94 rfl
theorem k286 : DXOk Pg ⟨d, .load 94 x, ty, pos, af, g⟩ xLoad1 := oL underlying94 rfl
theorem k287 : DXOk Pg ⟨d, .binOp .eql 118 x y t, ty, pos, af, g⟩ (xEqNil .slice false) := oQ ⟨_, underlying118⟩
theorem k288 : DXOk Pg ⟨d, .buildSlice 118 0 #[], ty, pos, af, g⟩ (xBuildSlice [] [] false 0 5) := oBL [] z125 [] false 5 underlying118 i125 rfl rfl rfl rfl rfl rfl rfl rfl
theorem k289 : DXOk Pg ⟨d, .call { callee := .builtin .append, args := #[x, y], argTypes := #[118, 118] }, ty, pos, af, g⟩ (xAppend 5 false) := bA 5 false underlying118 i125 underlying118 nofun rfl rfl rfl rfl rfl
theorem k290 : DXOk Pg ⟨d, .fieldAddr 197 x 0, ty, pos, af, g⟩ (xFaddr 0) := oFA 0 underlying197 rfl rfl i60 rfl
theorem k291 : DXOk Pg ⟨d, .fieldAddr 197 x 2, ty, pos, af, g⟩ (xFaddr 2) := oFA 2 underlying197 rfl rfl i3 rfl
theorem k292 : DXOk Pg ⟨d, .load 197 x, ty, pos, af, g⟩ (xLoadN 5) := oLN 5 underlying197 rfl i197 rfl
theorem k293 : DXOk Pg ⟨d, .fieldAddr 197 x 3, ty, pos, af, g⟩ (xFaddr 3) := oFA 3 underlying197 rfl rfl i27 rfl
theorem k294 : DXOk Pg ⟨d, .alloc 199, ty, pos, af, g⟩ (xAlloc z199 0) := oB z199 0 i199 rfl rfl rfl
theorem k295 : DXOk Pg ⟨d, .fieldAddr 120 x 0, ty, pos, af, g⟩ (xFaddr 0) := oFA 0 underlying120 rfl rfl i118 rfl
theorem k296 : DXOk Pg ⟨d, .load 118 x, ty, pos, af, g⟩ xLoad1 := oL underlying118 rfl
theorem k297 : DXOk Pg ⟨d, .call { callee := .builtin .len, args := #[x], argTypes := #[118] }, ty, pos, af, g⟩ xLenSlc := bLL underlying118
theorem k298 : DXOk Pg ⟨d, .indexAddr 118 x y, ty, pos, af, g⟩ (xIaddrS 5) := oIS 5 underlying118 i125 rfl
theorem k299 : DXOk Pg ⟨d, .fieldAddr 125 x 1, ty, pos, af, g⟩ (xFaddr 3) := oFA 3 underlying125 rfl rfl i9 rfl
theorem k300 : DXOk Pg ⟨d, .fieldAddr 125 x 2, ty, pos, af, g⟩ (xFaddr 4) := oFA 4 underlying125 rfl rfl i3 rfl
theorem k301 : DXOk Pg ⟨d, .fieldAddr 120 x 1, ty, pos, af, g⟩ (xFaddr 1) := oFA 1 underlying120 rfl rfl i3 rfl
theorem k302 : DXOk Pg ⟨d, .fieldAddr 197 x 4, ty, pos, af, g⟩ (xFaddr 4) := oFA 4 underlying197 rfl rfl i3 rfl
theorem k303 : DXOk Pg ⟨d, .fieldAddr 125 x 0, ty, pos, af, g⟩ (xFaddr 0) := oFA 0 underlying125 rfl rfl i31 rfl
theorem k304 {p0 p1 p2 p3 : Operand} : DXOk Pg ⟨d, .build 199 #[(0, p0), (2, p1), (3, p2), (4, p3)], ty, pos, af, g⟩ (xBuild [(0, 1), (10, 1), (11, 3), (14, 1)] z199) := oBS [(0, 1), (10, 1), (11, 3), (14, 1)] z199 underlying199 rfl i199 rfl rfl rfl
theorem k305 : DXOk Pg ⟨d, .store 199 x y, ty, pos, af, g⟩ (xStore 15) := oW 15 i199 rfl
theorem k306 : DXOk Pg ⟨d, .load 199 x, ty, pos, af, g⟩ (xLoadN 15) := oLN 15 underlying199 rfl i199 rfl
theorem k307 : DXOk Pg ⟨d, .fieldAddr 197 x 1, ty, pos, af, g⟩ (xFaddr 1) := oFA 1 underlying197 rfl rfl i61 rfl
theorem k308 {p0 p1 : Operand} : DXOk Pg ⟨d, .build 199 #[(0, p0), (1, p1)], ty, pos, af, g⟩ (xBuild [(0, 1), (1, 9)] z199) := oBS [(0, 1), (1, 9)] z199 underlying199 rfl i199 rfl rfl rfl
theorem k309 : DXOk Pg ⟨d, .alloc 120, ty, pos, af, g⟩ (xAlloc z120 0) := oB z120 0 i120 rfl rfl rfl
theorem k310 : DXOk Pg ⟨d, .store 118 x y, ty, pos, af, g⟩ (xStore 1) := oW 1 i118 rfl
theorem k311 : DXOk Pg ⟨d, .load 120 x, ty, pos, af, g⟩ (xLoadN 2) := oLN 2 underlying120 rfl i120 rfl
theorem k312 : DXOk Pg ⟨d, .store 120 x y, ty, pos, af, g⟩ (xStore 2) := oW 2 i120 rfl
theorem k313 : DXOk Pg ⟨d, .load 23 x, ty, pos, af, g⟩ xLoad1 := oL underlying23 rfl
theorem k314 : DXOk Pg ⟨d, .fieldAddr 99 x 6, ty, pos, af, g⟩ (xFaddr 12) := oFA 12 underlying99 rfl rfl i96 rfl
theorem k315 : DXOk Pg ⟨d, .load 96 x, ty, pos, af, g⟩ xLoad1 := oL underlying96 rfl
theorem k316 : DXOk Pg ⟨d, .alloc 38, ty, pos, af, g⟩ (xAlloc z38 0) := oB z38 0 i38 rfl rfl rfl
theorem k317 : DXOk Pg ⟨d, .fieldAddr 76 x 1, ty, pos, af, g⟩ (xFaddr 1) := oFA 1 underlying76 rfl rfl i3 rfl
theorem k318 : DXOk Pg ⟨d, .fieldAddr 76 x 2, ty, pos, af, g⟩ (xFaddr 2) := oFA 2 underlying76 rfl rfl i3 rfl
theorem k319 : DXOk Pg ⟨d, .fieldAddr 76 x 4, ty, pos, af, g⟩ (xFaddr 4) := oFA 4 underlying76 rfl rfl i4 rfl
theorem k320 : DXOk Pg ⟨d, .fieldAddr 114 x 2, ty, pos, af, g⟩ (xFaddr 2) := oFA 2 underlying114 rfl rfl i9 rfl
theorem k321 : DXOk Pg ⟨d, .fieldAddr 114 x 0, ty, pos, af, g⟩ (xFaddr 0) := oFA 0 underlying114 rfl rfl i3 rfl
theorem k322 : DXOk Pg ⟨d, .fieldAddr 114 x 1, ty, pos, af, g⟩ (xFaddr 1) := oFA 1 underlying114 rfl rfl i3 rfl
theorem k323 : DXOk Pg ⟨d, .fieldAddr 114 x 3, ty, pos, af, g⟩ (xFaddr 3) := oFA 3 underlying114 rfl rfl i31 rfl
theorem k324 : DXOk Pg ⟨d, .load 114 x, ty, pos, af, g⟩ (xLoadN 8) := oLN 8 underlying114 rfl i114 rfl
theorem k325 {p0 p1 : Operand} : DXOk Pg ⟨d, .build 76 #[(0, p0), (1, p1)], ty, pos, af, g⟩ (xBuild [(0, 1), (1, 1)] z76) := oBS [(0, 1), (1, 1)] z76 underlying76 rfl i76 rfl rfl rfl
theorem k326 {p0 p1 p2 : Operand} : DXOk Pg ⟨d, .build 37 #[(0, p0), (2, p1), (5, p2)], ty, pos, af, g⟩ (xBuild [(0, 1), (2, 1), (5, 1)] z37) := oBS [(0, 1), (2, 1), (5, 1)] z37 underlying37 rfl i37 rfl rfl rfl
theorem k327 : DXOk Pg ⟨d, .fieldAddr 99 x 0, ty, pos, af, g⟩ (xFaddr 0) := oFA 0 underlying99 rfl rfl i29 rfl
theorem k328 : DXOk Pg ⟨d, .fieldAddr 199 x 2, ty, pos, af, g⟩ (xFaddr 10) := oFA 10 underlying199 rfl rfl i9 rfl
theorem k329 : DXOk Pg ⟨d, .fieldAddr 199 x 3, ty, pos, af, g⟩ (xFaddr 11) := oFA 11 underlying199 rfl rfl i31 rfl
theorem k330 : DXOk Pg ⟨d, .alloc 114, ty, pos, af, g⟩ (xAlloc z114 0) := oB z114 0 i114 rfl rfl rfl
theorem k331 {p0 p1 p2 p3 p4 p5 : Operand} : DXOk Pg ⟨d, .build 114 #[(0, p0), (1, p1), (2, p2), (3, p3), (4, p4), (5, p5)], ty, pos, af, g⟩ (xBuild [(0, 1), (1, 1), (2, 1), (3, 3), (6, 1), (7, 1)] z114) := oBS [(0, 1), (1, 1), (2, 1), (3, 3), (6, 1), (7, 1)] z114 underlying114 rfl i114 rfl rfl rfl
theorem k332 : DXOk Pg ⟨d, .store 114 x y, ty, pos, af, g⟩ (xStore 8) := oW 8 i114 rfl
theorem k333 : DXOk Pg ⟨d, .fieldAddr 99 x 5, ty, pos, af, g⟩ (xFaddr 11) := oFA 11 underlying99 rfl rfl i95 rfl
theorem k334 : DXOk Pg ⟨d, .load 95 x, ty, pos, af, g⟩ xLoad1 := oL underlying95 rfl
theorem k335 {p0 : Operand} : DXOk Pg ⟨d, .buildSlice 95 1 #[(0, p0)], ty, pos, af, g⟩ (xBuildSlice [(0, 8)] [.int .i64 (.ofNat 0), .int .i64 (.ofNat 0), .str [], .str [], .int .i64 (.ofNat 0), .int .i64 (.ofNat 0), .int .i64 (.ofNat 0), .int .i64 (.ofNat 0)] false 1 8) := oBL [(0, 8)] z114 [.int .i64 (.ofNat 0), .int .i64 (.ofNat 0), .str [], .str [], .int .i64 (.ofNat 0), .int .i64 (.ofNat 0), .int .i64 (.ofNat 0), .int .i64 (.ofNat 0)] false 8 underlying95 i114 rfl rfl rfl rfl rfl rfl rfl rfl
theorem k336 : DXOk Pg ⟨d, .call { callee := .builtin .append, args := #[x, y], argTypes := #[95, 95] }, ty, pos, af, g⟩ (xAppend 8 false) := bA 8 false underlying95 i114 underlying95 nofun rfl rfl rfl rfl rfl
theorem k337 : DXOk Pg ⟨d, .store 95 x y, ty, pos, af, g⟩ (xStore 1) := oW 1 i95 rfl
theorem k338 {p0 p1 p2 p3 p4 : Operand} : DXOk Pg ⟨d, .build 46 #[(0, p0), (1, p1), (2, p2), (3, p3), (4, p4)], ty, pos, af, g⟩ (xBuild [(0, 1), (1, 1), (2, 1), (3, 1), (4, 1)] z46) := oBS [(0, 1), (1, 1), (2, 1), (3, 1), (4, 1)] z46 underlying46 rfl i46 rfl rfl rfl
theorem k339 : DXOk Pg ⟨d, .fieldAddr 57 x 2, ty, pos, af, g⟩ (xFaddr 4) := oFA 4 underlying57 rfl rfl i3 rfl
theorem k340 {x2 : Operand} : DXOk Pg ⟨d, .slice 27 x none (some x2) none, ty, pos, af, g⟩ (xSlice 1 false true false) := oSL 1 underlying27 i9 rfl false true false rfl rfl rfl
theorem k341 : DXOk Pg ⟨d, .call { callee := .builtin .cap, args := #[x], argTypes := #[27] }, ty, pos, af, g⟩ xCap := bC underlying27
theorem k342 : DXOk Pg ⟨d, .call { callee := .builtin .append, args := #[x, y], argTypes := #[27, 3] }, ty, pos, af, g⟩ (xAppendZ 1 false z9) := bAZ 1 false z9 underlying27 i9 underlying3 rfl rfl rfl rfl rfl rfl rfl
theorem k343 : DXOk Pg ⟨d, .call { callee := .builtin .len, args := #[x], argTypes := #[333] }, ty, pos, af, g⟩ xLenSlc := bLL underlying333
theorem k344 : DXOk Pg ⟨d, .indexAddr 333 x y, ty, pos, af, g⟩ (xIaddrS 1) := oIS 1 underlying333 i27 rfl
theorem k345 {x1 : Operand} : DXOk Pg ⟨d, .slice 27 x (some x1) none none, ty, pos, af, g⟩ (xSlice 1 true false false) := oSL 1 underlying27 i9 rfl true false false rfl rfl rfl
theorem k346 {p0 p1 : Operand} : DXOk Pg ⟨d, .buildSlice 333 2 #[(0, p0), (1, p1)], ty, pos, af, g⟩ (xBuildSlice [(0, 1), (1, 1)] [.nils, .nils] false 2 1) := oBL [(0, 1), (1, 1)] z27 [.nils, .nils] false 1 underlying333 i27 rfl rfl rfl rfl rfl rfl rfl rfl
theorem k347 {p0 p1 p2 p3 p4 : Operand} : DXOk Pg ⟨d, .build 40 #[(0, p0), (1, p1), (2, p2), (3, p3), (4, p4)], ty, pos, af, g⟩ (xBuild [(0, 1), (1, 1), (2, 1), (3, 1), (4, 1)] z40) := oBS [(0, 1), (1, 1), (2, 1), (3, 1), (4, 1)] z40 underlying40 rfl i40 rfl rfl rfl
theorem k348 : DXOk Pg ⟨d, .call { callee := .builtin .len, args := #[x], argTypes := #[70] }, ty, pos, af, g⟩ xLenSlc := bLL underlying70
theorem k349 : DXOk Pg ⟨d, .indexAddr 70 x y, ty, pos, af, g⟩ (xIaddrS 6) := oIS 6 underlying70 i72 rfl
theorem k350 : DXOk Pg ⟨d, .fieldAddr 72 x 1, ty, pos, af, g⟩ (xFaddr 5) := oFA 5 underlying72 rfl rfl i3 rfl
theorem k351 {p0 p1 : Operand} : DXOk Pg ⟨d, .build 159 #[(0, p0), (1, p1)], ty, pos, af, g⟩ (xBuild [(0, 1), (1, 1)] z159) := oBS [(0, 1), (1, 1)] z159 underlying159 rfl i159 rfl rfl rfl
theorem k352 {p0 : Operand} : DXOk Pg ⟨d, .buildSlice 154 1 #[(0, p0)], ty, pos, af, g⟩ (xBuildSlice [(0, 2)] [.nils, .bool false] false 1 2) := oBL [(0, 2)] z159 [.nils, .bool false] false 2 underlying154 i159 rfl rfl rfl rfl rfl rfl rfl rfl
theorem k353 : DXOk Pg ⟨d, .call { callee := .builtin .append, args := #[x, y], argTypes := #[154, 154] }, ty, pos, af, g⟩ (xAppend 2 false) := bA 2 false underlying154 i159 underlying154 nofun rfl rfl rfl rfl rfl
theorem k354 : DXOk Pg ⟨d, .load 154 x, ty, pos, af, g⟩ xLoad1 := oL underlying154 rfl
theorem k355 {x2 : Operand} : DXOk Pg ⟨d, .slice 154 x none (some x2) none, ty, pos, af, g⟩ (xSlice 2 false true false) := oSL 2 underlying154 i159 rfl false true false rfl rfl rfl
theorem k356 : DXOk Pg ⟨d, .call { callee := .builtin .len, args := #[x], argTypes := #[154] }, ty, pos, af, g⟩ xLenSlc := bLL underlying154
theorem k357 : DXOk Pg ⟨d, .indexAddr 154 x y, ty, pos, af, g⟩ (xIaddrS 2) := oIS 2 underlying154 i159 rfl
theorem k358 : DXOk Pg ⟨d, .load 159 x, ty, pos, af, g⟩ (xLoadN 2) := oLN 2 underlying159 rfl i159 rfl
theorem k359 : DXOk Pg ⟨d, .alloc 159, ty, pos, af, g⟩ (xAlloc z159 0) := oB z159 0 i159 rfl rfl rfl
theorem k360 : DXOk Pg ⟨d, .store 159 x y, ty, pos, af, g⟩ (xStore 2) := oW 2 i159 rfl
theorem k361 : DXOk Pg ⟨d, .fieldAddr 159 x 1, ty, pos, af, g⟩ (xFaddr 1) := oFA 1 underlying159 rfl rfl i4 rfl
theorem k362 : DXOk Pg ⟨d, .fieldAddr 159 x 0, ty, pos, af, g⟩ (xFaddr 0) := oFA 0 underlying159 rfl rfl i35 rfl
theorem k363 : DXOk Pg ⟨d, .alloc 154, ty, pos, af, g⟩ (xAlloc z154 0) := oB z154 0 i154 rfl rfl rfl
theorem k364 : DXOk Pg ⟨d, .store 154 x y, ty, pos, af, g⟩ (xStore 1) := oW 1 i154 rfl
theorem k365 : DXOk Pg ⟨d, .alloc 122, ty, pos, af, g⟩ (xAlloc z122 0) := oB z122 0 i122 rfl rfl rfl
theorem k366 : DXOk Pg ⟨d, .store 122 x y, ty, pos, af, g⟩ (xStore 6) := oW 6 i122 rfl
theorem k367 {p0 : Operand} : DXOk Pg ⟨d, .buildSlice 94 1 #[(0, p0)], ty, pos, af, g⟩ (xBuildSlice [(0, 6)] [.int .i64 (.ofNat 0), .str [], .int .i64 (.ofNat 0), .int .i64 (.ofNat 0), .nils, .int .i64 (.ofNat 0)] false 1 6) := oBL [(0, 6)] z122 [.int .i64 (.ofNat 0), .str [], .int .i64 (.ofNat 0), .int .i64 (.ofNat 0), .nils, .int .i64 (.ofNat 0)] false 6 underlying94 i122 rfl rfl rfl rfl rfl rfl rfl rfl
theorem k368 : DXOk Pg ⟨d, .call { callee := .builtin .append, args := #[x, y], argTypes := #[94, 94] }, ty, pos, af, g⟩ (xAppend 6 false) := bA 6 false underlying94 i122 underlying94 nofun rfl rfl rfl rfl rfl
theorem k369 : DXOk Pg ⟨d, .store 94 x y, ty, pos, af, g⟩ (xStore 1) := oW 1 i94 rfl
theorem k370 : DXOk Pg ⟨d, .fieldAddr 122 x 1, ty, pos, af, g⟩ (xFaddr 1) := oFA 1 underlying122 rfl rfl i31 rfl
theorem k371 : DXOk Pg ⟨d, .load 93 x, ty, pos, af, g⟩ xLoad1 := oL underlying93 rfl
theorem k372 : DXOk Pg ⟨d, .call { callee := .builtin .len, args := #[x], argTypes := #[93] }, ty, pos, af, g⟩ xLenSlc := bLL underlying93
theorem k373 : DXOk Pg ⟨d, .indexAddr 93 x y, ty, pos, af, g⟩ (xIaddrS 16) := oIS 16 underlying93 i108 rfl
theorem k374 : DXOk Pg ⟨d, .alloc 108, ty, pos, af, g⟩ (xAlloc z108 0) := oB z108 0 i108 rfl rfl rfl
theorem k375 : DXOk Pg ⟨d, .store 108 x y, ty, pos, af, g⟩ (xStore 16) := oW 16 i108 rfl
theorem k376 {p0 : Operand} : DXOk Pg ⟨d, .buildSlice 93 1 #[(0, p0)], ty, pos, af, g⟩ (xBuildSlice [(0, 16)] [.str [], .int .i64 (.ofNat 0), .int .i64 (.ofNat 0), .int .i64 (.ofNat 0), .str [], .int .i64 (.ofNat 0), .int .i64 (.ofNat 0), .bool false, .int .i64 (.ofNat 0), .int .i64 (.ofNat 0), .int .i64 (.ofNat 0), .bool false, .str [], .int .i64 (.ofNat 0), .int .i64 (.ofNat 0), .int .i64 (.ofNat 0)] false 1 16) := oBL [(0, 16)] z108 [.str [], .int .i64 (.ofNat 0), .int .i64 (.ofNat 0), .int .i64 (.ofNat 0), .str [], .int .i64 (.ofNat 0), .int .i64 (.ofNat 0), .bool false, .int .i64 (.ofNat 0), .int .i64 (.ofNat 0), .int .i64 (.ofNat 0), .bool false, .str [], .int .i64 (.ofNat 0), .int .i64 (.ofNat 0), .int .i64 (.ofNat 0)] false 16 underlying93 i108 rfl rfl rfl rfl rfl rfl rfl rfl
theorem k377 : DXOk Pg ⟨d, .call { callee := .builtin .append, args := #[x, y], argTypes := #[93, 93] }, ty, pos, af, g⟩ (xAppend 16 false) := bA 16 false underlying93 i108 underlying93 nofun rfl rfl rfl rfl rfl
theorem k378 : DXOk Pg ⟨d, .store 93 x y, ty, pos, af, g⟩ (xStore 1) := oW 1 i93 rfl
theorem k379 : DXOk Pg ⟨d, .fieldAddr 99 x 3, ty, pos, af, g⟩ (xFaddr 9) := oFA 9 underlying99 rfl rfl i93 rfl
theorem k380 : DXOk Pg ⟨d, .fieldAddr 199 x 0, ty, pos, af, g⟩ (xFaddr 0) := oFA 0 underlying199 rfl rfl i3 rfl
theorem k381 : DXOk Pg ⟨d, .fieldAddr 199 x 1, ty, pos, af, g⟩ (xFaddr 1) := oFA 1 underlying199 rfl rfl i74 rfl
theorem k382 {p0 p1 p2 p3 p4 : Operand} : DXOk Pg ⟨d, .build 197 #[(0, p0), (1, p1), (2, p2), (3, p3), (4, p4)], ty, pos, af, g⟩ (xBuild [(0, 1), (1, 1), (2, 1), (3, 1), (4, 1)] z197) := oBS [(0, 1), (1, 1), (2, 1), (3, 1), (4, 1)] z197 underlying197 rfl i197 rfl rfl rfl
theorem k383 : DXOk Pg ⟨d, .alloc 197, ty, pos, af, g⟩ (xAlloc z197 0) := oB z197 0 i197 rfl rfl rfl
theorem k384 : DXOk Pg ⟨d, .store 197 x y, ty, pos, af, g⟩ (xStore 5) := oW 5 i197 rfl
theorem k385 : DXOk Pg ⟨d, .fieldAddr 122 x 2, ty, pos, af, g⟩ (xFaddr 4) := oFA 4 underlying122 rfl rfl i120 rfl
theorem k386 {p0 : Operand} : DXOk Pg ⟨d, .build 125 #[(0, p0)], ty, pos, af, g⟩ (xBuild [(0, 3)] z125) := oBS [(0, 3)] z125 underlying125 rfl i125 rfl rfl rfl
theorem k387 {p0 : Operand} : DXOk Pg ⟨d, .buildSlice 118 1 #[(0, p0)], ty, pos, af, g⟩ (xBuildSlice [(0, 5)] [.str [], .int .i64 (.ofNat 0), .int .i64 (.ofNat 0), .str [], .int .i64 (.ofNat 0)] false 1 5) := oBL [(0, 5)] z125 [.str [], .int .i64 (.ofNat 0), .int .i64 (.ofNat 0), .str [], .int .i64 (.ofNat 0)] false 5 underlying118 i125 rfl rfl rfl rfl rfl rfl rfl rfl
theorem k388 {p0 : Operand} : DXOk Pg ⟨d, .build 120 #[(0, p0)], ty, pos, af, g⟩ (xBuild [(0, 1)] z120) := oBS [(0, 1)] z120 underlying120 rfl i120 rfl rfl rfl
theorem k389 : DXOk Pg ⟨d, .fieldAddr 99 x 11, ty, pos, af, g⟩ (xFaddr 18) := oFA 18 underlying99 rfl rfl i3 rfl
theorem k390 {p0 p1 p2 : Operand} : DXOk Pg ⟨d, .build 122 #[(0, p0), (1, p1), (2, p2)], ty, pos, af, g⟩ (xBuild [(0, 1), (1, 3), (4, 2)] z122) := oBS [(0, 1), (1, 3), (4, 2)] z122 underlying122 rfl i122 rfl rfl rfl
theorem k391 {p0 p1 : Operand} : DXOk Pg ⟨d, .build 227 #[(1, p0), (2, p1)], ty, pos, af, g⟩ (xBuild [(1, 1), (2, 1)] z227) := oBS [(1, 1), (2, 1)] z227 underlying227 rfl i227 rfl rfl rfl
theorem k392 {p0 p1 p2 : Operand} : DXOk Pg ⟨d, .build 230 #[(0, p0), (1, p1), (2, p2)], ty, pos, af, g⟩ (xBuild [(0, 1), (1, 1), (2, 1)] z230) := oBS [(0, 1), (1, 1), (2, 1)] z230 underlying230 rfl i230 rfl rfl rfl
theorem k393 {p0 : Operand} : DXOk Pg ⟨d, .buildSlice 225 1 #[(0, p0)], ty, pos, af, g⟩ (xBuildSlice [(0, 3)] [.int .i64 (.ofNat 0), .int .i64 (.ofNat 0), .int .i64 (.ofNat 0)] false 1 3) := oBL [(0, 3)] z230 [.int .i64 (.ofNat 0), .int .i64 (.ofNat 0), .int .i64 (.ofNat 0)] false 3 underlying225 i230 rfl rfl rfl rfl rfl rfl rfl rfl
theorem k394 : DXOk Pg ⟨d, .call { callee := .builtin .append, args := #[x, y], argTypes := #[225, 225] }, ty, pos, af, g⟩ (xAppend 3 false) := bA 3 false underlying225 i230 underlying225 nofun rfl rfl rfl rfl rfl
theorem k395 : DXOk Pg ⟨d, .store 225 x y, ty, pos, af, g⟩ (xStore 1) := oW 1 i225 rfl
theorem k396 {p0 : Operand} : DXOk Pg ⟨d, .buildSlice 65 1 #[(0, p0)], ty, pos, af, g⟩ (xBuildSlice [(0, 3)] [.nils, .int .i64 (.ofNat 0), .bool false] false 1 3) := oBL [(0, 3)] z227 [.nils, .int .i64 (.ofNat 0), .bool false] false 3 underlying65 i227 rfl rfl rfl rfl rfl rfl rfl rfl
theorem k397 : DXOk Pg ⟨d, .call { callee := .builtin .append, args := #[x, y], argTypes := #[65, 65] }, ty, pos, af, g⟩ (xAppend 3 false) := bA 3 false underlying65 i227 underlying65 nofun rfl rfl rfl rfl rfl
theorem k398 : DXOk Pg ⟨d, .store 65 x y, ty, pos, af, g⟩ (xStore 1) := oW 1 i65 rfl
theorem k399 : DXOk Pg ⟨d, .alloc 67, ty, pos, af, g⟩ (xAlloc z67 0) := oB z67 0 i67 rfl rfl rfl
theorem k400 {p0 p1 : Operand} : DXOk Pg ⟨d, .build 67 #[(0, p0), (1, p1)], ty, pos, af, g⟩ (xBuild [(0, 3), (3, 1)] z67) := oBS [(0, 3), (3, 1)] z67 underlying67 rfl i67 rfl rfl rfl
theorem k401 : DXOk Pg ⟨d, .store 67 x y, ty, pos, af, g⟩ (xStore 6) := oW 6 i67 rfl
theorem k402 : DXOk Pg ⟨d, .fieldAddr 74 x 3, ty, pos, af, g⟩ (xFaddr 3) := oFA 3 underlying74 rfl rfl i72 rfl
theorem k403 : DXOk Pg ⟨d, .call { callee := .builtin .len, args := #[x], argTypes := #[92] }, ty, pos, af, g⟩ xLenMap := bLM underlying92
theorem k404 {p0 p1 : Operand} : DXOk Pg ⟨d, .build 270 #[(0, p0), (1, p1)], ty, pos, af, g⟩ (xBuild [(0, 6), (6, 1)] z270) := oBS [(0, 6), (6, 1)] z270 underlying270 rfl i270 rfl rfl rfl
theorem k405 {p : Operand} : DXOk Pg ⟨d, .mapUpdate 92 x y p, ty, pos, af, g⟩ (xUpd (.row [.str, .int, .int])) := oY underlying92 ⟨underlying31, rfl, ⟨by decide, rfl, underlying9, ⟨by decide, rfl, ⟨_, underlying3⟩, ⟨by decide, rfl, ⟨_, underlying3⟩, trivial⟩⟩⟩⟩
theorem k406 {p0 p1 p2 p3 p4 : Operand} : DXOk Pg ⟨d, .build 108 #[(0, p0), (1, p1), (2, p2), (3, p3), (4, p4)], ty, pos, af, g⟩ (xBuild [(0, 1), (1, 1), (2, 10), (12, 3), (15, 1)] z108) := oBS [(0, 1), (1, 1), (2, 10), (12, 3), (15, 1)] z108 underlying108 rfl i108 rfl rfl rfl
theorem k407 : DXOk Pg ⟨d, .call { callee := .builtin .len, args := #[x], argTypes := #[95] }, ty, pos, af, g⟩ xLenSlc := bLL underlying95
theorem k408 : DXOk Pg ⟨d, .indexAddr 95 x y, ty, pos, af, g⟩ (xIaddrS 8) := oIS 8 underlying95 i114 rfl
theorem k409 {x1 x2 x3 : Operand} : DXOk Pg ⟨d, .slice 95 x (some x1) (some x2) (some x3), ty, pos, af, g⟩ (xSlice 8 true true true) := oSL 8 underlying95 i114 rfl true true true rfl rfl rfl
theorem k410 {x2 : Operand} : DXOk Pg ⟨d, .slice 95 x none (some x2) none, ty, pos, af, g⟩ (xSlice 8 false true false) := oSL 8 underlying95 i114 rfl false true false rfl rfl rfl
theorem k411 {x1 : Operand} : DXOk Pg ⟨d, .slice 95 x (some x1) none none, ty, pos, af, g⟩ (xSlice 8 true false false) := oSL 8 underlying95 i114 rfl true false false rfl rfl rfl
theorem k412 {x1 x2 : Operand} : DXOk Pg ⟨d, .slice 95 x (some x1) (some x2) none, ty, pos, af, g⟩ (xSlice 8 true true false) := oSL 8 underlying95 i114 rfl true true false rfl rfl rfl
theorem k413 : DXOk Pg ⟨d, .call { callee := .builtin .clear, args := #[x], argTypes := #[95] }, ty, pos, af, g⟩ (xClear z114) := bCl z114 underlying95 i114 rfl rfl
theorem k414 : DXOk Pg ⟨d, .binOp .eql 95 x y t, ty, pos, af, g⟩ (xEqNil .slice false) := oQ ⟨_, underlying95⟩
theorem k415 : DXOk Pg ⟨d, .buildSlice 95 0 #[], ty, pos, af, g⟩ (xBuildSlice [] [] false 0 8) := oBL [] z114 [] false 8 underlying95 i114 rfl rfl rfl rfl rfl rfl rfl rfl
theorem k416 : DXOk Pg ⟨d, .load 24 x, ty, pos, af, g⟩ xLoad1 := oL underlying24 rfl
theorem k417 : DXOk Pg ⟨d, .alloc 24, ty, pos, af, g⟩ (xAlloc z24 0) := oB z24 0 i24 rfl rfl rfl
theorem k418 {p0 p1 p2 : Operand} : DXOk Pg ⟨d, .build 210 #[(0, p0), (1, p1), (2, p2)], ty, pos, af, g⟩ (xBuild [(0, 5), (5, 1), (6, 1)] z210) := oBS [(0, 5), (5, 1), (6, 1)] z210 underlying210 rfl i210 rfl rfl rfl
theorem k419 : DXOk Pg ⟨d, .store 24 x y, ty, pos, af, g⟩ (xStore 1) := oW 1 i24 rfl
theorem k420 {p : Operand} : DXOk Pg ⟨d, .mapUpdate 168 x y p, ty, pos, af, g⟩ (xUpd (.row [.str, .int, .int])) := oY underlying168 ⟨underlying31, rfl, ⟨by decide, rfl, underlying9, ⟨by decide, rfl, ⟨_, underlying3⟩, ⟨by decide, rfl, ⟨_, underlying3⟩, trivial⟩⟩⟩⟩
theorem k421 : DXOk Pg ⟨d, .fieldAddr 170 x 0, ty, pos, af, g⟩ (xFaddr 0) := oFA 0 underlying170 rfl rfl i3 rfl
theorem k422 : DXOk Pg ⟨d, .alloc 322, ty, pos, af, g⟩ (xAlloc z322 0) := oB z322 0 i322 rfl rfl rfl
theorem k423 {p0 p1 p2 : Operand} : DXOk Pg ⟨d, .build 322 #[(0, p0), (1, p1), (2, p2)], ty, pos, af, g⟩ (xBuild [(0, 2), (2, 2), (4, 2)] z322) := oBA [(0, 2), (2, 2), (4, 2)] z322 underlying322 i97 i322 rfl rfl rfl
theorem k424 : DXOk Pg ⟨d, .store 322 x y, ty, pos, af, g⟩ (xStore 6) := oW 6 i322 rfl
theorem k425 : DXOk Pg ⟨d, .index 322 x y, ty, pos, af, g⟩ (xIndexA true 3 2) := oJA true 3 2 underlying322 underlying97 i97 rfl rfl
theorem k426 : DXOk Pg ⟨d, .indexAddr 97 x y, ty, pos, af, g⟩ (xIaddrA 2 1) := oIA 2 1 underlying97 i3 rfl
theorem k427 : DXOk Pg ⟨d, .fieldAddr 282 x 1, ty, pos, af, g⟩ (xFaddr 6) := oFA 6 underlying282 rfl rfl i9 rfl
theorem k428 : DXOk Pg ⟨d, .call { callee := .builtin .len, args := #[x], argTypes := #[287] }, ty, pos, af, g⟩ xLenSlc := bLL underlying287
theorem k429 : DXOk Pg ⟨d, .indexAddr 287 x y, ty, pos, af, g⟩ (xIaddrS 5) := oIS 5 underlying287 i57 rfl
theorem k430 : DXOk Pg ⟨d, .lookup 358 x y true, ty, pos, af, g⟩ (xLookup (.row [.str, .int, .int]) (.one (.int .i64 (.ofNat 0))) true) := oK (.one (.int .i64 (.ofNat 0))) underlying358 ⟨underlying31, rfl, ⟨by decide, rfl, underlying9, ⟨by decide, rfl, ⟨_, underlying3⟩, ⟨by decide, rfl, ⟨_, underlying3⟩, trivial⟩⟩⟩⟩ i3 rfl rfl
theorem k431 {p : Operand} : DXOk Pg ⟨d, .mapUpdate 358 x y p, ty, pos, af, g⟩ (xUpd (.row [.str, .int, .int])) := oY underlying358 ⟨underlying31, rfl, ⟨by decide, rfl, underlying9, ⟨by decide, rfl, ⟨_, underlying3⟩, ⟨by decide, rfl, ⟨_, underlying3⟩, trivial⟩⟩⟩⟩
theorem k432 {p0 p1 : Operand} : DXOk Pg ⟨d, .build 57 #[(0, p0), (2, p1)], ty, pos, af, g⟩ (xBuild [(0, 3), (4, 1)] z57) := oBS [(0, 3), (4, 1)] z57 underlying57 rfl i57 rfl rfl rfl
theorem k433 {p0 : Operand} : DXOk Pg ⟨d, .buildSlice 287 1 #[(0, p0)], ty, pos, af, g⟩ (xBuildSlice [(0, 5)] [.str [], .int .i64 (.ofNat 0), .int .i64 (.ofNat 0), .nils, .int .i64 (.ofNat 0)] false 1 5) := oBL [(0, 5)] z57 [.str [], .int .i64 (.ofNat 0), .int .i64 (.ofNat 0), .nils, .int .i64 (.ofNat 0)] false 5 underlying287 i57 rfl rfl rfl rfl rfl rfl rfl rfl
theorem k434 : DXOk Pg ⟨d, .call { callee := .builtin .append, args := #[x, y], argTypes := #[287, 287] }, ty, pos, af, g⟩ (xAppend 5 false) := bA 5 false underlying287 i57 underlying287 nofun rfl rfl rfl rfl rfl
theorem k435 : DXOk Pg ⟨d, .fieldAddr 282 x 0, ty, pos, af, g⟩ (xFaddr 0) := oFA 0 underlying282 rfl rfl i37 rfl
theorem k436 {p0 p1 p2 : Operand} : DXOk Pg ⟨d, .buildSlice 321 3 #[(0, p0), (1, p1), (2, p2)], ty, pos, af, g⟩ (xBuildSlice [(0, 1), (1, 1), (2, 1)] [.nils, .nils, .nils] false 3 1) := oBL [(0, 1), (1, 1), (2, 1)] z35 [.nils, .nils, .nils] false 1 underlying321 i35 rfl rfl rfl rfl rfl rfl rfl rfl
theorem k437 : DXOk Pg ⟨d, .call { callee := .builtin .len, args := #[x], argTypes := #[321] }, ty, pos, af, g⟩ xLenSlc := bLL underlying321
theorem k438 : DXOk Pg ⟨d, .indexAddr 321 x y, ty, pos, af, g⟩ (xIaddrS 1) := oIS 1 underlying321 i35 rfl
theorem k439 : DXOk Pg ⟨d, .load 282 x, ty, pos, af, g⟩ (xLoadN 7) := oLN 7 underlying282 rfl i282 rfl
theorem k440 : DXOk Pg ⟨d, .alloc 57, ty, pos, af, g⟩ (xAlloc z57 0) := oB z57 0 i57 rfl rfl rfl
theorem k441 : DXOk Pg ⟨d, .store 57 x y, ty, pos, af, g⟩ (xStore 5) := oW 5 i57 rfl
theorem k442 : DXOk Pg ⟨d, .alloc 4, ty, pos, af, g⟩ (xAlloc z4 0) := oB z4 0 i4 rfl rfl rfl
theorem k443 : DXOk Pg ⟨d, .alloc 188, ty, pos, af, g⟩ (xAlloc z188 0) := oB z188 0 i188 rfl rfl rfl
theorem k444 {p0 p1 : Operand} : DXOk Pg ⟨d, .build 282 #[(0, p0), (1, p1)], ty, pos, af, g⟩ (xBuild [(0, 6), (6, 1)] z282) := oBS [(0, 6), (6, 1)] z282 underlying282 rfl i282 rfl rfl rfl
theorem k445 : DXOk Pg ⟨d, .load 188 x, ty, pos, af, g⟩ xLoad1 := oL underlying188 rfl
theorem k446 {p0 p1 : Operand} : DXOk Pg ⟨d, .build 191 #[(0, p0), (1, p1)], ty, pos, af, g⟩ (xBuild [(0, 5), (5, 1)] z191) := oBS [(0, 5), (5, 1)] z191 underlying191 rfl i191 rfl rfl rfl
theorem k447 {p0 : Operand} : DXOk Pg ⟨d, .buildSlice 188 1 #[(0, p0)], ty, pos, af, g⟩ (xBuildSlice [(0, 6)] [.str [], .int .i64 (.ofNat 0), .int .i64 (.ofNat 0), .nils, .int .i64 (.ofNat 0), .int .i64 (.ofNat 0)] false 1 6) := oBL [(0, 6)] z191 [.str [], .int .i64 (.ofNat 0), .int .i64 (.ofNat 0), .nils, .int .i64 (.ofNat 0), .int .i64 (.ofNat 0)] false 6 underlying188 i191 rfl rfl rfl rfl rfl rfl rfl rfl
theorem k448 : DXOk Pg ⟨d, .call { callee := .builtin .append, args := #[x, y], argTypes := #[188, 188] }, ty, pos, af, g⟩ (xAppend 6 false) := bA 6 false underlying188 i191 underlying188 nofun rfl rfl rfl rfl rfl
theorem k449 : DXOk Pg ⟨d, .store 188 x y, ty, pos, af, g⟩ (xStore 1) := oW 1 i188 rfl
theorem k450 : DXOk Pg ⟨d, .alloc 193, ty, pos, af, g⟩ (xAlloc z193 0) := oB z193 0 i193 rfl rfl rfl
theorem k451 : DXOk Pg ⟨d, .alloc 282, ty, pos, af, g⟩ (xAlloc z282 0) := oB z282 0 i282 rfl rfl rfl
theorem k452 : DXOk Pg ⟨d, .store 282 x y, ty, pos, af, g⟩ (xStore 7) := oW 7 i282 rfl
theorem k453 : DXOk Pg ⟨d, .build 193 #[], ty, pos, af, g⟩ (xBuild [] z193) := oBS [] z193 underlying193 rfl i193 rfl rfl rfl
theorem k454 : DXOk Pg ⟨d, .store 193 x y, ty, pos, af, g⟩ (xStore 9) := oW 9 i193 rfl
theorem k455 : DXOk Pg ⟨d, .call { callee := .builtin .len, args := #[x], argTypes := #[188] }, ty, pos, af, g⟩ xLenSlc := bLL underlying188
theorem k456 : DXOk Pg ⟨d, .indexAddr 188 x y, ty, pos, af, g⟩ (xIaddrS 6) := oIS 6 underlying188 i191 rfl
theorem k457 : DXOk Pg ⟨d, .load 191 x, ty, pos, af, g⟩ (xLoadN 6) := oLN 6 underlying191 rfl i191 rfl
theorem k458 : DXOk Pg ⟨d, .alloc 191, ty, pos, af, g⟩ (xAlloc z191 0) := oB z191 0 i191 rfl rfl rfl
theorem k459 : DXOk Pg ⟨d, .store 191 x y, ty, pos, af, g⟩ (xStore 6) := oW 6 i191 rfl
theorem k460 : DXOk Pg ⟨d, .fieldAddr 191 x 0, ty, pos, af, g⟩ (xFaddr 0) := oFA 0 underlying191 rfl rfl i57 rfl
theorem k461 : DXOk Pg ⟨d, .fieldAddr 191 x 1, ty, pos, af, g⟩ (xFaddr 5) := oFA 5 underlying191 rfl rfl i3 rfl
theorem k462 : DXOk Pg ⟨d, .fieldAddr 114 x 5, ty, pos, af, g⟩ (xFaddr 7) := oFA 7 underlying114 rfl rfl i3 rfl
theorem k463 {p0 p1 p2 p3 p4 p5 p6 : Operand} : DXOk Pg ⟨d, .build 29 #[(0, p0), (1, p1), (2, p2), (3, p3), (4, p4), (5, p5), (6, p6)], ty, pos, af, g⟩ (xBuild [(0, 1), (1, 1), (2, 1), (3, 1), (4, 1), (5, 1), (6, 1)] z29) := oBS [(0, 1), (1, 1), (2, 1), (3, 1), (4, 1), (5, 1), (6, 1)] z29 underlying29 rfl i29 rfl rfl rfl
theorem k464 {p0 p1 p2 : Operand} : DXOk Pg ⟨d, .build 37 #[(0, p0), (1, p1), (2, p2)], ty, pos, af, g⟩ (xBuild [(0, 1), (1, 1), (2, 1)] z37) := oBS [(0, 1), (1, 1), (2, 1)] z37 underlying37 rfl i37 rfl rfl rfl
theorem k465 {p0 p1 p2 : Operand} : DXOk Pg ⟨d, .build 37 #[(1, p0), (2, p1), (3, p2)], ty, pos, af, g⟩ (xBuild [(1, 1), (2, 1), (3, 1)] z37) := oBS [(1, 1), (2, 1), (3, 1)] z37 underlying37 rfl i37 rfl rfl rfl
theorem k466 : DXOk Pg ⟨d, .call { callee := .builtin .len, args := #[x], argTypes := #[41] }, ty, pos, af, g⟩ xLenSlc := bLL underlying41
theorem k467 : DXOk Pg ⟨d, .alloc 129, ty, pos, af, g⟩ (xAlloc z129 0) := oB z129 0 i129 rfl rfl rfl
theorem k468 : DXOk Pg ⟨d, .indexAddr 129 x y, ty, pos, af, g⟩ (xIaddrA 4 1) := oIA 4 1 underlying129 i3 rfl
theorem k469 {p0 p1 p2 p3 p4 p5 : Operand} : DXOk Pg ⟨d, .build 37 #[(0, p0), (1, p1), (2, p2), (3, p3), (4, p4), (5, p5)], ty, pos, af, g⟩ (xBuild [(0, 1), (1, 1), (2, 1), (3, 1), (4, 1), (5, 1)] z37) := oBS [(0, 1), (1, 1), (2, 1), (3, 1), (4, 1), (5, 1)] z37 underlying37 rfl i37 rfl rfl rfl
end
end Go.Proofs.YtddbhljljmijcaaGreat.V
