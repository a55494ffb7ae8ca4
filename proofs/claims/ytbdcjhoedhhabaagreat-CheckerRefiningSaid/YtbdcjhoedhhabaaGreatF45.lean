/- Contracts of the functions that the statements reach, part 45. -/
import Derived.Test.YtbdcjhoedhhabaaGreatRows
import Derived.Test.YtbdcjhoedhhabaaGreatF2
import Derived.Test.YtbdcjhoedhhabaaGreatF44
set_option linter.unusedSimpArgs false
set_option linter.unusedVariables false

/- The last region of begin's round: three lists grow by one element each, and are stored. Printed by gen33.py. -/
namespace Go.Proofs.YtbdcjhoedhhabaaGreat
open Go.RowKit
attribute [local go_sem ↓] Go.wp_at_zero Go.wp_at_succ

/-- The operations of a region, by its number. -/
def findReg (n:Nat):Code→Option (Array Oper)
 | .seq a b => match findReg n a with
   | some c=>some c
   | none=>findReg n b
 | .loop c=>findReg n c
 | .block _ c=>findReg n c
 | .scope c=>findReg n c
 | .cond _ a b => match findReg n a with
   | some c=>some c
   | none=>findReg n b
 | .region k ops _=>if k=n then some ops else none
 | _=>none
noncomputable def ops33:Array Oper:=(Tryz.f378.body.bind (findReg 33)).getD #[]
theorem ops33_size:ops33.size=35:=by kernel_rfl
theorem S3 {W:World} {gp:Nat} {t:TypeId} {a b c d e:Value} (L:Loc W gp t #[a,b,c,d,e]):(W.cell? ⟨gp,1,none⟩=some b∧W.cell? ⟨gp,2,none⟩=some c)∧W.cell? ⟨gp,4,none⟩=some e:=⟨⟨Loc.cell L 1,Loc.cell L 2⟩,Loc.cell L 4⟩
section
variable {Q:Exit→Act→World→Prop} {w6 W:World} {B n m c gp gc gRow M p hR hS hB gR gS gB capR capS capB:Nat} {sg:Int} {vS vR vB:Value} {uS uR uB:List Value}

theorem o33_0:ops33[0]? = some { dst:=some 144,op:=Op.move (Operand.tmp 5),type:=364,pos:=(ops33[0]'(by rw [ops33_size]; decide)).pos,after:=(ops33[0]'(by rw [ops33_size]; decide)).after,guard:=none }:=by kernel_rfl
theorem o33_1:ops33[1]? = some { dst:=some 145,op:=Op.move (Operand.tmp 5),type:=364,pos:=(ops33[1]'(by rw [ops33_size]; decide)).pos,after:=(ops33[1]'(by rw [ops33_size]; decide)).after,guard:=none }:=by kernel_rfl
theorem o33_2:ops33[2]? = some { dst:=some 146,op:=Op.move (Operand.tmp 5),type:=364,pos:=(ops33[2]'(by rw [ops33_size]; decide)).pos,after:=(ops33[2]'(by rw [ops33_size]; decide)).after,guard:=none }:=by kernel_rfl
theorem o33_3:ops33[3]? = some { dst:=some 147,op:=Op.move (Operand.tmp 5),type:=364,pos:=(ops33[3]'(by rw [ops33_size]; decide)).pos,after:=(ops33[3]'(by rw [ops33_size]; decide)).after,guard:=none }:=by kernel_rfl
theorem o33_4:ops33[4]? = some { dst:=some 148,op:=Op.nilCheck (Operand.tmp 147),type:=0,pos:=(ops33[4]'(by rw [ops33_size]; decide)).pos,after:=(ops33[4]'(by rw [ops33_size]; decide)).after,guard:=none }:=by kernel_rfl
theorem o33_5:ops33[5]? = some { dst:=some 149,op:=Op.fieldAddr 444 (Operand.tmp 148) 2,type:=0,pos:=(ops33[5]'(by rw [ops33_size]; decide)).pos,after:=(ops33[5]'(by rw [ops33_size]; decide)).after,guard:=none }:=by kernel_rfl
theorem o33_6:ops33[6]? = some { dst:=some 150,op:=Op.load 70 (Operand.tmp 149),type:=70,pos:=(ops33[6]'(by rw [ops33_size]; decide)).pos,after:=(ops33[6]'(by rw [ops33_size]; decide)).after,guard:=none }:=by kernel_rfl
theorem o33_7:ops33[7]? = some { dst:=some 151,op:=Op.move (Operand.tmp 10),type:=71,pos:=(ops33[7]'(by rw [ops33_size]; decide)).pos,after:=(ops33[7]'(by rw [ops33_size]; decide)).after,guard:=none }:=by kernel_rfl
theorem o33_8:ops33[8]? = some { dst:=some 152,op:=Op.buildSlice 70 1 #[(0,Operand.tmp 151)],type:=70,pos:=(ops33[8]'(by rw [ops33_size]; decide)).pos,after:=(ops33[8]'(by rw [ops33_size]; decide)).after,guard:=none }:=by kernel_rfl
theorem o33_9:ops33[9]? = some { dst:=some 153,op:=Op.call { callee:=Callee.builtin Builtin.append,args:=#[Operand.tmp 150,Operand.tmp 152],argTypes:=#[70,70] },type:=70,pos:=(ops33[9]'(by rw [ops33_size]; decide)).pos,after:=(ops33[9]'(by rw [ops33_size]; decide)).after,guard:=none }:=by kernel_rfl
theorem o33_10:ops33[10]? = some { dst:=some 154,op:=Op.move (Operand.tmp 5),type:=364,pos:=(ops33[10]'(by rw [ops33_size]; decide)).pos,after:=(ops33[10]'(by rw [ops33_size]; decide)).after,guard:=none }:=by kernel_rfl
theorem o33_11:ops33[11]? = some { dst:=some 155,op:=Op.nilCheck (Operand.tmp 154),type:=0,pos:=(ops33[11]'(by rw [ops33_size]; decide)).pos,after:=(ops33[11]'(by rw [ops33_size]; decide)).after,guard:=none }:=by kernel_rfl
theorem o33_12:ops33[12]? = some { dst:=some 156,op:=Op.fieldAddr 444 (Operand.tmp 155) 1,type:=0,pos:=(ops33[12]'(by rw [ops33_size]; decide)).pos,after:=(ops33[12]'(by rw [ops33_size]; decide)).after,guard:=none }:=by kernel_rfl
theorem o33_13:ops33[13]? = some { dst:=some 157,op:=Op.load 27 (Operand.tmp 156),type:=27,pos:=(ops33[13]'(by rw [ops33_size]; decide)).pos,after:=(ops33[13]'(by rw [ops33_size]; decide)).after,guard:=none }:=by kernel_rfl
theorem o33_14:ops33[14]? = some { dst:=some 158,op:=Op.move (Operand.tmp 9),type:=3,pos:=(ops33[14]'(by rw [ops33_size]; decide)).pos,after:=(ops33[14]'(by rw [ops33_size]; decide)).after,guard:=none }:=by kernel_rfl
theorem o33_15:ops33[15]? = some { dst:=some 159,op:=Op.buildSlice 27 1 #[(0,Operand.tmp 158)],type:=27,pos:=(ops33[15]'(by rw [ops33_size]; decide)).pos,after:=(ops33[15]'(by rw [ops33_size]; decide)).after,guard:=none }:=by kernel_rfl
theorem o33_16:ops33[16]? = some { dst:=some 160,op:=Op.call { callee:=Callee.builtin Builtin.append,args:=#[Operand.tmp 157,Operand.tmp 159],argTypes:=#[27,27] },type:=27,pos:=(ops33[16]'(by rw [ops33_size]; decide)).pos,after:=(ops33[16]'(by rw [ops33_size]; decide)).after,guard:=none }:=by kernel_rfl
theorem o33_17:ops33[17]? = some { dst:=some 161,op:=Op.move (Operand.tmp 5),type:=364,pos:=(ops33[17]'(by rw [ops33_size]; decide)).pos,after:=(ops33[17]'(by rw [ops33_size]; decide)).after,guard:=none }:=by kernel_rfl
theorem o33_18:ops33[18]? = some { dst:=some 162,op:=Op.nilCheck (Operand.tmp 161),type:=0,pos:=(ops33[18]'(by rw [ops33_size]; decide)).pos,after:=(ops33[18]'(by rw [ops33_size]; decide)).after,guard:=none }:=by kernel_rfl
theorem o33_19:ops33[19]? = some { dst:=some 163,op:=Op.fieldAddr 444 (Operand.tmp 162) 4,type:=0,pos:=(ops33[19]'(by rw [ops33_size]; decide)).pos,after:=(ops33[19]'(by rw [ops33_size]; decide)).after,guard:=none }:=by kernel_rfl
theorem o33_20:ops33[20]? = some { dst:=some 164,op:=Op.load 27 (Operand.tmp 163),type:=27,pos:=(ops33[20]'(by rw [ops33_size]; decide)).pos,after:=(ops33[20]'(by rw [ops33_size]; decide)).after,guard:=none }:=by kernel_rfl
theorem o33_21:ops33[21]? = some { dst:=some 165,op:=Op.move (Operand.tmp 4),type:=3,pos:=(ops33[21]'(by rw [ops33_size]; decide)).pos,after:=(ops33[21]'(by rw [ops33_size]; decide)).after,guard:=none }:=by kernel_rfl
theorem o33_22:ops33[22]? = some { dst:=some 166,op:=Op.move (Operand.tmp 7),type:=3,pos:=(ops33[22]'(by rw [ops33_size]; decide)).pos,after:=(ops33[22]'(by rw [ops33_size]; decide)).after,guard:=none }:=by kernel_rfl
theorem o33_23:ops33[23]? = some { dst:=some 167,op:=Op.binOp BinOp.add 3 (Operand.tmp 165) (Operand.tmp 166) 3,type:=3,pos:=(ops33[23]'(by rw [ops33_size]; decide)).pos,after:=(ops33[23]'(by rw [ops33_size]; decide)).after,guard:=none }:=by kernel_rfl
theorem o33_24:ops33[24]? = some { dst:=some 168,op:=Op.buildSlice 27 1 #[(0,Operand.tmp 167)],type:=27,pos:=(ops33[24]'(by rw [ops33_size]; decide)).pos,after:=(ops33[24]'(by rw [ops33_size]; decide)).after,guard:=none }:=by kernel_rfl
theorem o33_25:ops33[25]? = some { dst:=some 169,op:=Op.call { callee:=Callee.builtin Builtin.append,args:=#[Operand.tmp 164,Operand.tmp 168],argTypes:=#[27,27] },type:=27,pos:=(ops33[25]'(by rw [ops33_size]; decide)).pos,after:=(ops33[25]'(by rw [ops33_size]; decide)).after,guard:=none }:=by kernel_rfl
theorem o33_26:ops33[26]? = some { dst:=some 170,op:=Op.nilCheck (Operand.tmp 144),type:=0,pos:=(ops33[26]'(by rw [ops33_size]; decide)).pos,after:=(ops33[26]'(by rw [ops33_size]; decide)).after,guard:=none }:=by kernel_rfl
theorem o33_27:ops33[27]? = some { dst:=some 171,op:=Op.fieldAddr 444 (Operand.tmp 170) 2,type:=0,pos:=(ops33[27]'(by rw [ops33_size]; decide)).pos,after:=(ops33[27]'(by rw [ops33_size]; decide)).after,guard:=none }:=by kernel_rfl
theorem o33_28:ops33[28]? = some { dst:=none,op:=Op.store 70 (Operand.tmp 171) (Operand.tmp 153),type:=0,pos:=(ops33[28]'(by rw [ops33_size]; decide)).pos,after:=(ops33[28]'(by rw [ops33_size]; decide)).after,guard:=none }:=by kernel_rfl
theorem o33_29:ops33[29]? = some { dst:=some 172,op:=Op.nilCheck (Operand.tmp 145),type:=0,pos:=(ops33[29]'(by rw [ops33_size]; decide)).pos,after:=(ops33[29]'(by rw [ops33_size]; decide)).after,guard:=none }:=by kernel_rfl
theorem o33_30:ops33[30]? = some { dst:=some 173,op:=Op.fieldAddr 444 (Operand.tmp 172) 1,type:=0,pos:=(ops33[30]'(by rw [ops33_size]; decide)).pos,after:=(ops33[30]'(by rw [ops33_size]; decide)).after,guard:=none }:=by kernel_rfl
theorem o33_31:ops33[31]? = some { dst:=none,op:=Op.store 27 (Operand.tmp 173) (Operand.tmp 160),type:=0,pos:=(ops33[31]'(by rw [ops33_size]; decide)).pos,after:=(ops33[31]'(by rw [ops33_size]; decide)).after,guard:=none }:=by kernel_rfl
theorem o33_32:ops33[32]? = some { dst:=some 174,op:=Op.nilCheck (Operand.tmp 146),type:=0,pos:=(ops33[32]'(by rw [ops33_size]; decide)).pos,after:=(ops33[32]'(by rw [ops33_size]; decide)).after,guard:=none }:=by kernel_rfl
theorem o33_33:ops33[33]? = some { dst:=some 175,op:=Op.fieldAddr 444 (Operand.tmp 174) 4,type:=0,pos:=(ops33[33]'(by rw [ops33_size]; decide)).pos,after:=(ops33[33]'(by rw [ops33_size]; decide)).after,guard:=none }:=by kernel_rfl
theorem o33_34:ops33[34]? = some { dst:=none,op:=Op.store 27 (Operand.tmp 175) (Operand.tmp 169),type:=0,pos:=(ops33[34]'(by rw [ops33_size]; decide)).pos,after:=(ops33[34]'(by rw [ops33_size]; decide)).after,guard:=none }:=by kernel_rfl
variable {u0 u1 u2 u3 u6 u8 u11 u12 u13 u14 u15 u16 u17 u18 u19 u20 u21 u22 u23 u24 u25 u26 u27 u28 u29 u30 u31 u32 u33 u34 u35 u36 u37 u38 u39 u40 u41 u42 u43 u44 u45 u46 u47 u48 u49 u50 u51 u52 u53 u54 u55 u56 u57 u58 u59 u60 u61 u62 u63 u64 u65 u66 u67 u68 u69 u70 u71 u72 u73 u74 u75 u76 u77 u78 u79 u80 u81 u82 u83 u84 u85 u86 u87 u88 u89 u90 u91 u92 u93 u94 u95 u96 u97 u98 u99 u100 u101 u102 u103 u104 u105 u106 u107 u108 u109 u110 u111 u112 u113 u114 u115 u116 u117 u118 u119 u120 u121 u122 u123 u124 u125 u126 u127 u128 u129 u130 u131 u132 u133 u134 u135 u136 u137 u138 u139 u140 u141 u142 u143 u144 u145 u146 u147 u148 u149 u150 u151 u152 u153 u154 u155 u156 u157 u158 u159 u160 u161 u162 u163 u164 u165 u166 u167 u168 u169 u170 u171 u172 u173 u174 u175 u176 u177:Value}
def S33 (gp:Nat) (vS vR vB:Value):World→Prop:=fun W=>(W.cell? ⟨gp,1,none⟩=some vS∧W.cell? ⟨gp,2,none⟩=some vR)∧W.cell? ⟨gp,4,none⟩=some vB
/-- What the region leaves. -/
def Out33 (Q:Exit→Act→World→Prop) (w6:World) (B n c gp gRow M p:Nat) (sg:Int) (vS vR vB:Value) (uS uR uB:List Value) (u0 u1 u2 u3 u6 u8 u11 u12 u13 u14 u15 u16 u17 u18 u19 u20 u21 u22 u23 u24 u25 u26 u27 u28 u29 u30 u31 u32 u33 u34 u35 u36 u37 u38 u39 u40 u41 u42 u43 u44 u45 u46 u47 u48 u49 u50 u51 u52 u53 u54 u55 u56 u57 u58 u59 u60 u61 u62 u63 u64 u65 u66 u67 u68 u69 u70 u71 u72 u73 u74 u75 u76 u77 u78 u79 u80 u81 u82 u83 u84 u85 u86 u87 u88 u89 u90 u91 u92 u93 u94 u95 u96 u97 u98 u99 u100 u101 u102 u103 u104 u105 u106 u107 u108 u109 u110 u111 u112 u113 u114 u115 u116 u117 u118 u119 u120 u121 u122 u123 u124 u125 u126 u127 u128 u129 u130 u131 u132 u133 u134 u135 u136 u137 u138 u139 u140 u141 u142 u143 u176 u177:Value):Prop:=
 ∀ (W:World) (gR gS gB capR capS capB:Nat) (v144 v145 v146 v147 v148 v149 v150 v151 v152 v153 v154 v155 v156 v157 v158 v159 v160 v161 v162 v163 v164 v165 v166 v167 v168 v169 v170 v171 v172 v173 v174 v175:Value),Trip w6 W B vS vR vB (.slice (some ⟨gS,0,none⟩) (c+1) capS) (.slice (some ⟨gR,0,none⟩) (c+1) capR) (.slice (some ⟨gB,0,none⟩) (c+1) capB) (uS ++ [.int .i64 sg]) (uR ++ [.slice (some ⟨gRow,0,none⟩) M M]) (uB ++ [.int .i64 (p:Int)])→Q .normal ⟨#[u0,u1,u2,u3,(.int .i64 n),(.pointer (some ⟨gp,0,none⟩)),u6,(.int .i64 c),u8,(.int .i64 sg),(.slice (some ⟨gRow,0,none⟩) M M),u11,u12,u13,u14,u15,u16,u17,u18,u19,u20,u21,u22,u23,u24,u25,u26,u27,u28,u29,u30,u31,u32,u33,u34,u35,u36,u37,u38,u39,u40,u41,u42,u43,u44,u45,u46,u47,u48,u49,u50,u51,u52,u53,u54,u55,u56,u57,u58,u59,u60,u61,u62,u63,u64,u65,u66,u67,u68,u69,u70,u71,u72,u73,u74,u75,u76,u77,u78,u79,u80,u81,u82,u83,u84,u85,u86,u87,u88,u89,u90,u91,u92,u93,u94,u95,u96,u97,u98,u99,u100,u101,u102,u103,u104,u105,u106,u107,u108,u109,u110,u111,u112,u113,u114,u115,u116,u117,u118,u119,u120,u121,u122,u123,u124,u125,u126,u127,u128,u129,u130,u131,u132,u133,u134,u135,u136,u137,u138,u139,u140,u141,u142,u143,v144,v145,v146,v147,v148,v149,v150,v151,v152,v153,v154,v155,v156,v157,v158,v159,v160,v161,v162,v163,v164,v165,v166,v167,v168,v169,v170,v171,v172,v173,v174,v175,u176,u177],[]⟩ (((W.setCell ⟨gp,2,none⟩ (.slice (some ⟨gR,0,none⟩) (c+1) capR)).setCell ⟨gp,1,none⟩ (.slice (some ⟨gS,0,none⟩) (c+1) capS)).setCell ⟨gp,4,none⟩ (.slice (some ⟨gB,0,none⟩) (c+1) capB))

structure US_Reg33 where
 (u0 u1 u2 u3 u6 u8 u11 u12 u13 u14 u15 u16 u17 u18 u19 u20 u21 u22 u23 u24 u25 u26 u27 u28 u29 u30 u31 u32 u33 u34 u35 u36 u37 u38 u39 u40 u41 u42 u43 u44 u45 u46 u47 u48 u49 u50 u51 u52 u53 u54 u55 u56 u57 u58 u59 u60 u61 u62 u63 u64 u65 u66 u67 u68 u69 u70 u71 u72 u73 u74 u75 u76 u77 u78 u79 u80 u81 u82 u83 u84 u85 u86 u87 u88 u89 u90 u91 u92 u93 u94 u95 u96 u97 u98 u99 u100 u101 u102 u103 u104 u105 u106 u107 u108 u109 u110 u111 u112 u113 u114 u115 u116 u117 u118 u119 u120 u121 u122 u123 u124 u125 u126 u127 u128 u129 u130 u131 u132 u133 u134 u135 u136 u137 u138 u139 u140 u141 u142 u143 u170 u171 u172 u173 u174 u175 u176 u177:Value)
def FR_Reg33 (s:US_Reg33) (n:Nat) (gp:Nat) (c:Nat) (sg:Int) (gRow:Nat) (M:Nat) (vR:Value) (vS:Value) (vB:Value) (p:Nat) (x152 x153 x159 x160 x168 x169:Value):Act:=⟨#[s.u0,s.u1,s.u2,s.u3,(.int .i64 n),(.pointer (some ⟨gp,0,none⟩)),s.u6,(.int .i64 c),s.u8,(.int .i64 sg),(.slice (some ⟨gRow,0,none⟩) M M),s.u11,s.u12,s.u13,s.u14,s.u15,s.u16,s.u17,s.u18,s.u19,s.u20,s.u21,s.u22,s.u23,s.u24,s.u25,s.u26,s.u27,s.u28,s.u29,s.u30,s.u31,s.u32,s.u33,s.u34,s.u35,s.u36,s.u37,s.u38,s.u39,s.u40,s.u41,s.u42,s.u43,s.u44,s.u45,s.u46,s.u47,s.u48,s.u49,s.u50,s.u51,s.u52,s.u53,s.u54,s.u55,s.u56,s.u57,s.u58,s.u59,s.u60,s.u61,s.u62,s.u63,s.u64,s.u65,s.u66,s.u67,s.u68,s.u69,s.u70,s.u71,s.u72,s.u73,s.u74,s.u75,s.u76,s.u77,s.u78,s.u79,s.u80,s.u81,s.u82,s.u83,s.u84,s.u85,s.u86,s.u87,s.u88,s.u89,s.u90,s.u91,s.u92,s.u93,s.u94,s.u95,s.u96,s.u97,s.u98,s.u99,s.u100,s.u101,s.u102,s.u103,s.u104,s.u105,s.u106,s.u107,s.u108,s.u109,s.u110,s.u111,s.u112,s.u113,s.u114,s.u115,s.u116,s.u117,s.u118,s.u119,s.u120,s.u121,s.u122,s.u123,s.u124,s.u125,s.u126,s.u127,s.u128,s.u129,s.u130,s.u131,s.u132,s.u133,s.u134,s.u135,s.u136,s.u137,s.u138,s.u139,s.u140,s.u141,s.u142,s.u143,(.pointer (some ⟨gp,0,none⟩)),(.pointer (some ⟨gp,0,none⟩)),(.pointer (some ⟨gp,0,none⟩)),(.pointer (some ⟨gp,0,none⟩)),(.pointer (some ⟨gp,0,none⟩)),(.pointer (some ⟨gp,2,none⟩)),vR,(.slice (some ⟨gRow,0,none⟩) M M),x152,x153,(.pointer (some ⟨gp,0,none⟩)),(.pointer (some ⟨gp,0,none⟩)),(.pointer (some ⟨gp,1,none⟩)),vS,(.int .i64 sg),x159,x160,(.pointer (some ⟨gp,0,none⟩)),(.pointer (some ⟨gp,0,none⟩)),(.pointer (some ⟨gp,4,none⟩)),vB,(.int .i64 n),(.int .i64 c),(.int .i64 p),x168,x169,s.u170,s.u171,s.u172,s.u173,s.u174,s.u175,s.u176,s.u177],[]⟩
structure CX_Reg33 (s:US_Reg33) (w6:World) (gp:Nat) (n:Nat) (vS:Value) (vR:Value) (gc:Nat) (M:Nat) (vB:Value) (uS:List Value) (c:Nat) (uR:List Value) (uB:List Value) (B:Nat) (Q:Exit→Act→World→Prop) (gRow:Nat) (p:Nat) (sg:Int):Prop where
 hBox:Loc w6 gp 444 #[.int .i64 n,vS,vR, .slice (some ⟨gc,0,none⟩) M M,vB]
 aS:vS.ownBlock ≠ some gp
 aR:vR.ownBlock ≠ some gp
 aB:vB.ownBlock ≠ some gp
 hlS:Hid (uS.length=c)
 hlR:Hid (uR.length=c)
 hlB:Hid (uB.length=c)
 hc80:c≤80
 hBw:B≤w6.heap.size
 hOut:Out33 Q w6 B n c gp gRow M p sg vS vR vB uS uR uB s.u0 s.u1 s.u2 s.u3 s.u6 s.u8 s.u11 s.u12 s.u13 s.u14 s.u15 s.u16 s.u17 s.u18 s.u19 s.u20 s.u21 s.u22 s.u23 s.u24 s.u25 s.u26 s.u27 s.u28 s.u29 s.u30 s.u31 s.u32 s.u33 s.u34 s.u35 s.u36 s.u37 s.u38 s.u39 s.u40 s.u41 s.u42 s.u43 s.u44 s.u45 s.u46 s.u47 s.u48 s.u49 s.u50 s.u51 s.u52 s.u53 s.u54 s.u55 s.u56 s.u57 s.u58 s.u59 s.u60 s.u61 s.u62 s.u63 s.u64 s.u65 s.u66 s.u67 s.u68 s.u69 s.u70 s.u71 s.u72 s.u73 s.u74 s.u75 s.u76 s.u77 s.u78 s.u79 s.u80 s.u81 s.u82 s.u83 s.u84 s.u85 s.u86 s.u87 s.u88 s.u89 s.u90 s.u91 s.u92 s.u93 s.u94 s.u95 s.u96 s.u97 s.u98 s.u99 s.u100 s.u101 s.u102 s.u103 s.u104 s.u105 s.u106 s.u107 s.u108 s.u109 s.u110 s.u111 s.u112 s.u113 s.u114 s.u115 s.u116 s.u117 s.u118 s.u119 s.u120 s.u121 s.u122 s.u123 s.u124 s.u125 s.u126 s.u127 s.u128 s.u129 s.u130 s.u131 s.u132 s.u133 s.u134 s.u135 s.u136 s.u137 s.u138 s.u139 s.u140 s.u141 s.u142 s.u143 s.u176 s.u177
variable {s:US_Reg33}
set_option maxRecDepth 100000 in
set_option maxHeartbeats 4000000 in
theorem st33_RSB_3 (hHeld:S33 gp vS vR vB W) (ls:Array Bool) (hls:ls=#[true,true,true,true,true,true,true,true,true,true,true,true,true,true,true,true,true,true,true,true,true,true,true,true,true,true,false,false,false,false,false,false,false,false,false]) (T:Trip w6 W B vS vR vB (.slice (some ⟨gS,0,none⟩) (c+1) capS) (.slice (some ⟨gR,0,none⟩) (c+1) capR) (.slice (some ⟨gB,0,none⟩) (c+1) capB) (uS ++ [.int .i64 sg]) (uR ++ [.slice (some ⟨gRow,0,none⟩) M M]) (uB ++ [.int .i64 (p:Int)])) (C:CX_Reg33 s w6 gp n vS vR gc M vB uS c uR uB B Q gRow p sg) :
 wpAnyK Tryz.prog .any ops33 (NoPanic Q) (S33 gp vS vR vB) 28 9 ls (FR_Reg33 s n gp c sg gRow M vR vS vB p u152 (.slice (some ⟨gR,0,none⟩) (c+1) capR) u159 (.slice (some ⟨gS,0,none⟩) (c+1) capS) u168 (.slice (some ⟨gB,0,none⟩) (c+1) capB)) W:=by
 subst hls
 unfold FR_Reg33
 obtain ⟨hBox,aS,aR,aB,hlS,hlR,hlB,hc80,hBw,hOut⟩:=id C
 refine wpAnyK_pure (i:=26) (v:=?_) o33_26 (by kernel_rfl) (by kernel_rfl) (by kernel_rfl) (by kernel_rfl) (fun _ _ _ h=>h) (Or.inl ⟨by kernel_rfl,?_⟩) (fun _=>hHeld) ?_
 rotate_left 1
 ·(intro w _; first | (go_simp; done) | (go_simp; with_reducible rfl))
 (try simp only [Act.put,ly])
 refine wpAnyK_pure (i:=27) (v:=?_) o33_27 (by kernel_rfl) (by kernel_rfl) (by kernel_rfl) (by kernel_rfl) (fun _ _ _ h=>h) (Or.inl ⟨by kernel_rfl,?_⟩) (fun _=>hHeld) ?_
 rotate_left 1
 ·(intro w _; first | (go_simp; done) | (go_simp; with_reducible rfl))
 (try simp only [Act.put,ly])
 have LBW:=T.box hBox aS aR aB
 obtain ⟨e5,f5,l5⟩:=LBW.all (w':=W)
 refine wpAnyK_ready (rs:=[28]) (by kernel_rfl) (by simp) ?_
 refine AllReadyK.last (by kernel_rfl) o33_28 (fun KK hKK=>?_) AllReadyK.nil
 go_simp
 refine hKK.out _ _ ?_
 clear hKK KK
 (try simp only [Act.put,ly])
 refine wpAnyK_ready (rs:=[29]) (by kernel_rfl) (by simp) ?_
 refine AllReadyK.last (by kernel_rfl) o33_29 (fun KK hKK=>?_) AllReadyK.nil
 go_simp
 refine hKK.out _ _ ?_
 clear hKK KK
 (try simp only [Act.put,ly])
 refine wpAnyK_ready (rs:=[30]) (by kernel_rfl) (by simp) ?_
 refine AllReadyK.last (by kernel_rfl) o33_30 (fun KK hKK=>?_) AllReadyK.nil
 go_simp
 refine hKK.out _ _ ?_
 clear hKK KK
 (try simp only [Act.put,ly])
 refine wpAnyK_ready (rs:=[31]) (by kernel_rfl) (by simp) ?_
 refine AllReadyK.last (by kernel_rfl) o33_31 (fun KK hKK=>?_) AllReadyK.nil
 go_simp
 refine hKK.out _ _ ?_
 clear hKK KK
 (try simp only [Act.put,ly])
 refine wpAnyK_ready (rs:=[32]) (by kernel_rfl) (by simp) ?_
 refine AllReadyK.last (by kernel_rfl) o33_32 (fun KK hKK=>?_) AllReadyK.nil
 go_simp
 refine hKK.out _ _ ?_
 clear hKK KK
 (try simp only [Act.put,ly])
 refine wpAnyK_ready (rs:=[33]) (by kernel_rfl) (by simp) ?_
 refine AllReadyK.last (by kernel_rfl) o33_33 (fun KK hKK=>?_) AllReadyK.nil
 go_simp
 refine hKK.out _ _ ?_
 clear hKK KK
 (try simp only [Act.put,ly])
 refine wpAnyK_ready (rs:=[34]) (by kernel_rfl) (by simp) ?_
 refine AllReadyK.last (by kernel_rfl) o33_34 (fun KK hKK=>?_) AllReadyK.nil
 go_simp
 refine hKK.out _ _ ?_
 clear hKK KK
 (try simp only [Act.put,ly])
 refine wpAnyK_done (by kernel_rfl) ?_ _
 refine NoPanic.normal ?_
 exact hOut _ _ _ _ _ _ _ _ _ _ _ _ _ _ _ _ _ _ _ _ _ _ _ _ _ _ _ _ _ _ _ _ _ _ _ _ _ _ _ T

set_option maxRecDepth 100000 in
set_option maxHeartbeats 4000000 in
theorem st33_RSB_2 (hHeld:S33 gp vS vR vB W) (ls:Array Bool) (hls:ls=#[true,true,true,true,true,true,true,true,true,true,true,true,true,true,true,true,true,true,true,true,true,true,true,true,true,false,false,false,false,false,false,false,false,false,false]) (T:Trip w6 W B vS vR vB (.slice (some ⟨gS,0,none⟩) (c+1) capS) (.slice (some ⟨gR,0,none⟩) (c+1) capR) vB (uS ++ [.int .i64 sg]) (uR ++ [.slice (some ⟨gRow,0,none⟩) M M]) uB) (LB:Loc W hB 3 #[.int .i64 (p:Int)]) (hlhB:w6.heap.size≤hB) (C:CX_Reg33 s w6 gp n vS vR gc M vB uS c uR uB B Q gRow p sg) :
 wpAnyK Tryz.prog .any ops33 (NoPanic Q) (S33 gp vS vR vB) 28 10 ls (FR_Reg33 s n gp c sg gRow M vR vS vB p u152 (.slice (some ⟨gR,0,none⟩) (c+1) capR) u159 (.slice (some ⟨gS,0,none⟩) (c+1) capS) (.slice (some ⟨hB,0,none⟩) 1 1) u169) W:=by
 subst hls
 unfold FR_Reg33
 obtain ⟨hBox,aS,aR,aB,hlS,hlR,hlB,hc80,hBw,hOut⟩:=id C
 refine wpAnyK_ready (rs:=[25]) (by kernel_rfl) (by simp) ?_
 refine (AllReadyK.cons o33_25 (fun KK hKK=>?_) AllReadyK.nil)
 ·refine step_push1n _ rfl _ _ rfl Tryz.underlying27 info_int1 rfl (by decide) B vB uB c hlB.out rfl T.oB hB _ rfl LB rfl (by omega) (by have:=T.keep.size; omega) ?_
  intro gB capB W1 h1 h2 h3 h4
  have T1:=T.pushB h1 h2 h3
  clear h1 h2 h3 h4
  refine hKK.out _ _ (S3 (T1.box hBox aS aR aB)) (fun hHeld=>?_)
  clear hKK KK
  (try simp only [Act.put,ly])
  exact st33_RSB_3 hHeld _ (by kernel_rfl) (T1) C

set_option maxRecDepth 100000 in
set_option maxHeartbeats 4000000 in
theorem st33_RS_2 (hHeld:S33 gp vS vR vB W) (ls:Array Bool) (hls:ls=#[true,true,true,true,true,true,true,true,true,true,true,true,true,true,true,true,true,true,true,true,true,true,true,true,false,false,false,false,false,false,false,false,false,false,false]) (T:Trip w6 W B vS vR vB (.slice (some ⟨gS,0,none⟩) (c+1) capS) (.slice (some ⟨gR,0,none⟩) (c+1) capR) vB (uS ++ [.int .i64 sg]) (uR ++ [.slice (some ⟨gRow,0,none⟩) M M]) uB) (C:CX_Reg33 s w6 gp n vS vR gc M vB uS c uR uB B Q gRow p sg) :
 wpAnyK Tryz.prog .any ops33 (NoPanic Q) (S33 gp vS vR vB) 28 11 ls (FR_Reg33 s n gp c sg gRow M vR vS vB p u152 (.slice (some ⟨gR,0,none⟩) (c+1) capR) u159 (.slice (some ⟨gS,0,none⟩) (c+1) capS) u168 u169) W:=by
 subst hls
 unfold FR_Reg33
 obtain ⟨hBox,aS,aR,aB,hlS,hlR,hlB,hc80,hBw,hOut⟩:=id C
 refine wpAnyK_ready (rs:=[24]) (by kernel_rfl) (by simp) ?_
 refine (AllReadyK.cons o33_24 (fun KK hKK=>?_) AllReadyK.nil)
 ·go_simp
  have T1:=T.alloc (.cells #[.int .i64 p] 3)
  have LB:=made1 W #[.int .i64 p] 3
  have hlhB:w6.heap.size≤W.heap.size:=T.keep.size
  refine hKK.out _ _ (S3 (T1.box hBox aS aR aB)) (fun hHeld=>?_)
  clear hKK KK
  (try simp only [Act.put,ly])
  exact st33_RSB_2 hHeld _ (by kernel_rfl) (T1) LB hlhB C

set_option maxRecDepth 100000 in
set_option maxHeartbeats 4000000 in
theorem st33_RSB_1 (hHeld:S33 gp vS vR vB W) (ls:Array Bool) (hls:ls=#[true,true,true,true,true,true,true,true,true,true,true,true,true,true,true,true,false,true,true,true,true,true,true,true,true,false,false,false,false,false,false,false,false,false,false]) (T:Trip w6 W B vS vR vB vS (.slice (some ⟨gR,0,none⟩) (c+1) capR) vB uS (uR ++ [.slice (some ⟨gRow,0,none⟩) M M]) uB) (LS:Loc W hS 3 #[.int .i64 sg]) (hlhS:w6.heap.size≤hS) (LB:Loc W hB 3 #[.int .i64 (p:Int)]) (hlhB:w6.heap.size≤hB) (C:CX_Reg33 s w6 gp n vS vR gc M vB uS c uR uB B Q gRow p sg) :
 wpAnyK Tryz.prog .any ops33 (NoPanic Q) (S33 gp vS vR vB) 28 11 ls (FR_Reg33 s n gp c sg gRow M vR vS vB p u152 (.slice (some ⟨gR,0,none⟩) (c+1) capR) (.slice (some ⟨hS,0,none⟩) 1 1) u160 (.slice (some ⟨hB,0,none⟩) 1 1) u169) W:=by
 subst hls
 unfold FR_Reg33
 obtain ⟨hBox,aS,aR,aB,hlS,hlR,hlB,hc80,hBw,hOut⟩:=id C
 refine wpAnyK_ready (rs:=[16]) (by kernel_rfl) (by simp) ?_
 refine (AllReadyK.cons o33_16 (fun KK hKK=>?_) AllReadyK.nil)
 ·refine step_push1n _ rfl _ _ rfl Tryz.underlying27 info_int1 rfl (by decide) B vS uS c hlS.out rfl T.oS hS _ rfl LS rfl (by omega) (by have:=T.keep.size; omega) ?_
  intro gS capS W1 h1 h2 h3 h4
  have T1:=T.pushS h1 h2 h3
  replace LB:=loc_grown T.lS h2 LB hlhB
  clear h1 h2 h3 h4
  refine hKK.out _ _ (S3 (T1.box hBox aS aR aB)) (fun hHeld=>?_)
  clear hKK KK
  (try simp only [Act.put,ly])
  exact st33_RSB_2 hHeld _ (by kernel_rfl) (T1) LB hlhB C

set_option maxRecDepth 100000 in
set_option maxHeartbeats 4000000 in
theorem st33_RS_1 (hHeld:S33 gp vS vR vB W) (ls:Array Bool) (hls:ls=#[true,true,true,true,true,true,true,true,true,true,true,true,true,true,true,true,false,true,true,true,true,true,true,true,false,false,false,false,false,false,false,false,false,false,false]) (T:Trip w6 W B vS vR vB vS (.slice (some ⟨gR,0,none⟩) (c+1) capR) vB uS (uR ++ [.slice (some ⟨gRow,0,none⟩) M M]) uB) (LS:Loc W hS 3 #[.int .i64 sg]) (hlhS:w6.heap.size≤hS) (C:CX_Reg33 s w6 gp n vS vR gc M vB uS c uR uB B Q gRow p sg) :
 wpAnyK Tryz.prog .any ops33 (NoPanic Q) (S33 gp vS vR vB) 28 12 ls (FR_Reg33 s n gp c sg gRow M vR vS vB p u152 (.slice (some ⟨gR,0,none⟩) (c+1) capR) (.slice (some ⟨hS,0,none⟩) 1 1) u160 u168 u169) W:=by
 subst hls
 unfold FR_Reg33
 obtain ⟨hBox,aS,aR,aB,hlS,hlR,hlB,hc80,hBw,hOut⟩:=id C
 refine wpAnyK_ready (rs:=[16,24]) (by kernel_rfl) (by simp) ?_
 refine (AllReadyK.cons o33_16 (fun KK hKK=>?_) (AllReadyK.cons o33_24 (fun KK hKK=>?_) AllReadyK.nil))
 ·refine step_push1n _ rfl _ _ rfl Tryz.underlying27 info_int1 rfl (by decide) B vS uS c hlS.out rfl T.oS hS _ rfl LS rfl (by omega) (by have:=T.keep.size; omega) ?_
  intro gS capS W1 h1 h2 h3 h4
  have T1:=T.pushS h1 h2 h3
  clear h1 h2 h3 h4
  refine hKK.out _ _ (S3 (T1.box hBox aS aR aB)) (fun hHeld=>?_)
  clear hKK KK
  (try simp only [Act.put,ly])
  exact st33_RS_2 hHeld _ (by kernel_rfl) (T1) C
 ·go_simp
  have T1:=T.alloc (.cells #[.int .i64 p] 3)
  have LB:=made1 W #[.int .i64 p] 3
  replace LS:=Loc.alloc LS (.cells #[.int .i64 p] 3)
  have hlhB:w6.heap.size≤W.heap.size:=T.keep.size
  refine hKK.out _ _ (S3 (T1.box hBox aS aR aB)) (fun hHeld=>?_)
  clear hKK KK
  (try simp only [Act.put,ly])
  exact st33_RSB_1 hHeld _ (by kernel_rfl) (T1) LS hlhS LB hlhB C

set_option maxRecDepth 100000 in
set_option maxHeartbeats 4000000 in
theorem st33_RB_1 (hHeld:S33 gp vS vR vB W) (ls:Array Bool) (hls:ls=#[true,true,true,true,true,true,true,true,true,true,true,true,true,true,true,false,false,true,true,true,true,true,true,true,true,false,false,false,false,false,false,false,false,false,false]) (T:Trip w6 W B vS vR vB vS (.slice (some ⟨gR,0,none⟩) (c+1) capR) vB uS (uR ++ [.slice (some ⟨gRow,0,none⟩) M M]) uB) (LB:Loc W hB 3 #[.int .i64 (p:Int)]) (hlhB:w6.heap.size≤hB) (C:CX_Reg33 s w6 gp n vS vR gc M vB uS c uR uB B Q gRow p sg) :
 wpAnyK Tryz.prog .any ops33 (NoPanic Q) (S33 gp vS vR vB) 28 12 ls (FR_Reg33 s n gp c sg gRow M vR vS vB p u152 (.slice (some ⟨gR,0,none⟩) (c+1) capR) u159 u160 (.slice (some ⟨hB,0,none⟩) 1 1) u169) W:=by
 subst hls
 unfold FR_Reg33
 obtain ⟨hBox,aS,aR,aB,hlS,hlR,hlB,hc80,hBw,hOut⟩:=id C
 refine wpAnyK_ready (rs:=[15]) (by kernel_rfl) (by simp) ?_
 refine (AllReadyK.cons o33_15 (fun KK hKK=>?_) AllReadyK.nil)
 ·go_simp
  have T1:=T.alloc (.cells #[.int .i64 sg] 3)
  have LS:=made1 W #[.int .i64 sg] 3
  replace LB:=Loc.alloc LB (.cells #[.int .i64 sg] 3)
  have hlhS:w6.heap.size≤W.heap.size:=T.keep.size
  refine hKK.out _ _ (S3 (T1.box hBox aS aR aB)) (fun hHeld=>?_)
  clear hKK KK
  (try simp only [Act.put,ly])
  exact st33_RSB_1 hHeld _ (by kernel_rfl) (T1) LS hlhS LB hlhB C

set_option maxRecDepth 100000 in
set_option maxHeartbeats 4000000 in
theorem st33_RSB_0 (hHeld:S33 gp vS vR vB W) (ls:Array Bool) (hls:ls=#[true,true,true,true,true,true,true,true,true,false,true,true,true,true,true,true,false,true,true,true,true,true,true,true,true,false,false,false,false,false,false,false,false,false,false]) (T:Trip w6 W B vS vR vB vS vR vB uS uR uB) (LR:Loc W hR 71 #[.slice (some ⟨gRow,0,none⟩) M M]) (hlhR:w6.heap.size≤hR) (LS:Loc W hS 3 #[.int .i64 sg]) (hlhS:w6.heap.size≤hS) (LB:Loc W hB 3 #[.int .i64 (p:Int)]) (hlhB:w6.heap.size≤hB) (C:CX_Reg33 s w6 gp n vS vR gc M vB uS c uR uB B Q gRow p sg) :
 wpAnyK Tryz.prog .any ops33 (NoPanic Q) (S33 gp vS vR vB) 28 12 ls (FR_Reg33 s n gp c sg gRow M vR vS vB p (.slice (some ⟨hR,0,none⟩) 1 1) u153 (.slice (some ⟨hS,0,none⟩) 1 1) u160 (.slice (some ⟨hB,0,none⟩) 1 1) u169) W:=by
 subst hls
 unfold FR_Reg33
 obtain ⟨hBox,aS,aR,aB,hlS,hlR,hlB,hc80,hBw,hOut⟩:=id C
 refine wpAnyK_ready (rs:=[9]) (by kernel_rfl) (by simp) ?_
 refine (AllReadyK.cons o33_9 (fun KK hKK=>?_) AllReadyK.nil)
 ·refine step_push1n _ rfl _ _ rfl Tryz.underlying70 info_list1 rfl (by decide) B vR uR c hlR.out rfl T.oR hR _ rfl LR rfl (by omega) (by have:=T.keep.size; omega) ?_
  intro gR capR W1 h1 h2 h3 h4
  have T1:=T.pushR h1 h2 h3
  replace LS:=loc_grown T.lR h2 LS hlhS
  replace LB:=loc_grown T.lR h2 LB hlhB
  clear h1 h2 h3 h4
  refine hKK.out _ _ (S3 (T1.box hBox aS aR aB)) (fun hHeld=>?_)
  clear hKK KK
  (try simp only [Act.put,ly])
  exact st33_RSB_1 hHeld _ (by kernel_rfl) (T1) LS hlhS LB hlhB C

set_option maxRecDepth 100000 in
set_option maxHeartbeats 4000000 in
theorem st33_R_1 (hHeld:S33 gp vS vR vB W) (ls:Array Bool) (hls:ls=#[true,true,true,true,true,true,true,true,true,true,true,true,true,true,true,false,false,true,true,true,true,true,true,true,false,false,false,false,false,false,false,false,false,false,false]) (T:Trip w6 W B vS vR vB vS (.slice (some ⟨gR,0,none⟩) (c+1) capR) vB uS (uR ++ [.slice (some ⟨gRow,0,none⟩) M M]) uB) (C:CX_Reg33 s w6 gp n vS vR gc M vB uS c uR uB B Q gRow p sg) :
 wpAnyK Tryz.prog .any ops33 (NoPanic Q) (S33 gp vS vR vB) 28 13 ls (FR_Reg33 s n gp c sg gRow M vR vS vB p u152 (.slice (some ⟨gR,0,none⟩) (c+1) capR) u159 u160 u168 u169) W:=by
 subst hls
 unfold FR_Reg33
 obtain ⟨hBox,aS,aR,aB,hlS,hlR,hlB,hc80,hBw,hOut⟩:=id C
 refine wpAnyK_ready (rs:=[15,24]) (by kernel_rfl) (by simp) ?_
 refine (AllReadyK.cons o33_15 (fun KK hKK=>?_) (AllReadyK.cons o33_24 (fun KK hKK=>?_) AllReadyK.nil))
 ·go_simp
  have T1:=T.alloc (.cells #[.int .i64 sg] 3)
  have LS:=made1 W #[.int .i64 sg] 3
  have hlhS:w6.heap.size≤W.heap.size:=T.keep.size
  refine hKK.out _ _ (S3 (T1.box hBox aS aR aB)) (fun hHeld=>?_)
  clear hKK KK
  (try simp only [Act.put,ly])
  exact st33_RS_1 hHeld _ (by kernel_rfl) (T1) LS hlhS C
 ·go_simp
  have T1:=T.alloc (.cells #[.int .i64 p] 3)
  have LB:=made1 W #[.int .i64 p] 3
  have hlhB:w6.heap.size≤W.heap.size:=T.keep.size
  refine hKK.out _ _ (S3 (T1.box hBox aS aR aB)) (fun hHeld=>?_)
  clear hKK KK
  (try simp only [Act.put,ly])
  exact st33_RB_1 hHeld _ (by kernel_rfl) (T1) LB hlhB C

set_option maxRecDepth 100000 in
set_option maxHeartbeats 4000000 in
theorem st33_RS_0 (hHeld:S33 gp vS vR vB W) (ls:Array Bool) (hls:ls=#[true,true,true,true,true,true,true,true,true,false,true,true,true,true,true,true,false,true,true,true,true,true,true,true,false,false,false,false,false,false,false,false,false,false,false]) (T:Trip w6 W B vS vR vB vS vR vB uS uR uB) (LR:Loc W hR 71 #[.slice (some ⟨gRow,0,none⟩) M M]) (hlhR:w6.heap.size≤hR) (LS:Loc W hS 3 #[.int .i64 sg]) (hlhS:w6.heap.size≤hS) (C:CX_Reg33 s w6 gp n vS vR gc M vB uS c uR uB B Q gRow p sg) :
 wpAnyK Tryz.prog .any ops33 (NoPanic Q) (S33 gp vS vR vB) 28 13 ls (FR_Reg33 s n gp c sg gRow M vR vS vB p (.slice (some ⟨hR,0,none⟩) 1 1) u153 (.slice (some ⟨hS,0,none⟩) 1 1) u160 u168 u169) W:=by
 subst hls
 unfold FR_Reg33
 obtain ⟨hBox,aS,aR,aB,hlS,hlR,hlB,hc80,hBw,hOut⟩:=id C
 refine wpAnyK_ready (rs:=[9,24]) (by kernel_rfl) (by simp) ?_
 refine (AllReadyK.cons o33_9 (fun KK hKK=>?_) (AllReadyK.cons o33_24 (fun KK hKK=>?_) AllReadyK.nil))
 ·refine step_push1n _ rfl _ _ rfl Tryz.underlying70 info_list1 rfl (by decide) B vR uR c hlR.out rfl T.oR hR _ rfl LR rfl (by omega) (by have:=T.keep.size; omega) ?_
  intro gR capR W1 h1 h2 h3 h4
  have T1:=T.pushR h1 h2 h3
  replace LS:=loc_grown T.lR h2 LS hlhS
  clear h1 h2 h3 h4
  refine hKK.out _ _ (S3 (T1.box hBox aS aR aB)) (fun hHeld=>?_)
  clear hKK KK
  (try simp only [Act.put,ly])
  exact st33_RS_1 hHeld _ (by kernel_rfl) (T1) LS hlhS C
 ·go_simp
  have T1:=T.alloc (.cells #[.int .i64 p] 3)
  have LB:=made1 W #[.int .i64 p] 3
  replace LR:=Loc.alloc LR (.cells #[.int .i64 p] 3)
  replace LS:=Loc.alloc LS (.cells #[.int .i64 p] 3)
  have hlhB:w6.heap.size≤W.heap.size:=T.keep.size
  refine hKK.out _ _ (S3 (T1.box hBox aS aR aB)) (fun hHeld=>?_)
  clear hKK KK
  (try simp only [Act.put,ly])
  exact st33_RSB_0 hHeld _ (by kernel_rfl) (T1) LR hlhR LS hlhS LB hlhB C

set_option maxRecDepth 100000 in
set_option maxHeartbeats 4000000 in
theorem st33_RB_0 (hHeld:S33 gp vS vR vB W) (ls:Array Bool) (hls:ls=#[true,true,true,true,true,true,true,true,true,false,true,true,true,true,true,false,false,true,true,true,true,true,true,true,true,false,false,false,false,false,false,false,false,false,false]) (T:Trip w6 W B vS vR vB vS vR vB uS uR uB) (LR:Loc W hR 71 #[.slice (some ⟨gRow,0,none⟩) M M]) (hlhR:w6.heap.size≤hR) (LB:Loc W hB 3 #[.int .i64 (p:Int)]) (hlhB:w6.heap.size≤hB) (C:CX_Reg33 s w6 gp n vS vR gc M vB uS c uR uB B Q gRow p sg) :
 wpAnyK Tryz.prog .any ops33 (NoPanic Q) (S33 gp vS vR vB) 28 13 ls (FR_Reg33 s n gp c sg gRow M vR vS vB p (.slice (some ⟨hR,0,none⟩) 1 1) u153 u159 u160 (.slice (some ⟨hB,0,none⟩) 1 1) u169) W:=by
 subst hls
 unfold FR_Reg33
 obtain ⟨hBox,aS,aR,aB,hlS,hlR,hlB,hc80,hBw,hOut⟩:=id C
 refine wpAnyK_ready (rs:=[9,15]) (by kernel_rfl) (by simp) ?_
 refine (AllReadyK.cons o33_9 (fun KK hKK=>?_) (AllReadyK.cons o33_15 (fun KK hKK=>?_) AllReadyK.nil))
 ·refine step_push1n _ rfl _ _ rfl Tryz.underlying70 info_list1 rfl (by decide) B vR uR c hlR.out rfl T.oR hR _ rfl LR rfl (by omega) (by have:=T.keep.size; omega) ?_
  intro gR capR W1 h1 h2 h3 h4
  have T1:=T.pushR h1 h2 h3
  replace LB:=loc_grown T.lR h2 LB hlhB
  clear h1 h2 h3 h4
  refine hKK.out _ _ (S3 (T1.box hBox aS aR aB)) (fun hHeld=>?_)
  clear hKK KK
  (try simp only [Act.put,ly])
  exact st33_RB_1 hHeld _ (by kernel_rfl) (T1) LB hlhB C
 ·go_simp
  have T1:=T.alloc (.cells #[.int .i64 sg] 3)
  have LS:=made1 W #[.int .i64 sg] 3
  replace LR:=Loc.alloc LR (.cells #[.int .i64 sg] 3)
  replace LB:=Loc.alloc LB (.cells #[.int .i64 sg] 3)
  have hlhS:w6.heap.size≤W.heap.size:=T.keep.size
  refine hKK.out _ _ (S3 (T1.box hBox aS aR aB)) (fun hHeld=>?_)
  clear hKK KK
  (try simp only [Act.put,ly])
  exact st33_RSB_0 hHeld _ (by kernel_rfl) (T1) LR hlhR LS hlhS LB hlhB C

set_option maxRecDepth 100000 in
set_option maxHeartbeats 4000000 in
theorem st33_SB_0 (hHeld:S33 gp vS vR vB W) (ls:Array Bool) (hls:ls=#[true,true,true,true,true,true,true,true,false,false,true,true,true,true,true,true,false,true,true,true,true,true,true,true,true,false,false,false,false,false,false,false,false,false,false]) (T:Trip w6 W B vS vR vB vS vR vB uS uR uB) (LS:Loc W hS 3 #[.int .i64 sg]) (hlhS:w6.heap.size≤hS) (LB:Loc W hB 3 #[.int .i64 (p:Int)]) (hlhB:w6.heap.size≤hB) (C:CX_Reg33 s w6 gp n vS vR gc M vB uS c uR uB B Q gRow p sg) :
 wpAnyK Tryz.prog .any ops33 (NoPanic Q) (S33 gp vS vR vB) 28 13 ls (FR_Reg33 s n gp c sg gRow M vR vS vB p u152 u153 (.slice (some ⟨hS,0,none⟩) 1 1) u160 (.slice (some ⟨hB,0,none⟩) 1 1) u169) W:=by
 subst hls
 unfold FR_Reg33
 obtain ⟨hBox,aS,aR,aB,hlS,hlR,hlB,hc80,hBw,hOut⟩:=id C
 refine wpAnyK_ready (rs:=[8]) (by kernel_rfl) (by simp) ?_
 refine (AllReadyK.cons o33_8 (fun KK hKK=>?_) AllReadyK.nil)
 ·go_simp
  have T1:=T.alloc (.cells #[.slice (some ⟨gRow,0,none⟩) M M] 71)
  have LR:=made1 W #[.slice (some ⟨gRow,0,none⟩) M M] 71
  replace LS:=Loc.alloc LS (.cells #[.slice (some ⟨gRow,0,none⟩) M M] 71)
  replace LB:=Loc.alloc LB (.cells #[.slice (some ⟨gRow,0,none⟩) M M] 71)
  have hlhR:w6.heap.size≤W.heap.size:=T.keep.size
  refine hKK.out _ _ (S3 (T1.box hBox aS aR aB)) (fun hHeld=>?_)
  clear hKK KK
  (try simp only [Act.put,ly])
  exact st33_RSB_0 hHeld _ (by kernel_rfl) (T1) LR hlhR LS hlhS LB hlhB C

set_option maxRecDepth 100000 in
set_option maxHeartbeats 4000000 in
theorem st33_R_0 (hHeld:S33 gp vS vR vB W) (ls:Array Bool) (hls:ls=#[true,true,true,true,true,true,true,true,true,false,true,true,true,true,true,false,false,true,true,true,true,true,true,true,false,false,false,false,false,false,false,false,false,false,false]) (T:Trip w6 W B vS vR vB vS vR vB uS uR uB) (LR:Loc W hR 71 #[.slice (some ⟨gRow,0,none⟩) M M]) (hlhR:w6.heap.size≤hR) (C:CX_Reg33 s w6 gp n vS vR gc M vB uS c uR uB B Q gRow p sg) :
 wpAnyK Tryz.prog .any ops33 (NoPanic Q) (S33 gp vS vR vB) 28 14 ls (FR_Reg33 s n gp c sg gRow M vR vS vB p (.slice (some ⟨hR,0,none⟩) 1 1) u153 u159 u160 u168 u169) W:=by
 subst hls
 unfold FR_Reg33
 obtain ⟨hBox,aS,aR,aB,hlS,hlR,hlB,hc80,hBw,hOut⟩:=id C
 refine wpAnyK_ready (rs:=[9,15,24]) (by kernel_rfl) (by simp) ?_
 refine (AllReadyK.cons o33_9 (fun KK hKK=>?_) (AllReadyK.cons o33_15 (fun KK hKK=>?_) (AllReadyK.cons o33_24 (fun KK hKK=>?_) AllReadyK.nil)))
 ·refine step_push1n _ rfl _ _ rfl Tryz.underlying70 info_list1 rfl (by decide) B vR uR c hlR.out rfl T.oR hR _ rfl LR rfl (by omega) (by have:=T.keep.size; omega) ?_
  intro gR capR W1 h1 h2 h3 h4
  have T1:=T.pushR h1 h2 h3
  clear h1 h2 h3 h4
  refine hKK.out _ _ (S3 (T1.box hBox aS aR aB)) (fun hHeld=>?_)
  clear hKK KK
  (try simp only [Act.put,ly])
  exact st33_R_1 hHeld _ (by kernel_rfl) (T1) C
 ·go_simp
  have T1:=T.alloc (.cells #[.int .i64 sg] 3)
  have LS:=made1 W #[.int .i64 sg] 3
  replace LR:=Loc.alloc LR (.cells #[.int .i64 sg] 3)
  have hlhS:w6.heap.size≤W.heap.size:=T.keep.size
  refine hKK.out _ _ (S3 (T1.box hBox aS aR aB)) (fun hHeld=>?_)
  clear hKK KK
  (try simp only [Act.put,ly])
  exact st33_RS_0 hHeld _ (by kernel_rfl) (T1) LR hlhR LS hlhS C
 ·go_simp
  have T1:=T.alloc (.cells #[.int .i64 p] 3)
  have LB:=made1 W #[.int .i64 p] 3
  replace LR:=Loc.alloc LR (.cells #[.int .i64 p] 3)
  have hlhB:w6.heap.size≤W.heap.size:=T.keep.size
  refine hKK.out _ _ (S3 (T1.box hBox aS aR aB)) (fun hHeld=>?_)
  clear hKK KK
  (try simp only [Act.put,ly])
  exact st33_RB_0 hHeld _ (by kernel_rfl) (T1) LR hlhR LB hlhB C

set_option maxRecDepth 100000 in
set_option maxHeartbeats 4000000 in
theorem st33_S_0 (hHeld:S33 gp vS vR vB W) (ls:Array Bool) (hls:ls=#[true,true,true,true,true,true,true,true,false,false,true,true,true,true,true,true,false,true,true,true,true,true,true,true,false,false,false,false,false,false,false,false,false,false,false]) (T:Trip w6 W B vS vR vB vS vR vB uS uR uB) (LS:Loc W hS 3 #[.int .i64 sg]) (hlhS:w6.heap.size≤hS) (C:CX_Reg33 s w6 gp n vS vR gc M vB uS c uR uB B Q gRow p sg) :
 wpAnyK Tryz.prog .any ops33 (NoPanic Q) (S33 gp vS vR vB) 28 14 ls (FR_Reg33 s n gp c sg gRow M vR vS vB p u152 u153 (.slice (some ⟨hS,0,none⟩) 1 1) u160 u168 u169) W:=by
 subst hls
 unfold FR_Reg33
 obtain ⟨hBox,aS,aR,aB,hlS,hlR,hlB,hc80,hBw,hOut⟩:=id C
 refine wpAnyK_ready (rs:=[8,24]) (by kernel_rfl) (by simp) ?_
 refine (AllReadyK.cons o33_8 (fun KK hKK=>?_) (AllReadyK.cons o33_24 (fun KK hKK=>?_) AllReadyK.nil))
 ·go_simp
  have T1:=T.alloc (.cells #[.slice (some ⟨gRow,0,none⟩) M M] 71)
  have LR:=made1 W #[.slice (some ⟨gRow,0,none⟩) M M] 71
  replace LS:=Loc.alloc LS (.cells #[.slice (some ⟨gRow,0,none⟩) M M] 71)
  have hlhR:w6.heap.size≤W.heap.size:=T.keep.size
  refine hKK.out _ _ (S3 (T1.box hBox aS aR aB)) (fun hHeld=>?_)
  clear hKK KK
  (try simp only [Act.put,ly])
  exact st33_RS_0 hHeld _ (by kernel_rfl) (T1) LR hlhR LS hlhS C
 ·go_simp
  have T1:=T.alloc (.cells #[.int .i64 p] 3)
  have LB:=made1 W #[.int .i64 p] 3
  replace LS:=Loc.alloc LS (.cells #[.int .i64 p] 3)
  have hlhB:w6.heap.size≤W.heap.size:=T.keep.size
  refine hKK.out _ _ (S3 (T1.box hBox aS aR aB)) (fun hHeld=>?_)
  clear hKK KK
  (try simp only [Act.put,ly])
  exact st33_SB_0 hHeld _ (by kernel_rfl) (T1) LS hlhS LB hlhB C

set_option maxRecDepth 100000 in
set_option maxHeartbeats 4000000 in
theorem st33_B_0 (hHeld:S33 gp vS vR vB W) (ls:Array Bool) (hls:ls=#[true,true,true,true,true,true,true,true,false,false,true,true,true,true,true,false,false,true,true,true,true,true,true,true,true,false,false,false,false,false,false,false,false,false,false]) (T:Trip w6 W B vS vR vB vS vR vB uS uR uB) (LB:Loc W hB 3 #[.int .i64 (p:Int)]) (hlhB:w6.heap.size≤hB) (C:CX_Reg33 s w6 gp n vS vR gc M vB uS c uR uB B Q gRow p sg) :
 wpAnyK Tryz.prog .any ops33 (NoPanic Q) (S33 gp vS vR vB) 28 14 ls (FR_Reg33 s n gp c sg gRow M vR vS vB p u152 u153 u159 u160 (.slice (some ⟨hB,0,none⟩) 1 1) u169) W:=by
 subst hls
 unfold FR_Reg33
 obtain ⟨hBox,aS,aR,aB,hlS,hlR,hlB,hc80,hBw,hOut⟩:=id C
 refine wpAnyK_ready (rs:=[8,15]) (by kernel_rfl) (by simp) ?_
 refine (AllReadyK.cons o33_8 (fun KK hKK=>?_) (AllReadyK.cons o33_15 (fun KK hKK=>?_) AllReadyK.nil))
 ·go_simp
  have T1:=T.alloc (.cells #[.slice (some ⟨gRow,0,none⟩) M M] 71)
  have LR:=made1 W #[.slice (some ⟨gRow,0,none⟩) M M] 71
  replace LB:=Loc.alloc LB (.cells #[.slice (some ⟨gRow,0,none⟩) M M] 71)
  have hlhR:w6.heap.size≤W.heap.size:=T.keep.size
  refine hKK.out _ _ (S3 (T1.box hBox aS aR aB)) (fun hHeld=>?_)
  clear hKK KK
  (try simp only [Act.put,ly])
  exact st33_RB_0 hHeld _ (by kernel_rfl) (T1) LR hlhR LB hlhB C
 ·go_simp
  have T1:=T.alloc (.cells #[.int .i64 sg] 3)
  have LS:=made1 W #[.int .i64 sg] 3
  replace LB:=Loc.alloc LB (.cells #[.int .i64 sg] 3)
  have hlhS:w6.heap.size≤W.heap.size:=T.keep.size
  refine hKK.out _ _ (S3 (T1.box hBox aS aR aB)) (fun hHeld=>?_)
  clear hKK KK
  (try simp only [Act.put,ly])
  exact st33_SB_0 hHeld _ (by kernel_rfl) (T1) LS hlhS LB hlhB C

set_option maxRecDepth 100000 in
set_option maxHeartbeats 4000000 in
theorem st33_O_0 (hHeld:S33 gp vS vR vB W) (ls:Array Bool) (hls:ls=#[true,true,true,true,true,true,true,true,false,false,true,true,true,true,true,false,false,true,true,true,true,true,true,true,false,false,false,false,false,false,false,false,false,false,false]) (T:Trip w6 W B vS vR vB vS vR vB uS uR uB) (C:CX_Reg33 s w6 gp n vS vR gc M vB uS c uR uB B Q gRow p sg) :
 wpAnyK Tryz.prog .any ops33 (NoPanic Q) (S33 gp vS vR vB) 28 15 ls (FR_Reg33 s n gp c sg gRow M vR vS vB p u152 u153 u159 u160 u168 u169) W:=by
 subst hls
 unfold FR_Reg33
 obtain ⟨hBox,aS,aR,aB,hlS,hlR,hlB,hc80,hBw,hOut⟩:=id C
 refine wpAnyK_ready (rs:=[8,15,24]) (by kernel_rfl) (by simp) ?_
 refine (AllReadyK.cons o33_8 (fun KK hKK=>?_) (AllReadyK.cons o33_15 (fun KK hKK=>?_) (AllReadyK.cons o33_24 (fun KK hKK=>?_) AllReadyK.nil)))
 ·go_simp
  have T1:=T.alloc (.cells #[.slice (some ⟨gRow,0,none⟩) M M] 71)
  have LR:=made1 W #[.slice (some ⟨gRow,0,none⟩) M M] 71
  have hlhR:w6.heap.size≤W.heap.size:=T.keep.size
  refine hKK.out _ _ (S3 (T1.box hBox aS aR aB)) (fun hHeld=>?_)
  clear hKK KK
  (try simp only [Act.put,ly])
  exact st33_R_0 hHeld _ (by kernel_rfl) (T1) LR hlhR C
 ·go_simp
  have T1:=T.alloc (.cells #[.int .i64 sg] 3)
  have LS:=made1 W #[.int .i64 sg] 3
  have hlhS:w6.heap.size≤W.heap.size:=T.keep.size
  refine hKK.out _ _ (S3 (T1.box hBox aS aR aB)) (fun hHeld=>?_)
  clear hKK KK
  (try simp only [Act.put,ly])
  exact st33_S_0 hHeld _ (by kernel_rfl) (T1) LS hlhS C
 ·go_simp
  have T1:=T.alloc (.cells #[.int .i64 p] 3)
  have LB:=made1 W #[.int .i64 p] 3
  have hlhB:w6.heap.size≤W.heap.size:=T.keep.size
  refine hKK.out _ _ (S3 (T1.box hBox aS aR aB)) (fun hHeld=>?_)
  clear hKK KK
  (try simp only [Act.put,ly])
  exact st33_B_0 hHeld _ (by kernel_rfl) (T1) LB hlhB C

set_option maxRecDepth 100000 in
set_option maxHeartbeats 8000000 in
theorem reg33 (T:Trip w6 w6 B vS vR vB vS vR vB uS uR uB) (hBox:Loc w6 gp 444 #[.int .i64 n,vS,vR, .slice (some ⟨gc,0,none⟩) M M,vB]) (aS:vS.ownBlock ≠ some gp) (aR:vR.ownBlock ≠ some gp) (aB:vB.ownBlock ≠ some gp) (hlS:Hid (uS.length=c)) (hlR:Hid (uR.length=c)) (hlB:Hid (uB.length=c)) (hc80:c≤80) (hBw:B≤w6.heap.size) (hOut:Out33 Q w6 B n c gp gRow M p sg vS vR vB uS uR uB u0 u1 u2 u3 u6 u8 u11 u12 u13 u14 u15 u16 u17 u18 u19 u20 u21 u22 u23 u24 u25 u26 u27 u28 u29 u30 u31 u32 u33 u34 u35 u36 u37 u38 u39 u40 u41 u42 u43 u44 u45 u46 u47 u48 u49 u50 u51 u52 u53 u54 u55 u56 u57 u58 u59 u60 u61 u62 u63 u64 u65 u66 u67 u68 u69 u70 u71 u72 u73 u74 u75 u76 u77 u78 u79 u80 u81 u82 u83 u84 u85 u86 u87 u88 u89 u90 u91 u92 u93 u94 u95 u96 u97 u98 u99 u100 u101 u102 u103 u104 u105 u106 u107 u108 u109 u110 u111 u112 u113 u114 u115 u116 u117 u118 u119 u120 u121 u122 u123 u124 u125 u126 u127 u128 u129 u130 u131 u132 u133 u134 u135 u136 u137 u138 u139 u140 u141 u142 u143 u176 u177) (hnc:(n:Int)+(c:Int)=p) (hp80:p≤1000) :
 (Code.region 33 ops33 true).wp Tryz.prog Q ⟨#[u0,u1,u2,u3,(.int .i64 n),(.pointer (some ⟨gp,0,none⟩)),u6,(.int .i64 c),u8,(.int .i64 sg),(.slice (some ⟨gRow,0,none⟩) M M),u11,u12,u13,u14,u15,u16,u17,u18,u19,u20,u21,u22,u23,u24,u25,u26,u27,u28,u29,u30,u31,u32,u33,u34,u35,u36,u37,u38,u39,u40,u41,u42,u43,u44,u45,u46,u47,u48,u49,u50,u51,u52,u53,u54,u55,u56,u57,u58,u59,u60,u61,u62,u63,u64,u65,u66,u67,u68,u69,u70,u71,u72,u73,u74,u75,u76,u77,u78,u79,u80,u81,u82,u83,u84,u85,u86,u87,u88,u89,u90,u91,u92,u93,u94,u95,u96,u97,u98,u99,u100,u101,u102,u103,u104,u105,u106,u107,u108,u109,u110,u111,u112,u113,u114,u115,u116,u117,u118,u119,u120,u121,u122,u123,u124,u125,u126,u127,u128,u129,u130,u131,u132,u133,u134,u135,u136,u137,u138,u139,u140,u141,u142,u143,u144,u145,u146,u147,u148,u149,u150,u151,u152,u153,u154,u155,u156,u157,u158,u159,u160,u161,u162,u163,u164,u165,u166,u167,u168,u169,u170,u171,u172,u173,u174,u175,u176,u177],[]⟩ w6:=by
 have hwp:IntKind.i64.wrap (p:Int)=p:=by rw [IntKind.wrap_i64]; omega
 have hwp2:IntKind.i64.wrap ((n:Int)+(c:Int))=p:=by rw [IntKind.wrap_i64]; omega
 refine wp_region_noPanic ?_
 refine wp_region_heldK (k:=28) (S:=S33 gp vS vR vB) (by kernel_rfl) (S3 hBox) (fun hHeld=>?_)
 rw [ops33_size]
 refine wpAnyK_pure (i:=0) (v:=?_) o33_0 (by kernel_rfl) (by kernel_rfl) (by kernel_rfl) (by kernel_rfl) (fun _ _ _ h=>h) (Or.inl ⟨by kernel_rfl,?_⟩) (fun _=>hHeld) ?_
 rotate_left 1
 ·(intro w _; first | (go_simp; done) | (go_simp; with_reducible rfl))
 (try simp only [Act.put,ly])
 refine wpAnyK_pure (i:=1) (v:=?_) o33_1 (by kernel_rfl) (by kernel_rfl) (by kernel_rfl) (by kernel_rfl) (fun _ _ _ h=>h) (Or.inl ⟨by kernel_rfl,?_⟩) (fun _=>hHeld) ?_
 rotate_left 1
 ·(intro w _; first | (go_simp; done) | (go_simp; with_reducible rfl))
 (try simp only [Act.put,ly])
 refine wpAnyK_pure (i:=2) (v:=?_) o33_2 (by kernel_rfl) (by kernel_rfl) (by kernel_rfl) (by kernel_rfl) (fun _ _ _ h=>h) (Or.inl ⟨by kernel_rfl,?_⟩) (fun _=>hHeld) ?_
 rotate_left 1
 ·(intro w _; first | (go_simp; done) | (go_simp; with_reducible rfl))
 (try simp only [Act.put,ly])
 refine wpAnyK_pure (i:=3) (v:=?_) o33_3 (by kernel_rfl) (by kernel_rfl) (by kernel_rfl) (by kernel_rfl) (fun _ _ _ h=>h) (Or.inl ⟨by kernel_rfl,?_⟩) (fun _=>hHeld) ?_
 rotate_left 1
 ·(intro w _; first | (go_simp; done) | (go_simp; with_reducible rfl))
 (try simp only [Act.put,ly])
 refine wpAnyK_pure (i:=4) (v:=?_) o33_4 (by kernel_rfl) (by kernel_rfl) (by kernel_rfl) (by kernel_rfl) (fun _ _ _ h=>h) (Or.inl ⟨by kernel_rfl,?_⟩) (fun _=>hHeld) ?_
 rotate_left 1
 ·(intro w _; first | (go_simp; done) | (go_simp; with_reducible rfl))
 (try simp only [Act.put,ly])
 refine wpAnyK_pure (i:=5) (v:=?_) o33_5 (by kernel_rfl) (by kernel_rfl) (by kernel_rfl) (by kernel_rfl) (fun _ _ _ h=>h) (Or.inl ⟨by kernel_rfl,?_⟩) (fun _=>hHeld) ?_
 rotate_left 1
 ·(intro w _; first | (go_simp; done) | (go_simp; with_reducible rfl))
 (try simp only [Act.put,ly])
 refine wpAnyK_take (i:=6) (v:=?_) o33_6 (by kernel_rfl) (by kernel_rfl) (by kernel_rfl) (by kernel_rfl) (by kernel_rfl) (by kernel_rfl) (fun _ _ _ h=>h) (Or.inl ⟨by kernel_rfl,?_⟩) hHeld ?_
 rotate_left 1
 ·(intro w hSw; (try unfold S33 at hSw); (try dsimp only at hSw); first | (go_simp; done) | (go_simp; with_reducible rfl))
 (try simp only [Act.put,ly])
 refine wpAnyK_pure (i:=7) (v:=?_) o33_7 (by kernel_rfl) (by kernel_rfl) (by kernel_rfl) (by kernel_rfl) (fun _ _ _ h=>h) (Or.inl ⟨by kernel_rfl,?_⟩) (fun _=>hHeld) ?_
 rotate_left 1
 ·(intro w _; first | (go_simp; done) | (go_simp; with_reducible rfl))
 (try simp only [Act.put,ly])
 refine wpAnyK_pure (i:=10) (v:=?_) o33_10 (by kernel_rfl) (by kernel_rfl) (by kernel_rfl) (by kernel_rfl) (fun _ _ _ h=>h) (Or.inl ⟨by kernel_rfl,?_⟩) (fun _=>hHeld) ?_
 rotate_left 1
 ·(intro w _; first | (go_simp; done) | (go_simp; with_reducible rfl))
 (try simp only [Act.put,ly])
 refine wpAnyK_pure (i:=11) (v:=?_) o33_11 (by kernel_rfl) (by kernel_rfl) (by kernel_rfl) (by kernel_rfl) (fun _ _ _ h=>h) (Or.inl ⟨by kernel_rfl,?_⟩) (fun _=>hHeld) ?_
 rotate_left 1
 ·(intro w _; first | (go_simp; done) | (go_simp; with_reducible rfl))
 (try simp only [Act.put,ly])
 refine wpAnyK_pure (i:=12) (v:=?_) o33_12 (by kernel_rfl) (by kernel_rfl) (by kernel_rfl) (by kernel_rfl) (fun _ _ _ h=>h) (Or.inl ⟨by kernel_rfl,?_⟩) (fun _=>hHeld) ?_
 rotate_left 1
 ·(intro w _; first | (go_simp; done) | (go_simp; with_reducible rfl))
 (try simp only [Act.put,ly])
 refine wpAnyK_take (i:=13) (v:=?_) o33_13 (by kernel_rfl) (by kernel_rfl) (by kernel_rfl) (by kernel_rfl) (by kernel_rfl) (by kernel_rfl) (fun _ _ _ h=>h) (Or.inl ⟨by kernel_rfl,?_⟩) hHeld ?_
 rotate_left 1
 ·(intro w hSw; (try unfold S33 at hSw); (try dsimp only at hSw); first | (go_simp; done) | (go_simp; with_reducible rfl))
 (try simp only [Act.put,ly])
 refine wpAnyK_pure (i:=14) (v:=?_) o33_14 (by kernel_rfl) (by kernel_rfl) (by kernel_rfl) (by kernel_rfl) (fun _ _ _ h=>h) (Or.inl ⟨by kernel_rfl,?_⟩) (fun _=>hHeld) ?_
 rotate_left 1
 ·(intro w _; first | (go_simp; done) | (go_simp; with_reducible rfl))
 (try simp only [Act.put,ly])
 refine wpAnyK_pure (i:=17) (v:=?_) o33_17 (by kernel_rfl) (by kernel_rfl) (by kernel_rfl) (by kernel_rfl) (fun _ _ _ h=>h) (Or.inl ⟨by kernel_rfl,?_⟩) (fun _=>hHeld) ?_
 rotate_left 1
 ·(intro w _; first | (go_simp; done) | (go_simp; with_reducible rfl))
 (try simp only [Act.put,ly])
 refine wpAnyK_pure (i:=18) (v:=?_) o33_18 (by kernel_rfl) (by kernel_rfl) (by kernel_rfl) (by kernel_rfl) (fun _ _ _ h=>h) (Or.inl ⟨by kernel_rfl,?_⟩) (fun _=>hHeld) ?_
 rotate_left 1
 ·(intro w _; first | (go_simp; done) | (go_simp; with_reducible rfl))
 (try simp only [Act.put,ly])
 refine wpAnyK_pure (i:=19) (v:=?_) o33_19 (by kernel_rfl) (by kernel_rfl) (by kernel_rfl) (by kernel_rfl) (fun _ _ _ h=>h) (Or.inl ⟨by kernel_rfl,?_⟩) (fun _=>hHeld) ?_
 rotate_left 1
 ·(intro w _; first | (go_simp; done) | (go_simp; with_reducible rfl))
 (try simp only [Act.put,ly])
 refine wpAnyK_take (i:=20) (v:=?_) o33_20 (by kernel_rfl) (by kernel_rfl) (by kernel_rfl) (by kernel_rfl) (by kernel_rfl) (by kernel_rfl) (fun _ _ _ h=>h) (Or.inl ⟨by kernel_rfl,?_⟩) hHeld ?_
 rotate_left 1
 ·(intro w hSw; (try unfold S33 at hSw); (try dsimp only at hSw); first | (go_simp; done) | (go_simp; with_reducible rfl))
 (try simp only [Act.put,ly])
 refine wpAnyK_pure (i:=21) (v:=?_) o33_21 (by kernel_rfl) (by kernel_rfl) (by kernel_rfl) (by kernel_rfl) (fun _ _ _ h=>h) (Or.inl ⟨by kernel_rfl,?_⟩) (fun _=>hHeld) ?_
 rotate_left 1
 ·(intro w _; first | (go_simp; done) | (go_simp; with_reducible rfl))
 (try simp only [Act.put,ly])
 refine wpAnyK_pure (i:=22) (v:=?_) o33_22 (by kernel_rfl) (by kernel_rfl) (by kernel_rfl) (by kernel_rfl) (fun _ _ _ h=>h) (Or.inl ⟨by kernel_rfl,?_⟩) (fun _=>hHeld) ?_
 rotate_left 1
 ·(intro w _; first | (go_simp; done) | (go_simp; with_reducible rfl))
 (try simp only [Act.put,ly])
 refine wpAnyK_pure (i:=23) (v:=?_) o33_23 (by kernel_rfl) (by kernel_rfl) (by kernel_rfl) (by kernel_rfl) (fun _ _ _ h=>h) (Or.inl ⟨by kernel_rfl,?_⟩) (fun _=>hHeld) ?_
 rotate_left 1
 ·(intro w _; first | (go_simp; done) | (go_simp; with_reducible rfl))
 (try simp only [Act.put,ly])
 have T0:Trip w6 w6.drew B vS vR vB vS vR vB uS uR uB:=⟨T.oS,T.oR,T.oB,T.aS,T.aR,T.aB,T.dRS,T.dRB,T.dSB,T.lS,T.lR,T.lB,T.keep.drew,T.bl.drew,T.lo⟩
 exact st33_O_0 (s:=⟨u0,u1,u2,u3,u6,u8,u11,u12,u13,u14,u15,u16,u17,u18,u19,u20,u21,u22,u23,u24,u25,u26,u27,u28,u29,u30,u31,u32,u33,u34,u35,u36,u37,u38,u39,u40,u41,u42,u43,u44,u45,u46,u47,u48,u49,u50,u51,u52,u53,u54,u55,u56,u57,u58,u59,u60,u61,u62,u63,u64,u65,u66,u67,u68,u69,u70,u71,u72,u73,u74,u75,u76,u77,u78,u79,u80,u81,u82,u83,u84,u85,u86,u87,u88,u89,u90,u91,u92,u93,u94,u95,u96,u97,u98,u99,u100,u101,u102,u103,u104,u105,u106,u107,u108,u109,u110,u111,u112,u113,u114,u115,u116,u117,u118,u119,u120,u121,u122,u123,u124,u125,u126,u127,u128,u129,u130,u131,u132,u133,u134,u135,u136,u137,u138,u139,u140,u141,u142,u143,u170,u171,u172,u173,u174,u175,u176,u177⟩) hHeld _ (by kernel_rfl) T0 ⟨hBox,aS,aR,aB,hlS,hlR,hlB,hc80,hBw,hOut⟩
end
end Go.Proofs.YtbdcjhoedhhabaaGreat

