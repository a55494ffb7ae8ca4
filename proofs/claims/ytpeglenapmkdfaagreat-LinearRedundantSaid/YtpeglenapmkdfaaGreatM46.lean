/- Contracts of the functions that the statements reach, part 46. -/
import Derived.Test.YtpeglenapmkdfaaGreatRows
import Derived.Test.YtpeglenapmkdfaaGreatM45
set_option linter.unusedSimpArgs false
set_option linter.unusedVariables false

/- The drawn region of LinearRedundant that makes the system with one equation more. Printed by gen13r.py. -/
namespace Go.Proofs.YtpeglenapmkdfaaGreat
open Go.RowKit
attribute [local go_sem ↓] Go.wp_at_zero Go.wp_at_succ
namespace Reg13r
/-- The operations of a region, by its number. -/
def findReg (n : Nat) : Code → Option (Array Oper)
  | .seq a b => match findReg n a with
    | some c => some c
    | none => findReg n b
  | .loop c => findReg n c
  | .block _ c => findReg n c
  | .scope c => findReg n c
  | .cond _ a b => match findReg n a with
    | some c => some c
    | none => findReg n b
  | .region k ops _ => if k = n then some ops else none
  | _ => none

noncomputable def ops13r : Array Oper := (Tryz.f5.body.bind (findReg 13)).getD #[]
theorem ops13r_size : ops13r.size = 29 := by kernel_rfl
theorem ops13r_0 : ops13r[0]? = some { dst := some 100, op := Op.fieldAddr 25 (Operand.tmp 7) 0, type := 0, pos := (ops13r[0]'(by rw [ops13r_size]; decide)).pos, after := (ops13r[0]'(by rw [ops13r_size]; decide)).after, guard := none } := by kernel_rfl
theorem ops13r_1 : ops13r[1]? = some { dst := some 101, op := Op.load 22 (Operand.tmp 100), type := 22, pos := (ops13r[1]'(by rw [ops13r_size]; decide)).pos, after := (ops13r[1]'(by rw [ops13r_size]; decide)).after, guard := none } := by kernel_rfl
theorem ops13r_2 : ops13r[2]? = some { dst := some 102, op := Op.call { callee := Callee.value (Operand.func 24), args := #[Operand.tmp 101], argTypes := #[22] }, type := 22, pos := (ops13r[2]'(by rw [ops13r_size]; decide)).pos, after := (ops13r[2]'(by rw [ops13r_size]; decide)).after, guard := none } := by kernel_rfl
theorem ops13r_3 : ops13r[3]? = some { dst := some 103, op := Op.move (Operand.tmp 10), type := 23, pos := (ops13r[3]'(by rw [ops13r_size]; decide)).pos, after := (ops13r[3]'(by rw [ops13r_size]; decide)).after, guard := none } := by kernel_rfl
theorem ops13r_4 : ops13r[4]? = some { dst := some 104, op := Op.buildSlice 22 1 #[(0, Operand.tmp 103)], type := 22, pos := (ops13r[4]'(by rw [ops13r_size]; decide)).pos, after := (ops13r[4]'(by rw [ops13r_size]; decide)).after, guard := none } := by kernel_rfl
theorem ops13r_5 : ops13r[5]? = some { dst := some 105, op := Op.call { callee := Callee.builtin Builtin.append, args := #[Operand.tmp 102, Operand.tmp 104], argTypes := #[22, 22] }, type := 22, pos := (ops13r[5]'(by rw [ops13r_size]; decide)).pos, after := (ops13r[5]'(by rw [ops13r_size]; decide)).after, guard := none } := by kernel_rfl
theorem ops13r_6 : ops13r[6]? = some { dst := some 106, op := Op.fieldAddr 25 (Operand.tmp 7) 1, type := 0, pos := (ops13r[6]'(by rw [ops13r_size]; decide)).pos, after := (ops13r[6]'(by rw [ops13r_size]; decide)).after, guard := none } := by kernel_rfl
theorem ops13r_7 : ops13r[7]? = some { dst := some 107, op := Op.load 23 (Operand.tmp 106), type := 23, pos := (ops13r[7]'(by rw [ops13r_size]; decide)).pos, after := (ops13r[7]'(by rw [ops13r_size]; decide)).after, guard := none } := by kernel_rfl
theorem ops13r_8 : ops13r[8]? = some { dst := some 108, op := Op.call { callee := Callee.value (Operand.func 25), args := #[Operand.tmp 107], argTypes := #[23] }, type := 23, pos := (ops13r[8]'(by rw [ops13r_size]; decide)).pos, after := (ops13r[8]'(by rw [ops13r_size]; decide)).after, guard := none } := by kernel_rfl
theorem ops13r_9 : ops13r[9]? = some { dst := some 109, op := Op.fieldAddr 25 (Operand.tmp 7) 1, type := 0, pos := (ops13r[9]'(by rw [ops13r_size]; decide)).pos, after := (ops13r[9]'(by rw [ops13r_size]; decide)).after, guard := none } := by kernel_rfl
theorem ops13r_10 : ops13r[10]? = some { dst := some 110, op := Op.load 23 (Operand.tmp 109), type := 23, pos := (ops13r[10]'(by rw [ops13r_size]; decide)).pos, after := (ops13r[10]'(by rw [ops13r_size]; decide)).after, guard := none } := by kernel_rfl
theorem ops13r_11 : ops13r[11]? = some { dst := some 111, op := Op.move (Operand.tmp 8), type := 3, pos := (ops13r[11]'(by rw [ops13r_size]; decide)).pos, after := (ops13r[11]'(by rw [ops13r_size]; decide)).after, guard := none } := by kernel_rfl
theorem ops13r_12 : ops13r[12]? = some { dst := some 112, op := Op.indexAddr 23 (Operand.tmp 110) (Operand.tmp 111), type := 0, pos := (ops13r[12]'(by rw [ops13r_size]; decide)).pos, after := (ops13r[12]'(by rw [ops13r_size]; decide)).after, guard := none } := by kernel_rfl
theorem ops13r_13 : ops13r[13]? = some { dst := some 113, op := Op.load 44 (Operand.tmp 112), type := 44, pos := (ops13r[13]'(by rw [ops13r_size]; decide)).pos, after := (ops13r[13]'(by rw [ops13r_size]; decide)).after, guard := none } := by kernel_rfl
theorem ops13r_14 : ops13r[14]? = some { dst := some 114, op := Op.move (Operand.tmp 2), type := 39, pos := (ops13r[14]'(by rw [ops13r_size]; decide)).pos, after := (ops13r[14]'(by rw [ops13r_size]; decide)).after, guard := none } := by kernel_rfl
theorem ops13r_15 : ops13r[15]? = some { dst := some 115, op := Op.convert 39 3 (Operand.tmp 114), type := 3, pos := (ops13r[15]'(by rw [ops13r_size]; decide)).pos, after := (ops13r[15]'(by rw [ops13r_size]; decide)).after, guard := none } := by kernel_rfl
theorem ops13r_16 : ops13r[16]? = some { dst := some 116, op := Op.call { callee := Callee.value (Operand.func 23), args := #[Operand.tmp 115], argTypes := #[3] }, type := 44, pos := (ops13r[16]'(by rw [ops13r_size]; decide)).pos, after := (ops13r[16]'(by rw [ops13r_size]; decide)).after, guard := none } := by kernel_rfl
theorem ops13r_17 : ops13r[17]? = some { dst := some 117, op := Op.fieldAddr 25 (Operand.tmp 7) 1, type := 0, pos := (ops13r[17]'(by rw [ops13r_size]; decide)).pos, after := (ops13r[17]'(by rw [ops13r_size]; decide)).after, guard := none } := by kernel_rfl
theorem ops13r_18 : ops13r[18]? = some { dst := some 118, op := Op.load 23 (Operand.tmp 117), type := 23, pos := (ops13r[18]'(by rw [ops13r_size]; decide)).pos, after := (ops13r[18]'(by rw [ops13r_size]; decide)).after, guard := none } := by kernel_rfl
theorem ops13r_19 : ops13r[19]? = some { dst := some 119, op := Op.move (Operand.tmp 9), type := 3, pos := (ops13r[19]'(by rw [ops13r_size]; decide)).pos, after := (ops13r[19]'(by rw [ops13r_size]; decide)).after, guard := none } := by kernel_rfl
theorem ops13r_20 : ops13r[20]? = some { dst := some 120, op := Op.indexAddr 23 (Operand.tmp 118) (Operand.tmp 119), type := 0, pos := (ops13r[20]'(by rw [ops13r_size]; decide)).pos, after := (ops13r[20]'(by rw [ops13r_size]; decide)).after, guard := none } := by kernel_rfl
theorem ops13r_21 : ops13r[21]? = some { dst := some 121, op := Op.load 44 (Operand.tmp 120), type := 44, pos := (ops13r[21]'(by rw [ops13r_size]; decide)).pos, after := (ops13r[21]'(by rw [ops13r_size]; decide)).after, guard := none } := by kernel_rfl
theorem ops13r_22 : ops13r[22]? = some { dst := some 122, op := Op.call { callee := Callee.value (Operand.func 22), args := #[Operand.tmp 116, Operand.tmp 121], argTypes := #[44, 44] }, type := 44, pos := (ops13r[22]'(by rw [ops13r_size]; decide)).pos, after := (ops13r[22]'(by rw [ops13r_size]; decide)).after, guard := none } := by kernel_rfl
theorem ops13r_23 : ops13r[23]? = some { dst := some 123, op := Op.call { callee := Callee.value (Operand.func 21), args := #[Operand.tmp 113, Operand.tmp 122], argTypes := #[44, 44] }, type := 44, pos := (ops13r[23]'(by rw [ops13r_size]; decide)).pos, after := (ops13r[23]'(by rw [ops13r_size]; decide)).after, guard := none } := by kernel_rfl
theorem ops13r_24 : ops13r[24]? = some { dst := some 124, op := Op.buildSlice 23 1 #[(0, Operand.tmp 123)], type := 23, pos := (ops13r[24]'(by rw [ops13r_size]; decide)).pos, after := (ops13r[24]'(by rw [ops13r_size]; decide)).after, guard := none } := by kernel_rfl
theorem ops13r_25 : ops13r[25]? = some { dst := some 125, op := Op.call { callee := Callee.builtin Builtin.append, args := #[Operand.tmp 108, Operand.tmp 124], argTypes := #[23, 23] }, type := 23, pos := (ops13r[25]'(by rw [ops13r_size]; decide)).pos, after := (ops13r[25]'(by rw [ops13r_size]; decide)).after, guard := none } := by kernel_rfl
theorem ops13r_26 : ops13r[26]? = some { dst := some 126, op := Op.build 25 #[(0, Operand.tmp 105), (1, Operand.tmp 125)], type := 25, pos := (ops13r[26]'(by rw [ops13r_size]; decide)).pos, after := (ops13r[26]'(by rw [ops13r_size]; decide)).after, guard := none } := by kernel_rfl
theorem ops13r_27 : ops13r[27]? = some { dst := some 12, op := Op.alloc 25, type := 0, pos := (ops13r[27]'(by rw [ops13r_size]; decide)).pos, after := (ops13r[27]'(by rw [ops13r_size]; decide)).after, guard := none } := by kernel_rfl
theorem ops13r_28 : ops13r[28]? = some { dst := none, op := Op.store 25 (Operand.tmp 12) (Operand.tmp 126), type := 0, pos := (ops13r[28]'(by rw [ops13r_size]; decide)).pos, after := (ops13r[28]'(by rw [ops13r_size]; decide)).after, guard := none } := by kernel_rfl

def SX13 (gs m nb cA cB i k : Nat) (a0 b0 : Addr) (ri rk : R4) : World → Prop := fun W =>
  (W.cell? ⟨gs, 0, none⟩ = some (.slice (some a0) m cA) ∧ W.cell? ⟨gs, 1, none⟩ = some (.slice (some b0) nb cB)) ∧
  ((W.cell? (b0.add (i * 4)) = some (.bool ri.b) ∧ W.cell? ⟨(b0.add (i * 4)).block, (b0.add (i * 4)).off + 1, none⟩ = some (.slice ri.A ri.m ri.c)) ∧ W.cell? ⟨(b0.add (i * 4)).block, (b0.add (i * 4)).off + 2, none⟩ = some (.bool ri.b') ∧ W.cell? ⟨(b0.add (i * 4)).block, (b0.add (i * 4)).off + 3, none⟩ = some (.slice ri.A' ri.m' ri.c')) ∧
  (W.cell? (b0.add (k * 4)) = some (.bool rk.b) ∧ W.cell? ⟨(b0.add (k * 4)).block, (b0.add (k * 4)).off + 1, none⟩ = some (.slice rk.A rk.m rk.c)) ∧ W.cell? ⟨(b0.add (k * 4)).block, (b0.add (k * 4)).off + 2, none⟩ = some (.bool rk.b') ∧ W.cell? ⟨(b0.add (k * 4)).block, (b0.add (k * 4)).off + 3, none⟩ = some (.slice rk.A' rk.m' rk.c')

/-- What the region leaves. -/
def Out13 (w9 : World) (Q : Exit → Act → World → Prop) (gs m nb i k : Nat) (bz : Int) (X : Option Addr) (nx cX : Nat) (us : List Value) (f2 : Nat → Rat) (u0 u1 u3 u4 u5 u6 u11 u13 u14 u15 u16 u17 u18 u19 u20 u21 u22 u23 u24 u25 u26 u27 u28 u29 u30 u31 u32 u33 u34 u35 u36 u37 u38 u39 u40 u41 u42 u43 u44 u45 u46 u47 u48 u49 u50 u51 u52 u53 u54 u55 u56 u57 u58 u59 u60 u61 u62 u63 u64 u65 u66 u67 u68 u69 u70 u71 u72 u73 u74 u75 u76 u77 u78 u79 u80 u81 u82 u83 u84 u85 u86 u87 u88 u89 u90 u91 u92 u93 u94 u95 u96 u97 u98 u99 u127 u128 u129 u130 u131 u132 u133 u134 u135 u136 u137 u138 u139 u140 u141 u142 u143 u144 u145 u146 u147 u148 u149 u150 u151 u152 u153 u154 u155 u156 u157 u158 u159 u160 : Value) : Prop :=
  ∀ (W : World) (hd gP cP gQ cQ : Nat) (v100 v101 v102 v103 v104 v105 v106 v107 v108 v109 v110 v111 v112 v113 v114 v115 v116 v117 v118 v119 v120 v121 v122 v123 v124 v125 v126 : Value), Loc W hd 25 #[(.slice (some ⟨gP, 0, none⟩) (m + 1) cP), (.slice (some ⟨gQ, 0, none⟩) (nb + 1) cQ)] → OwnL W w9.heap.size (.slice (some ⟨gP, 0, none⟩) (m + 1) cP) (us ++ [(.slice X nx cX)]) → Nums 7 W (fun _ => False) (.slice (some ⟨gQ, 0, none⟩) (nb + 1) cQ) (nb + 1) f2 → Below w9.heap.size w9 W → Q .normal ⟨#[u0, u1, (.int .i8 bz), u3, u4, u5, u6, (.pointer (some ⟨gs, 0, none⟩)), (.int .i64 (i : Int)), (.int .i64 (k : Int)), (.slice X nx cX), u11, (.pointer (some ⟨hd, 0, none⟩)), u13, u14, u15, u16, u17, u18, u19, u20, u21, u22, u23, u24, u25, u26, u27, u28, u29, u30, u31, u32, u33, u34, u35, u36, u37, u38, u39, u40, u41, u42, u43, u44, u45, u46, u47, u48, u49, u50, u51, u52, u53, u54, u55, u56, u57, u58, u59, u60, u61, u62, u63, u64, u65, u66, u67, u68, u69, u70, u71, u72, u73, u74, u75, u76, u77, u78, u79, u80, u81, u82, u83, u84, u85, u86, u87, u88, u89, u90, u91, u92, u93, u94, u95, u96, u97, u98, u99, v100, v101, v102, v103, v104, v105, v106, v107, v108, v109, v110, v111, v112, v113, v114, v115, v116, v117, v118, v119, v120, v121, v122, v123, v124, v125, v126, u127, u128, u129, u130, u131, u132, u133, u134, u135, u136, u137, u138, u139, u140, u141, u142, u143, u144, u145, u146, u147, u148, u149, u150, u151, u152, u153, u154, u155, u156, u157, u158, u159, u160], []⟩ W

structure Cx13 (w9 : World) (Q : Exit → Act → World → Prop) (gs m nb cA cB i k : Nat) (a0 b0 : Addr) (X : Option Addr) (nx cX : Nat) (ri rk : R4) (us : List Value) (f1 f2 : Nat → Rat) (fi fk : Rat) (bz : Int) (u0 u1 u3 u4 u5 u6 u11 u13 u14 u15 u16 u17 u18 u19 u20 u21 u22 u23 u24 u25 u26 u27 u28 u29 u30 u31 u32 u33 u34 u35 u36 u37 u38 u39 u40 u41 u42 u43 u44 u45 u46 u47 u48 u49 u50 u51 u52 u53 u54 u55 u56 u57 u58 u59 u60 u61 u62 u63 u64 u65 u66 u67 u68 u69 u70 u71 u72 u73 u74 u75 u76 u77 u78 u79 u80 u81 u82 u83 u84 u85 u86 u87 u88 u89 u90 u91 u92 u93 u94 u95 u96 u97 u98 u99 u127 u128 u129 u130 u131 u132 u133 u134 u135 u136 u137 u138 u139 u140 u141 u142 u143 u144 u145 u146 u147 u148 u149 u150 u151 u152 u153 u154 u155 u156 u157 u158 u159 u160 : Value) : Prop where
  hS9 : Hid (∀ W, Below w9.heap.size w9 W → SX13 gs m nb cA cB i k a0 b0 ri rk W)
  hUC : Hid (∀ W, Below w9.heap.size w9 W → ∀ i u, us[i]? = some u → W.cell? (a0.add i) = some u)
  hUB : Hid (a0.block < w9.heap.size)
  hUI : Hid (∀ u ∈ us, isL u)
  hul : Hid (us.length = m)
  hm : Hid (0 < m ∧ m ≤ 100)
  hBN : Hid (∀ W, Below w9.heap.size w9 W → Nums 2 W (fun b => w9.heap.size ≤ b) (.slice (some b0) nb cB) nb f1)
  hnb : Hid (0 < nb ∧ nb ≤ 100)
  hRI : Hid (∀ W, Below w9.heap.size w9 W → RatL 2 W (fun _ => False) (.agg #[.bool ri.b, .slice ri.A ri.m ri.c, .bool ri.b', .slice ri.A' ri.m' ri.c']) fi)
  hRK : Hid (∀ W, Below w9.heap.size w9 W → RatL 2 W (fun _ => False) (.agg #[.bool rk.b, .slice rk.A rk.m rk.c, .bool rk.b', .slice rk.A' rk.m' rk.c']) fk)
  hf : Hid ((∀ j, j < nb → f2 j = f1 j) ∧ f2 nb = fi + (bz : Rat) * fk)
  hsz : Hid (Rsz 2 fi ∧ Rsz 2 fk ∧ -128 ≤ bz ∧ bz ≤ 127)
  hOut : Out13 w9 Q gs m nb i k bz X nx cX us f2 u0 u1 u3 u4 u5 u6 u11 u13 u14 u15 u16 u17 u18 u19 u20 u21 u22 u23 u24 u25 u26 u27 u28 u29 u30 u31 u32 u33 u34 u35 u36 u37 u38 u39 u40 u41 u42 u43 u44 u45 u46 u47 u48 u49 u50 u51 u52 u53 u54 u55 u56 u57 u58 u59 u60 u61 u62 u63 u64 u65 u66 u67 u68 u69 u70 u71 u72 u73 u74 u75 u76 u77 u78 u79 u80 u81 u82 u83 u84 u85 u86 u87 u88 u89 u90 u91 u92 u93 u94 u95 u96 u97 u98 u99 u127 u128 u129 u130 u131 u132 u133 u134 u135 u136 u137 u138 u139 u140 u141 u142 u143 u144 u145 u146 u147 u148 u149 u150 u151 u152 u153 u154 u155 u156 u157 u158 u159 u160

section
variable {Q : Exit → Act → World → Prop} {w9 W : World} {gs m nb cA cB i k nx cX gA cA2 gP cP gC cC2 gQ cQ ha hb hd : Nat} {a0 b0 : Addr} {X : Option Addr} {ri rk rw ru rd : R4} {us : List Value} {rs : List R4} {f1 f2 : Nat → Rat} {fi fk : Rat} {bz : Int}
  {u0 u1 u3 u4 u5 u6 u11 u12 u13 u14 u15 u16 u17 u18 u19 u20 u21 u22 u23 u24 u25 u26 u27 u28 u29 u30 u31 u32 u33 u34 u35 u36 u37 u38 u39 u40 u41 u42 u43 u44 u45 u46 u47 u48 u49 u50 u51 u52 u53 u54 u55 u56 u57 u58 u59 u60 u61 u62 u63 u64 u65 u66 u67 u68 u69 u70 u71 u72 u73 u74 u75 u76 u77 u78 u79 u80 u81 u82 u83 u84 u85 u86 u87 u88 u89 u90 u91 u92 u93 u94 u95 u96 u97 u98 u99 u100 u101 u102 u103 u104 u105 u106 u107 u108 u109 u110 u111 u112 u113 u114 u115 u116 u117 u118 u119 u120 u121 u122 u123 u124 u125 u126 u127 u128 u129 u130 u131 u132 u133 u134 u135 u136 u137 u138 u139 u140 u141 u142 u143 u144 u145 u146 u147 u148 u149 u150 u151 u152 u153 u154 u155 u156 u157 u158 u159 u160 : Value}
set_option maxRecDepth 100000 in
set_option maxHeartbeats 4000000 in
theorem st13_APCWUDyQxz (hHeld : SX13 gs m nb cA cB i k a0 b0 ri rk W) (ls : Array Bool) (hls : ls = #[true, true, true, true, true, true, true, true, true, true, true, true, true, true, true, true, true, true, true, true, true, true, true, true, true, true, true, true, false]) (hB : Below w9.heap.size w9 W) (OP : OwnL W w9.heap.size (.slice (some ⟨gP, 0, none⟩) (m + 1) cP) (us ++ [(.slice X nx cX)])) (OQ : OwnR W w9.heap.size (.slice (some ⟨gQ, 0, none⟩) (nb + 1) cQ) (rs ++ [rd])) (VQ : ValL 7 W (fun b => b = gQ) (rs ++ [rd]) f2) (hrl : rs.length = nb) (Ld : Loc W hd 25 #[.slice none 0 0, .slice none 0 0]) (hld : w9.heap.size ≤ hd) (cx : Cx13 w9 Q gs m nb cA cB i k a0 b0 X nx cX ri rk us f1 f2 fi fk bz u0 u1 u3 u4 u5 u6 u11 u13 u14 u15 u16 u17 u18 u19 u20 u21 u22 u23 u24 u25 u26 u27 u28 u29 u30 u31 u32 u33 u34 u35 u36 u37 u38 u39 u40 u41 u42 u43 u44 u45 u46 u47 u48 u49 u50 u51 u52 u53 u54 u55 u56 u57 u58 u59 u60 u61 u62 u63 u64 u65 u66 u67 u68 u69 u70 u71 u72 u73 u74 u75 u76 u77 u78 u79 u80 u81 u82 u83 u84 u85 u86 u87 u88 u89 u90 u91 u92 u93 u94 u95 u96 u97 u98 u99 u127 u128 u129 u130 u131 u132 u133 u134 u135 u136 u137 u138 u139 u140 u141 u142 u143 u144 u145 u146 u147 u148 u149 u150 u151 u152 u153 u154 u155 u156 u157 u158 u159 u160) :
    wpAnyH Tryz.prog .any ops13r (NoPanic Q) (SX13 gs m nb cA cB i k a0 b0 ri rk) 1 ls ⟨#[u0, u1, (.int .i8 bz), u3, u4, u5, u6, (.pointer (some ⟨gs, 0, none⟩)), (.int .i64 (i : Int)), (.int .i64 (k : Int)), (.slice X nx cX), u11, (.pointer (some ⟨hd, 0, none⟩)), u13, u14, u15, u16, u17, u18, u19, u20, u21, u22, u23, u24, u25, u26, u27, u28, u29, u30, u31, u32, u33, u34, u35, u36, u37, u38, u39, u40, u41, u42, u43, u44, u45, u46, u47, u48, u49, u50, u51, u52, u53, u54, u55, u56, u57, u58, u59, u60, u61, u62, u63, u64, u65, u66, u67, u68, u69, u70, u71, u72, u73, u74, u75, u76, u77, u78, u79, u80, u81, u82, u83, u84, u85, u86, u87, u88, u89, u90, u91, u92, u93, u94, u95, u96, u97, u98, u99, (.pointer (some ⟨gs, 0, none⟩)), (.slice (some a0) m cA), (.slice (some ⟨gA, 0, none⟩) m cA2), (.slice X nx cX), (.slice (some ⟨ha, 0, none⟩) 1 1), (.slice (some ⟨gP, 0, none⟩) (m + 1) cP), (.pointer (some ⟨gs, 1, none⟩)), (.slice (some b0) nb cB), (.slice (some ⟨gC, 0, none⟩) nb cC2), (.pointer (some ⟨gs, 1, none⟩)), (.slice (some b0) nb cB), (.int .i64 (i : Int)), (.pointer (some (b0.add (i * 4)))), (.agg #[.bool ri.b, .slice ri.A ri.m ri.c, .bool ri.b', .slice ri.A' ri.m' ri.c']), (.int .i8 bz), (.int .i64 bz), (.agg #[.bool rw.b, .slice rw.A rw.m rw.c, .bool rw.b', .slice rw.A' rw.m' rw.c']), (.pointer (some ⟨gs, 1, none⟩)), (.slice (some b0) nb cB), (.int .i64 (k : Int)), (.pointer (some (b0.add (k * 4)))), (.agg #[.bool rk.b, .slice rk.A rk.m rk.c, .bool rk.b', .slice rk.A' rk.m' rk.c']), (.agg #[.bool ru.b, .slice ru.A ru.m ru.c, .bool ru.b', .slice ru.A' ru.m' ru.c']), (.agg #[.bool rd.b, .slice rd.A rd.m rd.c, .bool rd.b', .slice rd.A' rd.m' rd.c']), (.slice (some ⟨hb, 0, none⟩) 1 1), (.slice (some ⟨gQ, 0, none⟩) (nb + 1) cQ), (.agg #[(.slice (some ⟨gP, 0, none⟩) (m + 1) cP), (.slice (some ⟨gQ, 0, none⟩) (nb + 1) cQ)]), u127, u128, u129, u130, u131, u132, u133, u134, u135, u136, u137, u138, u139, u140, u141, u142, u143, u144, u145, u146, u147, u148, u149, u150, u151, u152, u153, u154, u155, u156, u157, u158, u159, u160], []⟩ W := by
  subst hls
  have cx0 := cx
  obtain ⟨hS9, hUC, hUB, hUI, hul, hm, hBN, hnb, hRI, hRK, hf, hsz, hOut⟩ := cx0
  obtain ⟨e7, g7, l7⟩ := Ld.all (w' := W)
  have hl7 := Ld.lt
  refine wpAnyH_ready (rs := [28]) (by kernel_rfl) (by simp) ?_
  refine AllReadyH.cons ops13r_28 (fun KK hKK => ?_) AllReadyH.nil
  go_simp
  (try go_wp2_with fail)
  refine hKK.out _ _ ?_ (fun hHeld => ?_)
  · exact hS9.out _ bel
  clear hKK KK
  (try simp only [Act.put, List.getElem_toArray, List.getElem_cons_succ, List.getElem_cons_zero, List.setIfInBounds_toArray, List.set_cons_zero, List.set_cons_succ])
  refine wpAnyH_done (by kernel_rfl) ?_ _
  refine NoPanic.normal ?_
  exact hOut _ _ _ _ _ _ _ _ _ _ _ _ _ _ _ _ _ _ _ _ _ _ _ _ _ _ _ _ _ _ _ _ _ (Loc.fill2 Ld) (own_loc Ld OP (by decide) kp) (OwnR.more (own_loc Ld OQ (by decide) kp) hrl (val_loc VQ Ld nils_noW (Keep.weak (X := fun b => b = hd) kp (fun b _ h => .inr h)))) bel

set_option maxRecDepth 100000 in
set_option maxHeartbeats 4000000 in
theorem st13_APCWUDyQx (hHeld : SX13 gs m nb cA cB i k a0 b0 ri rk W) (ls : Array Bool) (hls : ls = #[true, true, true, true, true, true, true, true, true, true, true, true, true, true, true, true, true, true, true, true, true, true, true, true, true, true, true, false, false]) (hB : Below w9.heap.size w9 W) (OP : OwnL W w9.heap.size (.slice (some ⟨gP, 0, none⟩) (m + 1) cP) (us ++ [(.slice X nx cX)])) (OQ : OwnR W w9.heap.size (.slice (some ⟨gQ, 0, none⟩) (nb + 1) cQ) (rs ++ [rd])) (VQ : ValL 7 W (fun b => b = gQ) (rs ++ [rd]) f2) (hrl : rs.length = nb) (cx : Cx13 w9 Q gs m nb cA cB i k a0 b0 X nx cX ri rk us f1 f2 fi fk bz u0 u1 u3 u4 u5 u6 u11 u13 u14 u15 u16 u17 u18 u19 u20 u21 u22 u23 u24 u25 u26 u27 u28 u29 u30 u31 u32 u33 u34 u35 u36 u37 u38 u39 u40 u41 u42 u43 u44 u45 u46 u47 u48 u49 u50 u51 u52 u53 u54 u55 u56 u57 u58 u59 u60 u61 u62 u63 u64 u65 u66 u67 u68 u69 u70 u71 u72 u73 u74 u75 u76 u77 u78 u79 u80 u81 u82 u83 u84 u85 u86 u87 u88 u89 u90 u91 u92 u93 u94 u95 u96 u97 u98 u99 u127 u128 u129 u130 u131 u132 u133 u134 u135 u136 u137 u138 u139 u140 u141 u142 u143 u144 u145 u146 u147 u148 u149 u150 u151 u152 u153 u154 u155 u156 u157 u158 u159 u160) :
    wpAnyH Tryz.prog .any ops13r (NoPanic Q) (SX13 gs m nb cA cB i k a0 b0 ri rk) 2 ls ⟨#[u0, u1, (.int .i8 bz), u3, u4, u5, u6, (.pointer (some ⟨gs, 0, none⟩)), (.int .i64 (i : Int)), (.int .i64 (k : Int)), (.slice X nx cX), u11, u12, u13, u14, u15, u16, u17, u18, u19, u20, u21, u22, u23, u24, u25, u26, u27, u28, u29, u30, u31, u32, u33, u34, u35, u36, u37, u38, u39, u40, u41, u42, u43, u44, u45, u46, u47, u48, u49, u50, u51, u52, u53, u54, u55, u56, u57, u58, u59, u60, u61, u62, u63, u64, u65, u66, u67, u68, u69, u70, u71, u72, u73, u74, u75, u76, u77, u78, u79, u80, u81, u82, u83, u84, u85, u86, u87, u88, u89, u90, u91, u92, u93, u94, u95, u96, u97, u98, u99, (.pointer (some ⟨gs, 0, none⟩)), (.slice (some a0) m cA), (.slice (some ⟨gA, 0, none⟩) m cA2), (.slice X nx cX), (.slice (some ⟨ha, 0, none⟩) 1 1), (.slice (some ⟨gP, 0, none⟩) (m + 1) cP), (.pointer (some ⟨gs, 1, none⟩)), (.slice (some b0) nb cB), (.slice (some ⟨gC, 0, none⟩) nb cC2), (.pointer (some ⟨gs, 1, none⟩)), (.slice (some b0) nb cB), (.int .i64 (i : Int)), (.pointer (some (b0.add (i * 4)))), (.agg #[.bool ri.b, .slice ri.A ri.m ri.c, .bool ri.b', .slice ri.A' ri.m' ri.c']), (.int .i8 bz), (.int .i64 bz), (.agg #[.bool rw.b, .slice rw.A rw.m rw.c, .bool rw.b', .slice rw.A' rw.m' rw.c']), (.pointer (some ⟨gs, 1, none⟩)), (.slice (some b0) nb cB), (.int .i64 (k : Int)), (.pointer (some (b0.add (k * 4)))), (.agg #[.bool rk.b, .slice rk.A rk.m rk.c, .bool rk.b', .slice rk.A' rk.m' rk.c']), (.agg #[.bool ru.b, .slice ru.A ru.m ru.c, .bool ru.b', .slice ru.A' ru.m' ru.c']), (.agg #[.bool rd.b, .slice rd.A rd.m rd.c, .bool rd.b', .slice rd.A' rd.m' rd.c']), (.slice (some ⟨hb, 0, none⟩) 1 1), (.slice (some ⟨gQ, 0, none⟩) (nb + 1) cQ), (.agg #[(.slice (some ⟨gP, 0, none⟩) (m + 1) cP), (.slice (some ⟨gQ, 0, none⟩) (nb + 1) cQ)]), u127, u128, u129, u130, u131, u132, u133, u134, u135, u136, u137, u138, u139, u140, u141, u142, u143, u144, u145, u146, u147, u148, u149, u150, u151, u152, u153, u154, u155, u156, u157, u158, u159, u160], []⟩ W := by
  subst hls
  have cx0 := cx
  obtain ⟨hS9, hUC, hUB, hUI, hul, hm, hBN, hnb, hRI, hRK, hf, hsz, hOut⟩ := cx0
  refine wpAnyH_ready (rs := [27]) (by kernel_rfl) (by simp) ?_
  refine (AllReadyH.cons ops13r_27 (fun KK hKK => ?_) AllReadyH.nil)
  · go_simp
    have hb5 : Below W.heap.size W (W.alloc (.cells #[.slice none 0 0, .slice none 0 0] 25)) := (Below.refl _ _).alloc (Nat.le_refl _) _
    have hBn := (hB.trans (hb5.mono hB.size))
    refine hKK.out _ _ (hS9.out _ hBn) (fun hHeld => ?_)
    clear hKK KK
    (try simp only [Act.put, List.getElem_toArray, List.getElem_cons_succ, List.getElem_cons_zero, List.setIfInBounds_toArray, List.set_cons_zero, List.set_cons_succ])
    exact st13_APCWUDyQxz  hHeld _ (by kernel_rfl) (hB.trans (hb5.mono hB.size)) (OP.below hb5) (OQ.below hb5) (VQ.keep (.of_below hb5)) hrl (made1 W #[.slice none 0 0, .slice none 0 0] 25) hB.size cx

set_option maxRecDepth 100000 in
set_option maxHeartbeats 4000000 in
theorem st13_APCWUDyxz (hHeld : SX13 gs m nb cA cB i k a0 b0 ri rk W) (ls : Array Bool) (hls : ls = #[true, true, true, true, true, true, true, true, true, true, true, true, true, true, true, true, true, true, true, true, true, true, true, true, true, false, false, true, false]) (hB : Below w9.heap.size w9 W) (OP : OwnL W w9.heap.size (.slice (some ⟨gP, 0, none⟩) (m + 1) cP) (us ++ [(.slice X nx cX)])) (OC : OwnR W w9.heap.size (.slice (some ⟨gC, 0, none⟩) nb cC2) rs) (VC : ValL 2 W (fun b => w9.heap.size ≤ b) rs f1) (hrl : rs.length = nb) (HDv : RatL 7 W (fun b => b = gC) (.agg #[.bool rd.b, .slice rd.A rd.m rd.c, .bool rd.b', .slice rd.A' rd.m' rd.c']) (fi + (bz : Rat) * fk)) (Lb : Loc W hb 44 #[.bool rd.b, .slice rd.A rd.m rd.c, .bool rd.b', .slice rd.A' rd.m' rd.c']) (Ld : Loc W hd 25 #[.slice none 0 0, .slice none 0 0]) (hld : w9.heap.size ≤ hd) (cx : Cx13 w9 Q gs m nb cA cB i k a0 b0 X nx cX ri rk us f1 f2 fi fk bz u0 u1 u3 u4 u5 u6 u11 u13 u14 u15 u16 u17 u18 u19 u20 u21 u22 u23 u24 u25 u26 u27 u28 u29 u30 u31 u32 u33 u34 u35 u36 u37 u38 u39 u40 u41 u42 u43 u44 u45 u46 u47 u48 u49 u50 u51 u52 u53 u54 u55 u56 u57 u58 u59 u60 u61 u62 u63 u64 u65 u66 u67 u68 u69 u70 u71 u72 u73 u74 u75 u76 u77 u78 u79 u80 u81 u82 u83 u84 u85 u86 u87 u88 u89 u90 u91 u92 u93 u94 u95 u96 u97 u98 u99 u127 u128 u129 u130 u131 u132 u133 u134 u135 u136 u137 u138 u139 u140 u141 u142 u143 u144 u145 u146 u147 u148 u149 u150 u151 u152 u153 u154 u155 u156 u157 u158 u159 u160) :
    wpAnyH Tryz.prog .any ops13r (NoPanic Q) (SX13 gs m nb cA cB i k a0 b0 ri rk) 3 ls ⟨#[u0, u1, (.int .i8 bz), u3, u4, u5, u6, (.pointer (some ⟨gs, 0, none⟩)), (.int .i64 (i : Int)), (.int .i64 (k : Int)), (.slice X nx cX), u11, (.pointer (some ⟨hd, 0, none⟩)), u13, u14, u15, u16, u17, u18, u19, u20, u21, u22, u23, u24, u25, u26, u27, u28, u29, u30, u31, u32, u33, u34, u35, u36, u37, u38, u39, u40, u41, u42, u43, u44, u45, u46, u47, u48, u49, u50, u51, u52, u53, u54, u55, u56, u57, u58, u59, u60, u61, u62, u63, u64, u65, u66, u67, u68, u69, u70, u71, u72, u73, u74, u75, u76, u77, u78, u79, u80, u81, u82, u83, u84, u85, u86, u87, u88, u89, u90, u91, u92, u93, u94, u95, u96, u97, u98, u99, (.pointer (some ⟨gs, 0, none⟩)), (.slice (some a0) m cA), (.slice (some ⟨gA, 0, none⟩) m cA2), (.slice X nx cX), (.slice (some ⟨ha, 0, none⟩) 1 1), (.slice (some ⟨gP, 0, none⟩) (m + 1) cP), (.pointer (some ⟨gs, 1, none⟩)), (.slice (some b0) nb cB), (.slice (some ⟨gC, 0, none⟩) nb cC2), (.pointer (some ⟨gs, 1, none⟩)), (.slice (some b0) nb cB), (.int .i64 (i : Int)), (.pointer (some (b0.add (i * 4)))), (.agg #[.bool ri.b, .slice ri.A ri.m ri.c, .bool ri.b', .slice ri.A' ri.m' ri.c']), (.int .i8 bz), (.int .i64 bz), (.agg #[.bool rw.b, .slice rw.A rw.m rw.c, .bool rw.b', .slice rw.A' rw.m' rw.c']), (.pointer (some ⟨gs, 1, none⟩)), (.slice (some b0) nb cB), (.int .i64 (k : Int)), (.pointer (some (b0.add (k * 4)))), (.agg #[.bool rk.b, .slice rk.A rk.m rk.c, .bool rk.b', .slice rk.A' rk.m' rk.c']), (.agg #[.bool ru.b, .slice ru.A ru.m ru.c, .bool ru.b', .slice ru.A' ru.m' ru.c']), (.agg #[.bool rd.b, .slice rd.A rd.m rd.c, .bool rd.b', .slice rd.A' rd.m' rd.c']), (.slice (some ⟨hb, 0, none⟩) 1 1), u125, u126, u127, u128, u129, u130, u131, u132, u133, u134, u135, u136, u137, u138, u139, u140, u141, u142, u143, u144, u145, u146, u147, u148, u149, u150, u151, u152, u153, u154, u155, u156, u157, u158, u159, u160], []⟩ W := by
  subst hls
  have cx0 := cx
  obtain ⟨hS9, hUC, hUB, hUI, hul, hm, hBN, hnb, hRI, hRK, hf, hsz, hOut⟩ := cx0
  refine wpAnyH_ready (rs := [25]) (by kernel_rfl) (by simp) ?_
  refine (AllReadyH.cons ops13r_25 (fun KK hKK => ?_) AllReadyH.nil)
  · refine step_pushR _ rfl _ _ rfl w9.heap.size (.slice (some ⟨gC, 0, none⟩) nb cC2) rs (by rfl) OC hb rd (by rfl) Lb (by have := hnb.out.2; omega) hB.size ?_
    intro gQ cQ W1 hO hg5 hw5 hl5
    rw [hrl] at hO ⊢
    have hBn := (below_own hB OC hg5 (Nat.le_refl _) hB.size)
    refine hKK.out _ _ (hS9.out _ hBn) (fun hHeld => ?_)
    clear hKK KK
    (try simp only [Act.put, List.getElem_toArray, List.getElem_cons_succ, List.getElem_cons_zero, List.setIfInBounds_toArray, List.set_cons_zero, List.set_cons_succ])
    refine wpAnyH_take (i := 26) (v := ?_) ops13r_26 (by kernel_rfl) (by kernel_rfl) (by kernel_rfl) (fun _ _ _ h => h) (Or.inl ⟨by kernel_rfl, ?_⟩) hHeld ?_
    rotate_left 1
    · (intro w hSw; (try dsimp only at hSw); first | (go_simp; done) | (go_simp; with_reducible rfl))
    (try simp only [Act.put, List.getElem_toArray, List.getElem_cons_succ, List.getElem_cons_zero, List.setIfInBounds_toArray, List.set_cons_zero, List.set_cons_succ])
    exact st13_APCWUDyQxz  hHeld _ (by kernel_rfl) (below_own hB OC hg5 (Nat.le_refl _) hB.size) (own_other OC hg5 OP (by decide)) hO (ValL.grow (((VC.weak (fun b _ h => (OC.lt h).2)).mono (by decide)).congr (fun j hj => hf.out.1 j (by rw [← hrl]; exact hj))) (by rw [hrl, hf.out.2]; exact HDv.weak (fun b _ h => by injection h with h; exact h.symm)) hg5 hw5) hrl (loc_other OC hg5 Ld (by decide)) hld cx

set_option maxRecDepth 100000 in
set_option maxHeartbeats 4000000 in
theorem st13_APCWUDyx (hHeld : SX13 gs m nb cA cB i k a0 b0 ri rk W) (ls : Array Bool) (hls : ls = #[true, true, true, true, true, true, true, true, true, true, true, true, true, true, true, true, true, true, true, true, true, true, true, true, true, false, false, false, false]) (hB : Below w9.heap.size w9 W) (OP : OwnL W w9.heap.size (.slice (some ⟨gP, 0, none⟩) (m + 1) cP) (us ++ [(.slice X nx cX)])) (OC : OwnR W w9.heap.size (.slice (some ⟨gC, 0, none⟩) nb cC2) rs) (VC : ValL 2 W (fun b => w9.heap.size ≤ b) rs f1) (hrl : rs.length = nb) (HDv : RatL 7 W (fun b => b = gC) (.agg #[.bool rd.b, .slice rd.A rd.m rd.c, .bool rd.b', .slice rd.A' rd.m' rd.c']) (fi + (bz : Rat) * fk)) (Lb : Loc W hb 44 #[.bool rd.b, .slice rd.A rd.m rd.c, .bool rd.b', .slice rd.A' rd.m' rd.c']) (cx : Cx13 w9 Q gs m nb cA cB i k a0 b0 X nx cX ri rk us f1 f2 fi fk bz u0 u1 u3 u4 u5 u6 u11 u13 u14 u15 u16 u17 u18 u19 u20 u21 u22 u23 u24 u25 u26 u27 u28 u29 u30 u31 u32 u33 u34 u35 u36 u37 u38 u39 u40 u41 u42 u43 u44 u45 u46 u47 u48 u49 u50 u51 u52 u53 u54 u55 u56 u57 u58 u59 u60 u61 u62 u63 u64 u65 u66 u67 u68 u69 u70 u71 u72 u73 u74 u75 u76 u77 u78 u79 u80 u81 u82 u83 u84 u85 u86 u87 u88 u89 u90 u91 u92 u93 u94 u95 u96 u97 u98 u99 u127 u128 u129 u130 u131 u132 u133 u134 u135 u136 u137 u138 u139 u140 u141 u142 u143 u144 u145 u146 u147 u148 u149 u150 u151 u152 u153 u154 u155 u156 u157 u158 u159 u160) :
    wpAnyH Tryz.prog .any ops13r (NoPanic Q) (SX13 gs m nb cA cB i k a0 b0 ri rk) 4 ls ⟨#[u0, u1, (.int .i8 bz), u3, u4, u5, u6, (.pointer (some ⟨gs, 0, none⟩)), (.int .i64 (i : Int)), (.int .i64 (k : Int)), (.slice X nx cX), u11, u12, u13, u14, u15, u16, u17, u18, u19, u20, u21, u22, u23, u24, u25, u26, u27, u28, u29, u30, u31, u32, u33, u34, u35, u36, u37, u38, u39, u40, u41, u42, u43, u44, u45, u46, u47, u48, u49, u50, u51, u52, u53, u54, u55, u56, u57, u58, u59, u60, u61, u62, u63, u64, u65, u66, u67, u68, u69, u70, u71, u72, u73, u74, u75, u76, u77, u78, u79, u80, u81, u82, u83, u84, u85, u86, u87, u88, u89, u90, u91, u92, u93, u94, u95, u96, u97, u98, u99, (.pointer (some ⟨gs, 0, none⟩)), (.slice (some a0) m cA), (.slice (some ⟨gA, 0, none⟩) m cA2), (.slice X nx cX), (.slice (some ⟨ha, 0, none⟩) 1 1), (.slice (some ⟨gP, 0, none⟩) (m + 1) cP), (.pointer (some ⟨gs, 1, none⟩)), (.slice (some b0) nb cB), (.slice (some ⟨gC, 0, none⟩) nb cC2), (.pointer (some ⟨gs, 1, none⟩)), (.slice (some b0) nb cB), (.int .i64 (i : Int)), (.pointer (some (b0.add (i * 4)))), (.agg #[.bool ri.b, .slice ri.A ri.m ri.c, .bool ri.b', .slice ri.A' ri.m' ri.c']), (.int .i8 bz), (.int .i64 bz), (.agg #[.bool rw.b, .slice rw.A rw.m rw.c, .bool rw.b', .slice rw.A' rw.m' rw.c']), (.pointer (some ⟨gs, 1, none⟩)), (.slice (some b0) nb cB), (.int .i64 (k : Int)), (.pointer (some (b0.add (k * 4)))), (.agg #[.bool rk.b, .slice rk.A rk.m rk.c, .bool rk.b', .slice rk.A' rk.m' rk.c']), (.agg #[.bool ru.b, .slice ru.A ru.m ru.c, .bool ru.b', .slice ru.A' ru.m' ru.c']), (.agg #[.bool rd.b, .slice rd.A rd.m rd.c, .bool rd.b', .slice rd.A' rd.m' rd.c']), (.slice (some ⟨hb, 0, none⟩) 1 1), u125, u126, u127, u128, u129, u130, u131, u132, u133, u134, u135, u136, u137, u138, u139, u140, u141, u142, u143, u144, u145, u146, u147, u148, u149, u150, u151, u152, u153, u154, u155, u156, u157, u158, u159, u160], []⟩ W := by
  subst hls
  have cx0 := cx
  obtain ⟨hS9, hUC, hUB, hUI, hul, hm, hBN, hnb, hRI, hRK, hf, hsz, hOut⟩ := cx0
  refine wpAnyH_ready (rs := [25, 27]) (by kernel_rfl) (by simp) ?_
  refine (AllReadyH.cons ops13r_25 (fun KK hKK => ?_) (AllReadyH.cons ops13r_27 (fun KK hKK => ?_) AllReadyH.nil))
  · refine step_pushR _ rfl _ _ rfl w9.heap.size (.slice (some ⟨gC, 0, none⟩) nb cC2) rs (by rfl) OC hb rd (by rfl) Lb (by have := hnb.out.2; omega) hB.size ?_
    intro gQ cQ W1 hO hg5 hw5 hl5
    rw [hrl] at hO ⊢
    have hBn := (below_own hB OC hg5 (Nat.le_refl _) hB.size)
    refine hKK.out _ _ (hS9.out _ hBn) (fun hHeld => ?_)
    clear hKK KK
    (try simp only [Act.put, List.getElem_toArray, List.getElem_cons_succ, List.getElem_cons_zero, List.setIfInBounds_toArray, List.set_cons_zero, List.set_cons_succ])
    refine wpAnyH_take (i := 26) (v := ?_) ops13r_26 (by kernel_rfl) (by kernel_rfl) (by kernel_rfl) (fun _ _ _ h => h) (Or.inl ⟨by kernel_rfl, ?_⟩) hHeld ?_
    rotate_left 1
    · (intro w hSw; (try dsimp only at hSw); first | (go_simp; done) | (go_simp; with_reducible rfl))
    (try simp only [Act.put, List.getElem_toArray, List.getElem_cons_succ, List.getElem_cons_zero, List.setIfInBounds_toArray, List.set_cons_zero, List.set_cons_succ])
    exact st13_APCWUDyQx  hHeld _ (by kernel_rfl) (below_own hB OC hg5 (Nat.le_refl _) hB.size) (own_other OC hg5 OP (by decide)) hO (ValL.grow (((VC.weak (fun b _ h => (OC.lt h).2)).mono (by decide)).congr (fun j hj => hf.out.1 j (by rw [← hrl]; exact hj))) (by rw [hrl, hf.out.2]; exact HDv.weak (fun b _ h => by injection h with h; exact h.symm)) hg5 hw5) hrl cx
  · go_simp
    have hb5 : Below W.heap.size W (W.alloc (.cells #[.slice none 0 0, .slice none 0 0] 25)) := (Below.refl _ _).alloc (Nat.le_refl _) _
    have hBn := (hB.trans (hb5.mono hB.size))
    refine hKK.out _ _ (hS9.out _ hBn) (fun hHeld => ?_)
    clear hKK KK
    (try simp only [Act.put, List.getElem_toArray, List.getElem_cons_succ, List.getElem_cons_zero, List.setIfInBounds_toArray, List.set_cons_zero, List.set_cons_succ])
    exact st13_APCWUDyxz  hHeld _ (by kernel_rfl) (hB.trans (hb5.mono hB.size)) (OP.below hb5) (OC.below hb5) (VC.keep (.of_below hb5)) hrl (HDv.keep (.of_below hb5)) (Lb.below hb5) (made1 W #[.slice none 0 0, .slice none 0 0] 25) hB.size cx

set_option maxRecDepth 100000 in
set_option maxHeartbeats 4000000 in
theorem st13_APCWUDxz (hHeld : SX13 gs m nb cA cB i k a0 b0 ri rk W) (ls : Array Bool) (hls : ls = #[true, true, true, true, true, true, true, true, true, true, true, true, true, true, true, true, true, true, true, true, true, true, true, true, false, false, false, true, false]) (hB : Below w9.heap.size w9 W) (OP : OwnL W w9.heap.size (.slice (some ⟨gP, 0, none⟩) (m + 1) cP) (us ++ [(.slice X nx cX)])) (OC : OwnR W w9.heap.size (.slice (some ⟨gC, 0, none⟩) nb cC2) rs) (VC : ValL 2 W (fun b => w9.heap.size ≤ b) rs f1) (hrl : rs.length = nb) (HDv : RatL 7 W (fun b => b = gC) (.agg #[.bool rd.b, .slice rd.A rd.m rd.c, .bool rd.b', .slice rd.A' rd.m' rd.c']) (fi + (bz : Rat) * fk)) (Ld : Loc W hd 25 #[.slice none 0 0, .slice none 0 0]) (hld : w9.heap.size ≤ hd) (cx : Cx13 w9 Q gs m nb cA cB i k a0 b0 X nx cX ri rk us f1 f2 fi fk bz u0 u1 u3 u4 u5 u6 u11 u13 u14 u15 u16 u17 u18 u19 u20 u21 u22 u23 u24 u25 u26 u27 u28 u29 u30 u31 u32 u33 u34 u35 u36 u37 u38 u39 u40 u41 u42 u43 u44 u45 u46 u47 u48 u49 u50 u51 u52 u53 u54 u55 u56 u57 u58 u59 u60 u61 u62 u63 u64 u65 u66 u67 u68 u69 u70 u71 u72 u73 u74 u75 u76 u77 u78 u79 u80 u81 u82 u83 u84 u85 u86 u87 u88 u89 u90 u91 u92 u93 u94 u95 u96 u97 u98 u99 u127 u128 u129 u130 u131 u132 u133 u134 u135 u136 u137 u138 u139 u140 u141 u142 u143 u144 u145 u146 u147 u148 u149 u150 u151 u152 u153 u154 u155 u156 u157 u158 u159 u160) :
    wpAnyH Tryz.prog .any ops13r (NoPanic Q) (SX13 gs m nb cA cB i k a0 b0 ri rk) 4 ls ⟨#[u0, u1, (.int .i8 bz), u3, u4, u5, u6, (.pointer (some ⟨gs, 0, none⟩)), (.int .i64 (i : Int)), (.int .i64 (k : Int)), (.slice X nx cX), u11, (.pointer (some ⟨hd, 0, none⟩)), u13, u14, u15, u16, u17, u18, u19, u20, u21, u22, u23, u24, u25, u26, u27, u28, u29, u30, u31, u32, u33, u34, u35, u36, u37, u38, u39, u40, u41, u42, u43, u44, u45, u46, u47, u48, u49, u50, u51, u52, u53, u54, u55, u56, u57, u58, u59, u60, u61, u62, u63, u64, u65, u66, u67, u68, u69, u70, u71, u72, u73, u74, u75, u76, u77, u78, u79, u80, u81, u82, u83, u84, u85, u86, u87, u88, u89, u90, u91, u92, u93, u94, u95, u96, u97, u98, u99, (.pointer (some ⟨gs, 0, none⟩)), (.slice (some a0) m cA), (.slice (some ⟨gA, 0, none⟩) m cA2), (.slice X nx cX), (.slice (some ⟨ha, 0, none⟩) 1 1), (.slice (some ⟨gP, 0, none⟩) (m + 1) cP), (.pointer (some ⟨gs, 1, none⟩)), (.slice (some b0) nb cB), (.slice (some ⟨gC, 0, none⟩) nb cC2), (.pointer (some ⟨gs, 1, none⟩)), (.slice (some b0) nb cB), (.int .i64 (i : Int)), (.pointer (some (b0.add (i * 4)))), (.agg #[.bool ri.b, .slice ri.A ri.m ri.c, .bool ri.b', .slice ri.A' ri.m' ri.c']), (.int .i8 bz), (.int .i64 bz), (.agg #[.bool rw.b, .slice rw.A rw.m rw.c, .bool rw.b', .slice rw.A' rw.m' rw.c']), (.pointer (some ⟨gs, 1, none⟩)), (.slice (some b0) nb cB), (.int .i64 (k : Int)), (.pointer (some (b0.add (k * 4)))), (.agg #[.bool rk.b, .slice rk.A rk.m rk.c, .bool rk.b', .slice rk.A' rk.m' rk.c']), (.agg #[.bool ru.b, .slice ru.A ru.m ru.c, .bool ru.b', .slice ru.A' ru.m' ru.c']), (.agg #[.bool rd.b, .slice rd.A rd.m rd.c, .bool rd.b', .slice rd.A' rd.m' rd.c']), u124, u125, u126, u127, u128, u129, u130, u131, u132, u133, u134, u135, u136, u137, u138, u139, u140, u141, u142, u143, u144, u145, u146, u147, u148, u149, u150, u151, u152, u153, u154, u155, u156, u157, u158, u159, u160], []⟩ W := by
  subst hls
  have cx0 := cx
  obtain ⟨hS9, hUC, hUB, hUI, hul, hm, hBN, hnb, hRI, hRK, hf, hsz, hOut⟩ := cx0
  refine wpAnyH_ready (rs := [24]) (by kernel_rfl) (by simp) ?_
  refine (AllReadyH.cons ops13r_24 (fun KK hKK => ?_) AllReadyH.nil)
  · go_simp
    have hb5 : Below W.heap.size W (W.alloc (.cells #[.bool rd.b, .slice rd.A rd.m rd.c, .bool rd.b', .slice rd.A' rd.m' rd.c'] 44)) := (Below.refl _ _).alloc (Nat.le_refl _) _
    have hBn := (hB.trans (hb5.mono hB.size))
    refine hKK.out _ _ (hS9.out _ hBn) (fun hHeld => ?_)
    clear hKK KK
    (try simp only [Act.put, List.getElem_toArray, List.getElem_cons_succ, List.getElem_cons_zero, List.setIfInBounds_toArray, List.set_cons_zero, List.set_cons_succ])
    exact st13_APCWUDyxz  hHeld _ (by kernel_rfl) (hB.trans (hb5.mono hB.size)) (OP.below hb5) (OC.below hb5) (VC.keep (.of_below hb5)) hrl (HDv.keep (.of_below hb5)) (made1 W #[.bool rd.b, .slice rd.A rd.m rd.c, .bool rd.b', .slice rd.A' rd.m' rd.c'] 44) (Ld.below hb5) hld cx

set_option maxRecDepth 100000 in
set_option maxHeartbeats 4000000 in
theorem st13_APCWUDx (hHeld : SX13 gs m nb cA cB i k a0 b0 ri rk W) (ls : Array Bool) (hls : ls = #[true, true, true, true, true, true, true, true, true, true, true, true, true, true, true, true, true, true, true, true, true, true, true, true, false, false, false, false, false]) (hB : Below w9.heap.size w9 W) (OP : OwnL W w9.heap.size (.slice (some ⟨gP, 0, none⟩) (m + 1) cP) (us ++ [(.slice X nx cX)])) (OC : OwnR W w9.heap.size (.slice (some ⟨gC, 0, none⟩) nb cC2) rs) (VC : ValL 2 W (fun b => w9.heap.size ≤ b) rs f1) (hrl : rs.length = nb) (HDv : RatL 7 W (fun b => b = gC) (.agg #[.bool rd.b, .slice rd.A rd.m rd.c, .bool rd.b', .slice rd.A' rd.m' rd.c']) (fi + (bz : Rat) * fk)) (cx : Cx13 w9 Q gs m nb cA cB i k a0 b0 X nx cX ri rk us f1 f2 fi fk bz u0 u1 u3 u4 u5 u6 u11 u13 u14 u15 u16 u17 u18 u19 u20 u21 u22 u23 u24 u25 u26 u27 u28 u29 u30 u31 u32 u33 u34 u35 u36 u37 u38 u39 u40 u41 u42 u43 u44 u45 u46 u47 u48 u49 u50 u51 u52 u53 u54 u55 u56 u57 u58 u59 u60 u61 u62 u63 u64 u65 u66 u67 u68 u69 u70 u71 u72 u73 u74 u75 u76 u77 u78 u79 u80 u81 u82 u83 u84 u85 u86 u87 u88 u89 u90 u91 u92 u93 u94 u95 u96 u97 u98 u99 u127 u128 u129 u130 u131 u132 u133 u134 u135 u136 u137 u138 u139 u140 u141 u142 u143 u144 u145 u146 u147 u148 u149 u150 u151 u152 u153 u154 u155 u156 u157 u158 u159 u160) :
    wpAnyH Tryz.prog .any ops13r (NoPanic Q) (SX13 gs m nb cA cB i k a0 b0 ri rk) 5 ls ⟨#[u0, u1, (.int .i8 bz), u3, u4, u5, u6, (.pointer (some ⟨gs, 0, none⟩)), (.int .i64 (i : Int)), (.int .i64 (k : Int)), (.slice X nx cX), u11, u12, u13, u14, u15, u16, u17, u18, u19, u20, u21, u22, u23, u24, u25, u26, u27, u28, u29, u30, u31, u32, u33, u34, u35, u36, u37, u38, u39, u40, u41, u42, u43, u44, u45, u46, u47, u48, u49, u50, u51, u52, u53, u54, u55, u56, u57, u58, u59, u60, u61, u62, u63, u64, u65, u66, u67, u68, u69, u70, u71, u72, u73, u74, u75, u76, u77, u78, u79, u80, u81, u82, u83, u84, u85, u86, u87, u88, u89, u90, u91, u92, u93, u94, u95, u96, u97, u98, u99, (.pointer (some ⟨gs, 0, none⟩)), (.slice (some a0) m cA), (.slice (some ⟨gA, 0, none⟩) m cA2), (.slice X nx cX), (.slice (some ⟨ha, 0, none⟩) 1 1), (.slice (some ⟨gP, 0, none⟩) (m + 1) cP), (.pointer (some ⟨gs, 1, none⟩)), (.slice (some b0) nb cB), (.slice (some ⟨gC, 0, none⟩) nb cC2), (.pointer (some ⟨gs, 1, none⟩)), (.slice (some b0) nb cB), (.int .i64 (i : Int)), (.pointer (some (b0.add (i * 4)))), (.agg #[.bool ri.b, .slice ri.A ri.m ri.c, .bool ri.b', .slice ri.A' ri.m' ri.c']), (.int .i8 bz), (.int .i64 bz), (.agg #[.bool rw.b, .slice rw.A rw.m rw.c, .bool rw.b', .slice rw.A' rw.m' rw.c']), (.pointer (some ⟨gs, 1, none⟩)), (.slice (some b0) nb cB), (.int .i64 (k : Int)), (.pointer (some (b0.add (k * 4)))), (.agg #[.bool rk.b, .slice rk.A rk.m rk.c, .bool rk.b', .slice rk.A' rk.m' rk.c']), (.agg #[.bool ru.b, .slice ru.A ru.m ru.c, .bool ru.b', .slice ru.A' ru.m' ru.c']), (.agg #[.bool rd.b, .slice rd.A rd.m rd.c, .bool rd.b', .slice rd.A' rd.m' rd.c']), u124, u125, u126, u127, u128, u129, u130, u131, u132, u133, u134, u135, u136, u137, u138, u139, u140, u141, u142, u143, u144, u145, u146, u147, u148, u149, u150, u151, u152, u153, u154, u155, u156, u157, u158, u159, u160], []⟩ W := by
  subst hls
  have cx0 := cx
  obtain ⟨hS9, hUC, hUB, hUI, hul, hm, hBN, hnb, hRI, hRK, hf, hsz, hOut⟩ := cx0
  refine wpAnyH_ready (rs := [24, 27]) (by kernel_rfl) (by simp) ?_
  refine (AllReadyH.cons ops13r_24 (fun KK hKK => ?_) (AllReadyH.cons ops13r_27 (fun KK hKK => ?_) AllReadyH.nil))
  · go_simp
    have hb5 : Below W.heap.size W (W.alloc (.cells #[.bool rd.b, .slice rd.A rd.m rd.c, .bool rd.b', .slice rd.A' rd.m' rd.c'] 44)) := (Below.refl _ _).alloc (Nat.le_refl _) _
    have hBn := (hB.trans (hb5.mono hB.size))
    refine hKK.out _ _ (hS9.out _ hBn) (fun hHeld => ?_)
    clear hKK KK
    (try simp only [Act.put, List.getElem_toArray, List.getElem_cons_succ, List.getElem_cons_zero, List.setIfInBounds_toArray, List.set_cons_zero, List.set_cons_succ])
    exact st13_APCWUDyx  hHeld _ (by kernel_rfl) (hB.trans (hb5.mono hB.size)) (OP.below hb5) (OC.below hb5) (VC.keep (.of_below hb5)) hrl (HDv.keep (.of_below hb5)) (made1 W #[.bool rd.b, .slice rd.A rd.m rd.c, .bool rd.b', .slice rd.A' rd.m' rd.c'] 44) cx
  · go_simp
    have hb5 : Below W.heap.size W (W.alloc (.cells #[.slice none 0 0, .slice none 0 0] 25)) := (Below.refl _ _).alloc (Nat.le_refl _) _
    have hBn := (hB.trans (hb5.mono hB.size))
    refine hKK.out _ _ (hS9.out _ hBn) (fun hHeld => ?_)
    clear hKK KK
    (try simp only [Act.put, List.getElem_toArray, List.getElem_cons_succ, List.getElem_cons_zero, List.setIfInBounds_toArray, List.set_cons_zero, List.set_cons_succ])
    exact st13_APCWUDxz  hHeld _ (by kernel_rfl) (hB.trans (hb5.mono hB.size)) (OP.below hb5) (OC.below hb5) (VC.keep (.of_below hb5)) hrl (HDv.keep (.of_below hb5)) (made1 W #[.slice none 0 0, .slice none 0 0] 25) hB.size cx

set_option maxRecDepth 100000 in
set_option maxHeartbeats 4000000 in
theorem st13_APCWUxz (hHeld : SX13 gs m nb cA cB i k a0 b0 ri rk W) (ls : Array Bool) (hls : ls = #[true, true, true, true, true, true, true, true, true, true, true, true, true, true, true, true, true, true, true, true, true, true, true, false, false, false, false, true, false]) (hB : Below w9.heap.size w9 W) (OP : OwnL W w9.heap.size (.slice (some ⟨gP, 0, none⟩) (m + 1) cP) (us ++ [(.slice X nx cX)])) (OC : OwnR W w9.heap.size (.slice (some ⟨gC, 0, none⟩) nb cC2) rs) (VC : ValL 2 W (fun b => w9.heap.size ≤ b) rs f1) (hrl : rs.length = nb) (HUv : RatL 4 W (fun _ => False) (.agg #[.bool ru.b, .slice ru.A ru.m ru.c, .bool ru.b', .slice ru.A' ru.m' ru.c']) ((bz : Rat) * fk)) (Ld : Loc W hd 25 #[.slice none 0 0, .slice none 0 0]) (hld : w9.heap.size ≤ hd) (cx : Cx13 w9 Q gs m nb cA cB i k a0 b0 X nx cX ri rk us f1 f2 fi fk bz u0 u1 u3 u4 u5 u6 u11 u13 u14 u15 u16 u17 u18 u19 u20 u21 u22 u23 u24 u25 u26 u27 u28 u29 u30 u31 u32 u33 u34 u35 u36 u37 u38 u39 u40 u41 u42 u43 u44 u45 u46 u47 u48 u49 u50 u51 u52 u53 u54 u55 u56 u57 u58 u59 u60 u61 u62 u63 u64 u65 u66 u67 u68 u69 u70 u71 u72 u73 u74 u75 u76 u77 u78 u79 u80 u81 u82 u83 u84 u85 u86 u87 u88 u89 u90 u91 u92 u93 u94 u95 u96 u97 u98 u99 u127 u128 u129 u130 u131 u132 u133 u134 u135 u136 u137 u138 u139 u140 u141 u142 u143 u144 u145 u146 u147 u148 u149 u150 u151 u152 u153 u154 u155 u156 u157 u158 u159 u160) :
    wpAnyH Tryz.prog .any ops13r (NoPanic Q) (SX13 gs m nb cA cB i k a0 b0 ri rk) 5 ls ⟨#[u0, u1, (.int .i8 bz), u3, u4, u5, u6, (.pointer (some ⟨gs, 0, none⟩)), (.int .i64 (i : Int)), (.int .i64 (k : Int)), (.slice X nx cX), u11, (.pointer (some ⟨hd, 0, none⟩)), u13, u14, u15, u16, u17, u18, u19, u20, u21, u22, u23, u24, u25, u26, u27, u28, u29, u30, u31, u32, u33, u34, u35, u36, u37, u38, u39, u40, u41, u42, u43, u44, u45, u46, u47, u48, u49, u50, u51, u52, u53, u54, u55, u56, u57, u58, u59, u60, u61, u62, u63, u64, u65, u66, u67, u68, u69, u70, u71, u72, u73, u74, u75, u76, u77, u78, u79, u80, u81, u82, u83, u84, u85, u86, u87, u88, u89, u90, u91, u92, u93, u94, u95, u96, u97, u98, u99, (.pointer (some ⟨gs, 0, none⟩)), (.slice (some a0) m cA), (.slice (some ⟨gA, 0, none⟩) m cA2), (.slice X nx cX), (.slice (some ⟨ha, 0, none⟩) 1 1), (.slice (some ⟨gP, 0, none⟩) (m + 1) cP), (.pointer (some ⟨gs, 1, none⟩)), (.slice (some b0) nb cB), (.slice (some ⟨gC, 0, none⟩) nb cC2), (.pointer (some ⟨gs, 1, none⟩)), (.slice (some b0) nb cB), (.int .i64 (i : Int)), (.pointer (some (b0.add (i * 4)))), (.agg #[.bool ri.b, .slice ri.A ri.m ri.c, .bool ri.b', .slice ri.A' ri.m' ri.c']), (.int .i8 bz), (.int .i64 bz), (.agg #[.bool rw.b, .slice rw.A rw.m rw.c, .bool rw.b', .slice rw.A' rw.m' rw.c']), (.pointer (some ⟨gs, 1, none⟩)), (.slice (some b0) nb cB), (.int .i64 (k : Int)), (.pointer (some (b0.add (k * 4)))), (.agg #[.bool rk.b, .slice rk.A rk.m rk.c, .bool rk.b', .slice rk.A' rk.m' rk.c']), (.agg #[.bool ru.b, .slice ru.A ru.m ru.c, .bool ru.b', .slice ru.A' ru.m' ru.c']), u123, u124, u125, u126, u127, u128, u129, u130, u131, u132, u133, u134, u135, u136, u137, u138, u139, u140, u141, u142, u143, u144, u145, u146, u147, u148, u149, u150, u151, u152, u153, u154, u155, u156, u157, u158, u159, u160], []⟩ W := by
  subst hls
  have cx0 := cx
  obtain ⟨hS9, hUC, hUB, hUI, hul, hm, hBN, hnb, hRI, hRK, hf, hsz, hOut⟩ := cx0
  refine wpAnyH_ready (rs := [23]) (by kernel_rfl) (by simp) ?_
  refine (AllReadyH.cons ops13r_23 (fun KK hKK => ?_) AllReadyH.nil)
  · go_simp
    refine (radd_rat _ (fun _ => False) _ _ fi ((bz : Rat) * fk) ((hRI.out _ hB).mono (by decide)) (HUv.mono (by decide))).mono ?_
    rintro e W1 ⟨v5, rfl, i5, hb5⟩
    obtain ⟨b5, A5, m5, c5, b5', A5', m5', c5', rfl, i5, -, -⟩ := i5.op
    (try go_wp2_with fail)
    have hBn := (hB.trans (hb5.mono hB.size))
    refine hKK.out _ _ (hS9.out _ hBn) (fun hHeld => ?_)
    clear hKK KK
    (try simp only [Act.put, List.getElem_toArray, List.getElem_cons_succ, List.getElem_cons_zero, List.setIfInBounds_toArray, List.set_cons_zero, List.set_cons_succ])
    exact st13_APCWUDxz (rd := ⟨b5, A5, m5, c5, b5', A5', m5', c5'⟩) hHeld _ (by kernel_rfl) (hB.trans (hb5.mono hB.size)) (OP.below hb5) (OC.below hb5) (VC.keep (.of_below hb5)) hrl ((i5.len (hsz.out.1.add ((rsz_int (by have := hsz.out.2.2; omega) (by have := hsz.out.2.2; omega)).mul hsz.out.2.1))).weak (fun b _ h => by rw [h]; exact (OC.lt rfl).1)) (Ld.below hb5) hld cx

set_option maxRecDepth 100000 in
set_option maxHeartbeats 4000000 in
theorem st13_APCWUx (hHeld : SX13 gs m nb cA cB i k a0 b0 ri rk W) (ls : Array Bool) (hls : ls = #[true, true, true, true, true, true, true, true, true, true, true, true, true, true, true, true, true, true, true, true, true, true, true, false, false, false, false, false, false]) (hB : Below w9.heap.size w9 W) (OP : OwnL W w9.heap.size (.slice (some ⟨gP, 0, none⟩) (m + 1) cP) (us ++ [(.slice X nx cX)])) (OC : OwnR W w9.heap.size (.slice (some ⟨gC, 0, none⟩) nb cC2) rs) (VC : ValL 2 W (fun b => w9.heap.size ≤ b) rs f1) (hrl : rs.length = nb) (HUv : RatL 4 W (fun _ => False) (.agg #[.bool ru.b, .slice ru.A ru.m ru.c, .bool ru.b', .slice ru.A' ru.m' ru.c']) ((bz : Rat) * fk)) (cx : Cx13 w9 Q gs m nb cA cB i k a0 b0 X nx cX ri rk us f1 f2 fi fk bz u0 u1 u3 u4 u5 u6 u11 u13 u14 u15 u16 u17 u18 u19 u20 u21 u22 u23 u24 u25 u26 u27 u28 u29 u30 u31 u32 u33 u34 u35 u36 u37 u38 u39 u40 u41 u42 u43 u44 u45 u46 u47 u48 u49 u50 u51 u52 u53 u54 u55 u56 u57 u58 u59 u60 u61 u62 u63 u64 u65 u66 u67 u68 u69 u70 u71 u72 u73 u74 u75 u76 u77 u78 u79 u80 u81 u82 u83 u84 u85 u86 u87 u88 u89 u90 u91 u92 u93 u94 u95 u96 u97 u98 u99 u127 u128 u129 u130 u131 u132 u133 u134 u135 u136 u137 u138 u139 u140 u141 u142 u143 u144 u145 u146 u147 u148 u149 u150 u151 u152 u153 u154 u155 u156 u157 u158 u159 u160) :
    wpAnyH Tryz.prog .any ops13r (NoPanic Q) (SX13 gs m nb cA cB i k a0 b0 ri rk) 6 ls ⟨#[u0, u1, (.int .i8 bz), u3, u4, u5, u6, (.pointer (some ⟨gs, 0, none⟩)), (.int .i64 (i : Int)), (.int .i64 (k : Int)), (.slice X nx cX), u11, u12, u13, u14, u15, u16, u17, u18, u19, u20, u21, u22, u23, u24, u25, u26, u27, u28, u29, u30, u31, u32, u33, u34, u35, u36, u37, u38, u39, u40, u41, u42, u43, u44, u45, u46, u47, u48, u49, u50, u51, u52, u53, u54, u55, u56, u57, u58, u59, u60, u61, u62, u63, u64, u65, u66, u67, u68, u69, u70, u71, u72, u73, u74, u75, u76, u77, u78, u79, u80, u81, u82, u83, u84, u85, u86, u87, u88, u89, u90, u91, u92, u93, u94, u95, u96, u97, u98, u99, (.pointer (some ⟨gs, 0, none⟩)), (.slice (some a0) m cA), (.slice (some ⟨gA, 0, none⟩) m cA2), (.slice X nx cX), (.slice (some ⟨ha, 0, none⟩) 1 1), (.slice (some ⟨gP, 0, none⟩) (m + 1) cP), (.pointer (some ⟨gs, 1, none⟩)), (.slice (some b0) nb cB), (.slice (some ⟨gC, 0, none⟩) nb cC2), (.pointer (some ⟨gs, 1, none⟩)), (.slice (some b0) nb cB), (.int .i64 (i : Int)), (.pointer (some (b0.add (i * 4)))), (.agg #[.bool ri.b, .slice ri.A ri.m ri.c, .bool ri.b', .slice ri.A' ri.m' ri.c']), (.int .i8 bz), (.int .i64 bz), (.agg #[.bool rw.b, .slice rw.A rw.m rw.c, .bool rw.b', .slice rw.A' rw.m' rw.c']), (.pointer (some ⟨gs, 1, none⟩)), (.slice (some b0) nb cB), (.int .i64 (k : Int)), (.pointer (some (b0.add (k * 4)))), (.agg #[.bool rk.b, .slice rk.A rk.m rk.c, .bool rk.b', .slice rk.A' rk.m' rk.c']), (.agg #[.bool ru.b, .slice ru.A ru.m ru.c, .bool ru.b', .slice ru.A' ru.m' ru.c']), u123, u124, u125, u126, u127, u128, u129, u130, u131, u132, u133, u134, u135, u136, u137, u138, u139, u140, u141, u142, u143, u144, u145, u146, u147, u148, u149, u150, u151, u152, u153, u154, u155, u156, u157, u158, u159, u160], []⟩ W := by
  subst hls
  have cx0 := cx
  obtain ⟨hS9, hUC, hUB, hUI, hul, hm, hBN, hnb, hRI, hRK, hf, hsz, hOut⟩ := cx0
  refine wpAnyH_ready (rs := [23, 27]) (by kernel_rfl) (by simp) ?_
  refine (AllReadyH.cons ops13r_23 (fun KK hKK => ?_) (AllReadyH.cons ops13r_27 (fun KK hKK => ?_) AllReadyH.nil))
  · go_simp
    refine (radd_rat _ (fun _ => False) _ _ fi ((bz : Rat) * fk) ((hRI.out _ hB).mono (by decide)) (HUv.mono (by decide))).mono ?_
    rintro e W1 ⟨v5, rfl, i5, hb5⟩
    obtain ⟨b5, A5, m5, c5, b5', A5', m5', c5', rfl, i5, -, -⟩ := i5.op
    (try go_wp2_with fail)
    have hBn := (hB.trans (hb5.mono hB.size))
    refine hKK.out _ _ (hS9.out _ hBn) (fun hHeld => ?_)
    clear hKK KK
    (try simp only [Act.put, List.getElem_toArray, List.getElem_cons_succ, List.getElem_cons_zero, List.setIfInBounds_toArray, List.set_cons_zero, List.set_cons_succ])
    exact st13_APCWUDx (rd := ⟨b5, A5, m5, c5, b5', A5', m5', c5'⟩) hHeld _ (by kernel_rfl) (hB.trans (hb5.mono hB.size)) (OP.below hb5) (OC.below hb5) (VC.keep (.of_below hb5)) hrl ((i5.len (hsz.out.1.add ((rsz_int (by have := hsz.out.2.2; omega) (by have := hsz.out.2.2; omega)).mul hsz.out.2.1))).weak (fun b _ h => by rw [h]; exact (OC.lt rfl).1)) cx
  · go_simp
    have hb5 : Below W.heap.size W (W.alloc (.cells #[.slice none 0 0, .slice none 0 0] 25)) := (Below.refl _ _).alloc (Nat.le_refl _) _
    have hBn := (hB.trans (hb5.mono hB.size))
    refine hKK.out _ _ (hS9.out _ hBn) (fun hHeld => ?_)
    clear hKK KK
    (try simp only [Act.put, List.getElem_toArray, List.getElem_cons_succ, List.getElem_cons_zero, List.setIfInBounds_toArray, List.set_cons_zero, List.set_cons_succ])
    exact st13_APCWUxz  hHeld _ (by kernel_rfl) (hB.trans (hb5.mono hB.size)) (OP.below hb5) (OC.below hb5) (VC.keep (.of_below hb5)) hrl (HUv.keep (.of_below hb5)) (made1 W #[.slice none 0 0, .slice none 0 0] 25) hB.size cx

set_option maxRecDepth 100000 in
set_option maxHeartbeats 4000000 in
theorem st13_APCWxz (hHeld : SX13 gs m nb cA cB i k a0 b0 ri rk W) (ls : Array Bool) (hls : ls = #[true, true, true, true, true, true, true, true, true, true, true, true, true, true, true, true, true, true, true, true, true, true, false, false, false, false, false, true, false]) (hB : Below w9.heap.size w9 W) (OP : OwnL W w9.heap.size (.slice (some ⟨gP, 0, none⟩) (m + 1) cP) (us ++ [(.slice X nx cX)])) (OC : OwnR W w9.heap.size (.slice (some ⟨gC, 0, none⟩) nb cC2) rs) (VC : ValL 2 W (fun b => w9.heap.size ≤ b) rs f1) (hrl : rs.length = nb) (HWv : RatL 2 W (fun _ => False) (.agg #[.bool rw.b, .slice rw.A rw.m rw.c, .bool rw.b', .slice rw.A' rw.m' rw.c']) (bz : Rat)) (Ld : Loc W hd 25 #[.slice none 0 0, .slice none 0 0]) (hld : w9.heap.size ≤ hd) (cx : Cx13 w9 Q gs m nb cA cB i k a0 b0 X nx cX ri rk us f1 f2 fi fk bz u0 u1 u3 u4 u5 u6 u11 u13 u14 u15 u16 u17 u18 u19 u20 u21 u22 u23 u24 u25 u26 u27 u28 u29 u30 u31 u32 u33 u34 u35 u36 u37 u38 u39 u40 u41 u42 u43 u44 u45 u46 u47 u48 u49 u50 u51 u52 u53 u54 u55 u56 u57 u58 u59 u60 u61 u62 u63 u64 u65 u66 u67 u68 u69 u70 u71 u72 u73 u74 u75 u76 u77 u78 u79 u80 u81 u82 u83 u84 u85 u86 u87 u88 u89 u90 u91 u92 u93 u94 u95 u96 u97 u98 u99 u127 u128 u129 u130 u131 u132 u133 u134 u135 u136 u137 u138 u139 u140 u141 u142 u143 u144 u145 u146 u147 u148 u149 u150 u151 u152 u153 u154 u155 u156 u157 u158 u159 u160) :
    wpAnyH Tryz.prog .any ops13r (NoPanic Q) (SX13 gs m nb cA cB i k a0 b0 ri rk) 6 ls ⟨#[u0, u1, (.int .i8 bz), u3, u4, u5, u6, (.pointer (some ⟨gs, 0, none⟩)), (.int .i64 (i : Int)), (.int .i64 (k : Int)), (.slice X nx cX), u11, (.pointer (some ⟨hd, 0, none⟩)), u13, u14, u15, u16, u17, u18, u19, u20, u21, u22, u23, u24, u25, u26, u27, u28, u29, u30, u31, u32, u33, u34, u35, u36, u37, u38, u39, u40, u41, u42, u43, u44, u45, u46, u47, u48, u49, u50, u51, u52, u53, u54, u55, u56, u57, u58, u59, u60, u61, u62, u63, u64, u65, u66, u67, u68, u69, u70, u71, u72, u73, u74, u75, u76, u77, u78, u79, u80, u81, u82, u83, u84, u85, u86, u87, u88, u89, u90, u91, u92, u93, u94, u95, u96, u97, u98, u99, (.pointer (some ⟨gs, 0, none⟩)), (.slice (some a0) m cA), (.slice (some ⟨gA, 0, none⟩) m cA2), (.slice X nx cX), (.slice (some ⟨ha, 0, none⟩) 1 1), (.slice (some ⟨gP, 0, none⟩) (m + 1) cP), (.pointer (some ⟨gs, 1, none⟩)), (.slice (some b0) nb cB), (.slice (some ⟨gC, 0, none⟩) nb cC2), (.pointer (some ⟨gs, 1, none⟩)), (.slice (some b0) nb cB), (.int .i64 (i : Int)), (.pointer (some (b0.add (i * 4)))), (.agg #[.bool ri.b, .slice ri.A ri.m ri.c, .bool ri.b', .slice ri.A' ri.m' ri.c']), (.int .i8 bz), (.int .i64 bz), (.agg #[.bool rw.b, .slice rw.A rw.m rw.c, .bool rw.b', .slice rw.A' rw.m' rw.c']), (.pointer (some ⟨gs, 1, none⟩)), (.slice (some b0) nb cB), (.int .i64 (k : Int)), (.pointer (some (b0.add (k * 4)))), (.agg #[.bool rk.b, .slice rk.A rk.m rk.c, .bool rk.b', .slice rk.A' rk.m' rk.c']), u122, u123, u124, u125, u126, u127, u128, u129, u130, u131, u132, u133, u134, u135, u136, u137, u138, u139, u140, u141, u142, u143, u144, u145, u146, u147, u148, u149, u150, u151, u152, u153, u154, u155, u156, u157, u158, u159, u160], []⟩ W := by
  subst hls
  have cx0 := cx
  obtain ⟨hS9, hUC, hUB, hUI, hul, hm, hBN, hnb, hRI, hRK, hf, hsz, hOut⟩ := cx0
  refine wpAnyH_ready (rs := [22]) (by kernel_rfl) (by simp) ?_
  refine (AllReadyH.cons ops13r_22 (fun KK hKK => ?_) AllReadyH.nil)
  · go_simp
    refine (rmul_rat _ (fun _ => False) _ _ (bz : Rat) fk (HWv.mono (by decide)) ((hRK.out _ hB).mono (by decide))).mono ?_
    rintro e W1 ⟨v5, rfl, i5, hb5⟩
    obtain ⟨b5, A5, m5, c5, b5', A5', m5', c5', rfl, i5, -, -⟩ := i5.op
    (try go_wp2_with fail)
    have hBn := (hB.trans (hb5.mono hB.size))
    refine hKK.out _ _ (hS9.out _ hBn) (fun hHeld => ?_)
    clear hKK KK
    (try simp only [Act.put, List.getElem_toArray, List.getElem_cons_succ, List.getElem_cons_zero, List.setIfInBounds_toArray, List.set_cons_zero, List.set_cons_succ])
    exact st13_APCWUxz (ru := ⟨b5, A5, m5, c5, b5', A5', m5', c5'⟩) hHeld _ (by kernel_rfl) (hB.trans (hb5.mono hB.size)) (OP.below hb5) (OC.below hb5) (VC.keep (.of_below hb5)) hrl ((i5.len ((rsz_int (by have := hsz.out.2.2; omega) (by have := hsz.out.2.2; omega)).mul hsz.out.2.1)).weak (fun _ _ h => h.elim)) (Ld.below hb5) hld cx

set_option maxRecDepth 100000 in
set_option maxHeartbeats 4000000 in
theorem st13_APCWx (hHeld : SX13 gs m nb cA cB i k a0 b0 ri rk W) (ls : Array Bool) (hls : ls = #[true, true, true, true, true, true, true, true, true, true, true, true, true, true, true, true, true, true, true, true, true, true, false, false, false, false, false, false, false]) (hB : Below w9.heap.size w9 W) (OP : OwnL W w9.heap.size (.slice (some ⟨gP, 0, none⟩) (m + 1) cP) (us ++ [(.slice X nx cX)])) (OC : OwnR W w9.heap.size (.slice (some ⟨gC, 0, none⟩) nb cC2) rs) (VC : ValL 2 W (fun b => w9.heap.size ≤ b) rs f1) (hrl : rs.length = nb) (HWv : RatL 2 W (fun _ => False) (.agg #[.bool rw.b, .slice rw.A rw.m rw.c, .bool rw.b', .slice rw.A' rw.m' rw.c']) (bz : Rat)) (cx : Cx13 w9 Q gs m nb cA cB i k a0 b0 X nx cX ri rk us f1 f2 fi fk bz u0 u1 u3 u4 u5 u6 u11 u13 u14 u15 u16 u17 u18 u19 u20 u21 u22 u23 u24 u25 u26 u27 u28 u29 u30 u31 u32 u33 u34 u35 u36 u37 u38 u39 u40 u41 u42 u43 u44 u45 u46 u47 u48 u49 u50 u51 u52 u53 u54 u55 u56 u57 u58 u59 u60 u61 u62 u63 u64 u65 u66 u67 u68 u69 u70 u71 u72 u73 u74 u75 u76 u77 u78 u79 u80 u81 u82 u83 u84 u85 u86 u87 u88 u89 u90 u91 u92 u93 u94 u95 u96 u97 u98 u99 u127 u128 u129 u130 u131 u132 u133 u134 u135 u136 u137 u138 u139 u140 u141 u142 u143 u144 u145 u146 u147 u148 u149 u150 u151 u152 u153 u154 u155 u156 u157 u158 u159 u160) :
    wpAnyH Tryz.prog .any ops13r (NoPanic Q) (SX13 gs m nb cA cB i k a0 b0 ri rk) 7 ls ⟨#[u0, u1, (.int .i8 bz), u3, u4, u5, u6, (.pointer (some ⟨gs, 0, none⟩)), (.int .i64 (i : Int)), (.int .i64 (k : Int)), (.slice X nx cX), u11, u12, u13, u14, u15, u16, u17, u18, u19, u20, u21, u22, u23, u24, u25, u26, u27, u28, u29, u30, u31, u32, u33, u34, u35, u36, u37, u38, u39, u40, u41, u42, u43, u44, u45, u46, u47, u48, u49, u50, u51, u52, u53, u54, u55, u56, u57, u58, u59, u60, u61, u62, u63, u64, u65, u66, u67, u68, u69, u70, u71, u72, u73, u74, u75, u76, u77, u78, u79, u80, u81, u82, u83, u84, u85, u86, u87, u88, u89, u90, u91, u92, u93, u94, u95, u96, u97, u98, u99, (.pointer (some ⟨gs, 0, none⟩)), (.slice (some a0) m cA), (.slice (some ⟨gA, 0, none⟩) m cA2), (.slice X nx cX), (.slice (some ⟨ha, 0, none⟩) 1 1), (.slice (some ⟨gP, 0, none⟩) (m + 1) cP), (.pointer (some ⟨gs, 1, none⟩)), (.slice (some b0) nb cB), (.slice (some ⟨gC, 0, none⟩) nb cC2), (.pointer (some ⟨gs, 1, none⟩)), (.slice (some b0) nb cB), (.int .i64 (i : Int)), (.pointer (some (b0.add (i * 4)))), (.agg #[.bool ri.b, .slice ri.A ri.m ri.c, .bool ri.b', .slice ri.A' ri.m' ri.c']), (.int .i8 bz), (.int .i64 bz), (.agg #[.bool rw.b, .slice rw.A rw.m rw.c, .bool rw.b', .slice rw.A' rw.m' rw.c']), (.pointer (some ⟨gs, 1, none⟩)), (.slice (some b0) nb cB), (.int .i64 (k : Int)), (.pointer (some (b0.add (k * 4)))), (.agg #[.bool rk.b, .slice rk.A rk.m rk.c, .bool rk.b', .slice rk.A' rk.m' rk.c']), u122, u123, u124, u125, u126, u127, u128, u129, u130, u131, u132, u133, u134, u135, u136, u137, u138, u139, u140, u141, u142, u143, u144, u145, u146, u147, u148, u149, u150, u151, u152, u153, u154, u155, u156, u157, u158, u159, u160], []⟩ W := by
  subst hls
  have cx0 := cx
  obtain ⟨hS9, hUC, hUB, hUI, hul, hm, hBN, hnb, hRI, hRK, hf, hsz, hOut⟩ := cx0
  refine wpAnyH_ready (rs := [22, 27]) (by kernel_rfl) (by simp) ?_
  refine (AllReadyH.cons ops13r_22 (fun KK hKK => ?_) (AllReadyH.cons ops13r_27 (fun KK hKK => ?_) AllReadyH.nil))
  · go_simp
    refine (rmul_rat _ (fun _ => False) _ _ (bz : Rat) fk (HWv.mono (by decide)) ((hRK.out _ hB).mono (by decide))).mono ?_
    rintro e W1 ⟨v5, rfl, i5, hb5⟩
    obtain ⟨b5, A5, m5, c5, b5', A5', m5', c5', rfl, i5, -, -⟩ := i5.op
    (try go_wp2_with fail)
    have hBn := (hB.trans (hb5.mono hB.size))
    refine hKK.out _ _ (hS9.out _ hBn) (fun hHeld => ?_)
    clear hKK KK
    (try simp only [Act.put, List.getElem_toArray, List.getElem_cons_succ, List.getElem_cons_zero, List.setIfInBounds_toArray, List.set_cons_zero, List.set_cons_succ])
    exact st13_APCWUx (ru := ⟨b5, A5, m5, c5, b5', A5', m5', c5'⟩) hHeld _ (by kernel_rfl) (hB.trans (hb5.mono hB.size)) (OP.below hb5) (OC.below hb5) (VC.keep (.of_below hb5)) hrl ((i5.len ((rsz_int (by have := hsz.out.2.2; omega) (by have := hsz.out.2.2; omega)).mul hsz.out.2.1)).weak (fun _ _ h => h.elim)) cx
  · go_simp
    have hb5 : Below W.heap.size W (W.alloc (.cells #[.slice none 0 0, .slice none 0 0] 25)) := (Below.refl _ _).alloc (Nat.le_refl _) _
    have hBn := (hB.trans (hb5.mono hB.size))
    refine hKK.out _ _ (hS9.out _ hBn) (fun hHeld => ?_)
    clear hKK KK
    (try simp only [Act.put, List.getElem_toArray, List.getElem_cons_succ, List.getElem_cons_zero, List.setIfInBounds_toArray, List.set_cons_zero, List.set_cons_succ])
    exact st13_APCWxz  hHeld _ (by kernel_rfl) (hB.trans (hb5.mono hB.size)) (OP.below hb5) (OC.below hb5) (VC.keep (.of_below hb5)) hrl (HWv.keep (.of_below hb5)) (made1 W #[.slice none 0 0, .slice none 0 0] 25) hB.size cx

set_option maxRecDepth 100000 in
set_option maxHeartbeats 4000000 in
theorem st13_APCxz (hHeld : SX13 gs m nb cA cB i k a0 b0 ri rk W) (ls : Array Bool) (hls : ls = #[true, true, true, true, true, true, true, true, true, true, true, true, true, true, true, true, false, true, true, true, true, true, false, false, false, false, false, true, false]) (hB : Below w9.heap.size w9 W) (OP : OwnL W w9.heap.size (.slice (some ⟨gP, 0, none⟩) (m + 1) cP) (us ++ [(.slice X nx cX)])) (OC : OwnR W w9.heap.size (.slice (some ⟨gC, 0, none⟩) nb cC2) rs) (VC : ValL 2 W (fun b => w9.heap.size ≤ b) rs f1) (hrl : rs.length = nb) (Ld : Loc W hd 25 #[.slice none 0 0, .slice none 0 0]) (hld : w9.heap.size ≤ hd) (cx : Cx13 w9 Q gs m nb cA cB i k a0 b0 X nx cX ri rk us f1 f2 fi fk bz u0 u1 u3 u4 u5 u6 u11 u13 u14 u15 u16 u17 u18 u19 u20 u21 u22 u23 u24 u25 u26 u27 u28 u29 u30 u31 u32 u33 u34 u35 u36 u37 u38 u39 u40 u41 u42 u43 u44 u45 u46 u47 u48 u49 u50 u51 u52 u53 u54 u55 u56 u57 u58 u59 u60 u61 u62 u63 u64 u65 u66 u67 u68 u69 u70 u71 u72 u73 u74 u75 u76 u77 u78 u79 u80 u81 u82 u83 u84 u85 u86 u87 u88 u89 u90 u91 u92 u93 u94 u95 u96 u97 u98 u99 u127 u128 u129 u130 u131 u132 u133 u134 u135 u136 u137 u138 u139 u140 u141 u142 u143 u144 u145 u146 u147 u148 u149 u150 u151 u152 u153 u154 u155 u156 u157 u158 u159 u160) :
    wpAnyH Tryz.prog .any ops13r (NoPanic Q) (SX13 gs m nb cA cB i k a0 b0 ri rk) 7 ls ⟨#[u0, u1, (.int .i8 bz), u3, u4, u5, u6, (.pointer (some ⟨gs, 0, none⟩)), (.int .i64 (i : Int)), (.int .i64 (k : Int)), (.slice X nx cX), u11, (.pointer (some ⟨hd, 0, none⟩)), u13, u14, u15, u16, u17, u18, u19, u20, u21, u22, u23, u24, u25, u26, u27, u28, u29, u30, u31, u32, u33, u34, u35, u36, u37, u38, u39, u40, u41, u42, u43, u44, u45, u46, u47, u48, u49, u50, u51, u52, u53, u54, u55, u56, u57, u58, u59, u60, u61, u62, u63, u64, u65, u66, u67, u68, u69, u70, u71, u72, u73, u74, u75, u76, u77, u78, u79, u80, u81, u82, u83, u84, u85, u86, u87, u88, u89, u90, u91, u92, u93, u94, u95, u96, u97, u98, u99, (.pointer (some ⟨gs, 0, none⟩)), (.slice (some a0) m cA), (.slice (some ⟨gA, 0, none⟩) m cA2), (.slice X nx cX), (.slice (some ⟨ha, 0, none⟩) 1 1), (.slice (some ⟨gP, 0, none⟩) (m + 1) cP), (.pointer (some ⟨gs, 1, none⟩)), (.slice (some b0) nb cB), (.slice (some ⟨gC, 0, none⟩) nb cC2), (.pointer (some ⟨gs, 1, none⟩)), (.slice (some b0) nb cB), (.int .i64 (i : Int)), (.pointer (some (b0.add (i * 4)))), (.agg #[.bool ri.b, .slice ri.A ri.m ri.c, .bool ri.b', .slice ri.A' ri.m' ri.c']), (.int .i8 bz), (.int .i64 bz), u116, (.pointer (some ⟨gs, 1, none⟩)), (.slice (some b0) nb cB), (.int .i64 (k : Int)), (.pointer (some (b0.add (k * 4)))), (.agg #[.bool rk.b, .slice rk.A rk.m rk.c, .bool rk.b', .slice rk.A' rk.m' rk.c']), u122, u123, u124, u125, u126, u127, u128, u129, u130, u131, u132, u133, u134, u135, u136, u137, u138, u139, u140, u141, u142, u143, u144, u145, u146, u147, u148, u149, u150, u151, u152, u153, u154, u155, u156, u157, u158, u159, u160], []⟩ W := by
  subst hls
  have cx0 := cx
  obtain ⟨hS9, hUC, hUB, hUI, hul, hm, hBN, hnb, hRI, hRK, hf, hsz, hOut⟩ := cx0
  refine wpAnyH_ready (rs := [16]) (by kernel_rfl) (by simp) ?_
  refine (AllReadyH.cons ops13r_16 (fun KK hKK => ?_) AllReadyH.nil)
  · go_simp
    refine (rwholeN_any _ bz (by have := hsz.out.2.2; omega) (by have := hsz.out.2.2; omega)).mono ?_
    rintro e W1 ⟨v5, rfl, i5, hb5⟩
    obtain ⟨b5, A5, m5, c5, b5', A5', m5', c5', rfl, i5, -, -⟩ := i5.op
    (try go_wp2_with fail)
    have hBn := (hB.trans (hb5.mono hB.size))
    refine hKK.out _ _ (hS9.out _ hBn) (fun hHeld => ?_)
    clear hKK KK
    (try simp only [Act.put, List.getElem_toArray, List.getElem_cons_succ, List.getElem_cons_zero, List.setIfInBounds_toArray, List.set_cons_zero, List.set_cons_succ])
    exact st13_APCWxz (rw := ⟨b5, A5, m5, c5, b5', A5', m5', c5'⟩) hHeld _ (by kernel_rfl) (hB.trans (hb5.mono hB.size)) (OP.below hb5) (OC.below hb5) (VC.keep (.of_below hb5)) hrl ((i5.len (rsz_int (by have := hsz.out.2.2; omega) (by have := hsz.out.2.2; omega))).weak (fun _ _ h => h.elim)) (Ld.below hb5) hld cx

set_option maxRecDepth 100000 in
set_option maxHeartbeats 4000000 in
theorem st13_APCx (hHeld : SX13 gs m nb cA cB i k a0 b0 ri rk W) (ls : Array Bool) (hls : ls = #[true, true, true, true, true, true, true, true, true, true, true, true, true, true, true, true, false, true, true, true, true, true, false, false, false, false, false, false, false]) (hB : Below w9.heap.size w9 W) (OP : OwnL W w9.heap.size (.slice (some ⟨gP, 0, none⟩) (m + 1) cP) (us ++ [(.slice X nx cX)])) (OC : OwnR W w9.heap.size (.slice (some ⟨gC, 0, none⟩) nb cC2) rs) (VC : ValL 2 W (fun b => w9.heap.size ≤ b) rs f1) (hrl : rs.length = nb) (cx : Cx13 w9 Q gs m nb cA cB i k a0 b0 X nx cX ri rk us f1 f2 fi fk bz u0 u1 u3 u4 u5 u6 u11 u13 u14 u15 u16 u17 u18 u19 u20 u21 u22 u23 u24 u25 u26 u27 u28 u29 u30 u31 u32 u33 u34 u35 u36 u37 u38 u39 u40 u41 u42 u43 u44 u45 u46 u47 u48 u49 u50 u51 u52 u53 u54 u55 u56 u57 u58 u59 u60 u61 u62 u63 u64 u65 u66 u67 u68 u69 u70 u71 u72 u73 u74 u75 u76 u77 u78 u79 u80 u81 u82 u83 u84 u85 u86 u87 u88 u89 u90 u91 u92 u93 u94 u95 u96 u97 u98 u99 u127 u128 u129 u130 u131 u132 u133 u134 u135 u136 u137 u138 u139 u140 u141 u142 u143 u144 u145 u146 u147 u148 u149 u150 u151 u152 u153 u154 u155 u156 u157 u158 u159 u160) :
    wpAnyH Tryz.prog .any ops13r (NoPanic Q) (SX13 gs m nb cA cB i k a0 b0 ri rk) 8 ls ⟨#[u0, u1, (.int .i8 bz), u3, u4, u5, u6, (.pointer (some ⟨gs, 0, none⟩)), (.int .i64 (i : Int)), (.int .i64 (k : Int)), (.slice X nx cX), u11, u12, u13, u14, u15, u16, u17, u18, u19, u20, u21, u22, u23, u24, u25, u26, u27, u28, u29, u30, u31, u32, u33, u34, u35, u36, u37, u38, u39, u40, u41, u42, u43, u44, u45, u46, u47, u48, u49, u50, u51, u52, u53, u54, u55, u56, u57, u58, u59, u60, u61, u62, u63, u64, u65, u66, u67, u68, u69, u70, u71, u72, u73, u74, u75, u76, u77, u78, u79, u80, u81, u82, u83, u84, u85, u86, u87, u88, u89, u90, u91, u92, u93, u94, u95, u96, u97, u98, u99, (.pointer (some ⟨gs, 0, none⟩)), (.slice (some a0) m cA), (.slice (some ⟨gA, 0, none⟩) m cA2), (.slice X nx cX), (.slice (some ⟨ha, 0, none⟩) 1 1), (.slice (some ⟨gP, 0, none⟩) (m + 1) cP), (.pointer (some ⟨gs, 1, none⟩)), (.slice (some b0) nb cB), (.slice (some ⟨gC, 0, none⟩) nb cC2), (.pointer (some ⟨gs, 1, none⟩)), (.slice (some b0) nb cB), (.int .i64 (i : Int)), (.pointer (some (b0.add (i * 4)))), (.agg #[.bool ri.b, .slice ri.A ri.m ri.c, .bool ri.b', .slice ri.A' ri.m' ri.c']), (.int .i8 bz), (.int .i64 bz), u116, (.pointer (some ⟨gs, 1, none⟩)), (.slice (some b0) nb cB), (.int .i64 (k : Int)), (.pointer (some (b0.add (k * 4)))), (.agg #[.bool rk.b, .slice rk.A rk.m rk.c, .bool rk.b', .slice rk.A' rk.m' rk.c']), u122, u123, u124, u125, u126, u127, u128, u129, u130, u131, u132, u133, u134, u135, u136, u137, u138, u139, u140, u141, u142, u143, u144, u145, u146, u147, u148, u149, u150, u151, u152, u153, u154, u155, u156, u157, u158, u159, u160], []⟩ W := by
  subst hls
  have cx0 := cx
  obtain ⟨hS9, hUC, hUB, hUI, hul, hm, hBN, hnb, hRI, hRK, hf, hsz, hOut⟩ := cx0
  refine wpAnyH_ready (rs := [16, 27]) (by kernel_rfl) (by simp) ?_
  refine (AllReadyH.cons ops13r_16 (fun KK hKK => ?_) (AllReadyH.cons ops13r_27 (fun KK hKK => ?_) AllReadyH.nil))
  · go_simp
    refine (rwholeN_any _ bz (by have := hsz.out.2.2; omega) (by have := hsz.out.2.2; omega)).mono ?_
    rintro e W1 ⟨v5, rfl, i5, hb5⟩
    obtain ⟨b5, A5, m5, c5, b5', A5', m5', c5', rfl, i5, -, -⟩ := i5.op
    (try go_wp2_with fail)
    have hBn := (hB.trans (hb5.mono hB.size))
    refine hKK.out _ _ (hS9.out _ hBn) (fun hHeld => ?_)
    clear hKK KK
    (try simp only [Act.put, List.getElem_toArray, List.getElem_cons_succ, List.getElem_cons_zero, List.setIfInBounds_toArray, List.set_cons_zero, List.set_cons_succ])
    exact st13_APCWx (rw := ⟨b5, A5, m5, c5, b5', A5', m5', c5'⟩) hHeld _ (by kernel_rfl) (hB.trans (hb5.mono hB.size)) (OP.below hb5) (OC.below hb5) (VC.keep (.of_below hb5)) hrl ((i5.len (rsz_int (by have := hsz.out.2.2; omega) (by have := hsz.out.2.2; omega))).weak (fun _ _ h => h.elim)) cx
  · go_simp
    have hb5 : Below W.heap.size W (W.alloc (.cells #[.slice none 0 0, .slice none 0 0] 25)) := (Below.refl _ _).alloc (Nat.le_refl _) _
    have hBn := (hB.trans (hb5.mono hB.size))
    refine hKK.out _ _ (hS9.out _ hBn) (fun hHeld => ?_)
    clear hKK KK
    (try simp only [Act.put, List.getElem_toArray, List.getElem_cons_succ, List.getElem_cons_zero, List.setIfInBounds_toArray, List.set_cons_zero, List.set_cons_succ])
    exact st13_APCxz  hHeld _ (by kernel_rfl) (hB.trans (hb5.mono hB.size)) (OP.below hb5) (OC.below hb5) (VC.keep (.of_below hb5)) hrl (made1 W #[.slice none 0 0, .slice none 0 0] 25) hB.size cx

set_option maxRecDepth 100000 in
set_option maxHeartbeats 4000000 in
theorem st13_APxz (hHeld : SX13 gs m nb cA cB i k a0 b0 ri rk W) (ls : Array Bool) (hls : ls = #[true, true, true, true, true, true, true, true, false, true, true, true, true, true, true, true, false, true, true, true, true, true, false, false, false, false, false, true, false]) (hB : Below w9.heap.size w9 W) (OP : OwnL W w9.heap.size (.slice (some ⟨gP, 0, none⟩) (m + 1) cP) (us ++ [(.slice X nx cX)])) (Ld : Loc W hd 25 #[.slice none 0 0, .slice none 0 0]) (hld : w9.heap.size ≤ hd) (cx : Cx13 w9 Q gs m nb cA cB i k a0 b0 X nx cX ri rk us f1 f2 fi fk bz u0 u1 u3 u4 u5 u6 u11 u13 u14 u15 u16 u17 u18 u19 u20 u21 u22 u23 u24 u25 u26 u27 u28 u29 u30 u31 u32 u33 u34 u35 u36 u37 u38 u39 u40 u41 u42 u43 u44 u45 u46 u47 u48 u49 u50 u51 u52 u53 u54 u55 u56 u57 u58 u59 u60 u61 u62 u63 u64 u65 u66 u67 u68 u69 u70 u71 u72 u73 u74 u75 u76 u77 u78 u79 u80 u81 u82 u83 u84 u85 u86 u87 u88 u89 u90 u91 u92 u93 u94 u95 u96 u97 u98 u99 u127 u128 u129 u130 u131 u132 u133 u134 u135 u136 u137 u138 u139 u140 u141 u142 u143 u144 u145 u146 u147 u148 u149 u150 u151 u152 u153 u154 u155 u156 u157 u158 u159 u160) :
    wpAnyH Tryz.prog .any ops13r (NoPanic Q) (SX13 gs m nb cA cB i k a0 b0 ri rk) 8 ls ⟨#[u0, u1, (.int .i8 bz), u3, u4, u5, u6, (.pointer (some ⟨gs, 0, none⟩)), (.int .i64 (i : Int)), (.int .i64 (k : Int)), (.slice X nx cX), u11, (.pointer (some ⟨hd, 0, none⟩)), u13, u14, u15, u16, u17, u18, u19, u20, u21, u22, u23, u24, u25, u26, u27, u28, u29, u30, u31, u32, u33, u34, u35, u36, u37, u38, u39, u40, u41, u42, u43, u44, u45, u46, u47, u48, u49, u50, u51, u52, u53, u54, u55, u56, u57, u58, u59, u60, u61, u62, u63, u64, u65, u66, u67, u68, u69, u70, u71, u72, u73, u74, u75, u76, u77, u78, u79, u80, u81, u82, u83, u84, u85, u86, u87, u88, u89, u90, u91, u92, u93, u94, u95, u96, u97, u98, u99, (.pointer (some ⟨gs, 0, none⟩)), (.slice (some a0) m cA), (.slice (some ⟨gA, 0, none⟩) m cA2), (.slice X nx cX), (.slice (some ⟨ha, 0, none⟩) 1 1), (.slice (some ⟨gP, 0, none⟩) (m + 1) cP), (.pointer (some ⟨gs, 1, none⟩)), (.slice (some b0) nb cB), u108, (.pointer (some ⟨gs, 1, none⟩)), (.slice (some b0) nb cB), (.int .i64 (i : Int)), (.pointer (some (b0.add (i * 4)))), (.agg #[.bool ri.b, .slice ri.A ri.m ri.c, .bool ri.b', .slice ri.A' ri.m' ri.c']), (.int .i8 bz), (.int .i64 bz), u116, (.pointer (some ⟨gs, 1, none⟩)), (.slice (some b0) nb cB), (.int .i64 (k : Int)), (.pointer (some (b0.add (k * 4)))), (.agg #[.bool rk.b, .slice rk.A rk.m rk.c, .bool rk.b', .slice rk.A' rk.m' rk.c']), u122, u123, u124, u125, u126, u127, u128, u129, u130, u131, u132, u133, u134, u135, u136, u137, u138, u139, u140, u141, u142, u143, u144, u145, u146, u147, u148, u149, u150, u151, u152, u153, u154, u155, u156, u157, u158, u159, u160], []⟩ W := by
  subst hls
  have cx0 := cx
  obtain ⟨hS9, hUC, hUB, hUI, hul, hm, hBN, hnb, hRI, hRK, hf, hsz, hOut⟩ := cx0
  refine wpAnyH_ready (rs := [8]) (by kernel_rfl) (by simp) ?_
  refine (AllReadyH.cons ops13r_8 (fun KK hKK => ?_) AllReadyH.nil)
  · go_simp
    refine (cloneRX_any _ (fun b => w9.heap.size ≤ b) _ nb 2 f1 (hBN.out _ hB) hnb.out.1 (by have := hnb.out.2; omega)).mono ?_
    rintro e W1 ⟨gC, cC2, rs, rfl, hO, hrl, hV, hb5⟩
    (try go_wp2_with fail)
    have hBn := (hB.trans (hb5.mono hB.size))
    refine hKK.out _ _ (hS9.out _ hBn) (fun hHeld => ?_)
    clear hKK KK
    (try simp only [Act.put, List.getElem_toArray, List.getElem_cons_succ, List.getElem_cons_zero, List.setIfInBounds_toArray, List.set_cons_zero, List.set_cons_succ])
    exact st13_APCxz  hHeld _ (by kernel_rfl) (hB.trans (hb5.mono hB.size)) (OP.below hb5) (own_mono hO hB.size) hV hrl (Ld.below hb5) hld cx

set_option maxRecDepth 100000 in
set_option maxHeartbeats 4000000 in
theorem st13_APx (hHeld : SX13 gs m nb cA cB i k a0 b0 ri rk W) (ls : Array Bool) (hls : ls = #[true, true, true, true, true, true, true, true, false, true, true, true, true, true, true, true, false, true, true, true, true, true, false, false, false, false, false, false, false]) (hB : Below w9.heap.size w9 W) (OP : OwnL W w9.heap.size (.slice (some ⟨gP, 0, none⟩) (m + 1) cP) (us ++ [(.slice X nx cX)])) (cx : Cx13 w9 Q gs m nb cA cB i k a0 b0 X nx cX ri rk us f1 f2 fi fk bz u0 u1 u3 u4 u5 u6 u11 u13 u14 u15 u16 u17 u18 u19 u20 u21 u22 u23 u24 u25 u26 u27 u28 u29 u30 u31 u32 u33 u34 u35 u36 u37 u38 u39 u40 u41 u42 u43 u44 u45 u46 u47 u48 u49 u50 u51 u52 u53 u54 u55 u56 u57 u58 u59 u60 u61 u62 u63 u64 u65 u66 u67 u68 u69 u70 u71 u72 u73 u74 u75 u76 u77 u78 u79 u80 u81 u82 u83 u84 u85 u86 u87 u88 u89 u90 u91 u92 u93 u94 u95 u96 u97 u98 u99 u127 u128 u129 u130 u131 u132 u133 u134 u135 u136 u137 u138 u139 u140 u141 u142 u143 u144 u145 u146 u147 u148 u149 u150 u151 u152 u153 u154 u155 u156 u157 u158 u159 u160) :
    wpAnyH Tryz.prog .any ops13r (NoPanic Q) (SX13 gs m nb cA cB i k a0 b0 ri rk) 9 ls ⟨#[u0, u1, (.int .i8 bz), u3, u4, u5, u6, (.pointer (some ⟨gs, 0, none⟩)), (.int .i64 (i : Int)), (.int .i64 (k : Int)), (.slice X nx cX), u11, u12, u13, u14, u15, u16, u17, u18, u19, u20, u21, u22, u23, u24, u25, u26, u27, u28, u29, u30, u31, u32, u33, u34, u35, u36, u37, u38, u39, u40, u41, u42, u43, u44, u45, u46, u47, u48, u49, u50, u51, u52, u53, u54, u55, u56, u57, u58, u59, u60, u61, u62, u63, u64, u65, u66, u67, u68, u69, u70, u71, u72, u73, u74, u75, u76, u77, u78, u79, u80, u81, u82, u83, u84, u85, u86, u87, u88, u89, u90, u91, u92, u93, u94, u95, u96, u97, u98, u99, (.pointer (some ⟨gs, 0, none⟩)), (.slice (some a0) m cA), (.slice (some ⟨gA, 0, none⟩) m cA2), (.slice X nx cX), (.slice (some ⟨ha, 0, none⟩) 1 1), (.slice (some ⟨gP, 0, none⟩) (m + 1) cP), (.pointer (some ⟨gs, 1, none⟩)), (.slice (some b0) nb cB), u108, (.pointer (some ⟨gs, 1, none⟩)), (.slice (some b0) nb cB), (.int .i64 (i : Int)), (.pointer (some (b0.add (i * 4)))), (.agg #[.bool ri.b, .slice ri.A ri.m ri.c, .bool ri.b', .slice ri.A' ri.m' ri.c']), (.int .i8 bz), (.int .i64 bz), u116, (.pointer (some ⟨gs, 1, none⟩)), (.slice (some b0) nb cB), (.int .i64 (k : Int)), (.pointer (some (b0.add (k * 4)))), (.agg #[.bool rk.b, .slice rk.A rk.m rk.c, .bool rk.b', .slice rk.A' rk.m' rk.c']), u122, u123, u124, u125, u126, u127, u128, u129, u130, u131, u132, u133, u134, u135, u136, u137, u138, u139, u140, u141, u142, u143, u144, u145, u146, u147, u148, u149, u150, u151, u152, u153, u154, u155, u156, u157, u158, u159, u160], []⟩ W := by
  subst hls
  have cx0 := cx
  obtain ⟨hS9, hUC, hUB, hUI, hul, hm, hBN, hnb, hRI, hRK, hf, hsz, hOut⟩ := cx0
  refine wpAnyH_ready (rs := [8, 27]) (by kernel_rfl) (by simp) ?_
  refine (AllReadyH.cons ops13r_8 (fun KK hKK => ?_) (AllReadyH.cons ops13r_27 (fun KK hKK => ?_) AllReadyH.nil))
  · go_simp
    refine (cloneRX_any _ (fun b => w9.heap.size ≤ b) _ nb 2 f1 (hBN.out _ hB) hnb.out.1 (by have := hnb.out.2; omega)).mono ?_
    rintro e W1 ⟨gC, cC2, rs, rfl, hO, hrl, hV, hb5⟩
    (try go_wp2_with fail)
    have hBn := (hB.trans (hb5.mono hB.size))
    refine hKK.out _ _ (hS9.out _ hBn) (fun hHeld => ?_)
    clear hKK KK
    (try simp only [Act.put, List.getElem_toArray, List.getElem_cons_succ, List.getElem_cons_zero, List.setIfInBounds_toArray, List.set_cons_zero, List.set_cons_succ])
    exact st13_APCx  hHeld _ (by kernel_rfl) (hB.trans (hb5.mono hB.size)) (OP.below hb5) (own_mono hO hB.size) hV hrl cx
  · go_simp
    have hb5 : Below W.heap.size W (W.alloc (.cells #[.slice none 0 0, .slice none 0 0] 25)) := (Below.refl _ _).alloc (Nat.le_refl _) _
    have hBn := (hB.trans (hb5.mono hB.size))
    refine hKK.out _ _ (hS9.out _ hBn) (fun hHeld => ?_)
    clear hKK KK
    (try simp only [Act.put, List.getElem_toArray, List.getElem_cons_succ, List.getElem_cons_zero, List.setIfInBounds_toArray, List.set_cons_zero, List.set_cons_succ])
    exact st13_APxz  hHeld _ (by kernel_rfl) (hB.trans (hb5.mono hB.size)) (OP.below hb5) (made1 W #[.slice none 0 0, .slice none 0 0] 25) hB.size cx

set_option maxRecDepth 100000 in
set_option maxHeartbeats 4000000 in
theorem st13_Axz (hHeld : SX13 gs m nb cA cB i k a0 b0 ri rk W) (ls : Array Bool) (hls : ls = #[true, true, true, true, true, false, true, true, false, true, true, true, true, true, true, true, false, true, true, true, true, true, false, false, false, false, false, true, false]) (hB : Below w9.heap.size w9 W) (La : Loc W ha 23 #[(.slice X nx cX)]) (OA : OwnL W w9.heap.size (.slice (some ⟨gA, 0, none⟩) m cA2) us) (Ld : Loc W hd 25 #[.slice none 0 0, .slice none 0 0]) (hld : w9.heap.size ≤ hd) (cx : Cx13 w9 Q gs m nb cA cB i k a0 b0 X nx cX ri rk us f1 f2 fi fk bz u0 u1 u3 u4 u5 u6 u11 u13 u14 u15 u16 u17 u18 u19 u20 u21 u22 u23 u24 u25 u26 u27 u28 u29 u30 u31 u32 u33 u34 u35 u36 u37 u38 u39 u40 u41 u42 u43 u44 u45 u46 u47 u48 u49 u50 u51 u52 u53 u54 u55 u56 u57 u58 u59 u60 u61 u62 u63 u64 u65 u66 u67 u68 u69 u70 u71 u72 u73 u74 u75 u76 u77 u78 u79 u80 u81 u82 u83 u84 u85 u86 u87 u88 u89 u90 u91 u92 u93 u94 u95 u96 u97 u98 u99 u127 u128 u129 u130 u131 u132 u133 u134 u135 u136 u137 u138 u139 u140 u141 u142 u143 u144 u145 u146 u147 u148 u149 u150 u151 u152 u153 u154 u155 u156 u157 u158 u159 u160) :
    wpAnyH Tryz.prog .any ops13r (NoPanic Q) (SX13 gs m nb cA cB i k a0 b0 ri rk) 9 ls ⟨#[u0, u1, (.int .i8 bz), u3, u4, u5, u6, (.pointer (some ⟨gs, 0, none⟩)), (.int .i64 (i : Int)), (.int .i64 (k : Int)), (.slice X nx cX), u11, (.pointer (some ⟨hd, 0, none⟩)), u13, u14, u15, u16, u17, u18, u19, u20, u21, u22, u23, u24, u25, u26, u27, u28, u29, u30, u31, u32, u33, u34, u35, u36, u37, u38, u39, u40, u41, u42, u43, u44, u45, u46, u47, u48, u49, u50, u51, u52, u53, u54, u55, u56, u57, u58, u59, u60, u61, u62, u63, u64, u65, u66, u67, u68, u69, u70, u71, u72, u73, u74, u75, u76, u77, u78, u79, u80, u81, u82, u83, u84, u85, u86, u87, u88, u89, u90, u91, u92, u93, u94, u95, u96, u97, u98, u99, (.pointer (some ⟨gs, 0, none⟩)), (.slice (some a0) m cA), (.slice (some ⟨gA, 0, none⟩) m cA2), (.slice X nx cX), (.slice (some ⟨ha, 0, none⟩) 1 1), u105, (.pointer (some ⟨gs, 1, none⟩)), (.slice (some b0) nb cB), u108, (.pointer (some ⟨gs, 1, none⟩)), (.slice (some b0) nb cB), (.int .i64 (i : Int)), (.pointer (some (b0.add (i * 4)))), (.agg #[.bool ri.b, .slice ri.A ri.m ri.c, .bool ri.b', .slice ri.A' ri.m' ri.c']), (.int .i8 bz), (.int .i64 bz), u116, (.pointer (some ⟨gs, 1, none⟩)), (.slice (some b0) nb cB), (.int .i64 (k : Int)), (.pointer (some (b0.add (k * 4)))), (.agg #[.bool rk.b, .slice rk.A rk.m rk.c, .bool rk.b', .slice rk.A' rk.m' rk.c']), u122, u123, u124, u125, u126, u127, u128, u129, u130, u131, u132, u133, u134, u135, u136, u137, u138, u139, u140, u141, u142, u143, u144, u145, u146, u147, u148, u149, u150, u151, u152, u153, u154, u155, u156, u157, u158, u159, u160], []⟩ W := by
  subst hls
  have cx0 := cx
  obtain ⟨hS9, hUC, hUB, hUI, hul, hm, hBN, hnb, hRI, hRK, hf, hsz, hOut⟩ := cx0
  refine wpAnyH_ready (rs := [5]) (by kernel_rfl) (by simp) ?_
  refine (AllReadyH.cons ops13r_5 (fun KK hKK => ?_) AllReadyH.nil)
  · refine step_pushL _ rfl _ _ rfl w9.heap.size (.slice (some ⟨gA, 0, none⟩) m cA2) us rfl OA ⟨ha, 0, none⟩ 1 1 (m + 1) [(.slice X nx cX)] rfl rfl (by rw [hul.out]) (fun j u hu => World.news_of_block La j u (by simpa using hu)) (fun u hu => by simp at hu; exact ⟨_, _, _, hu⟩) (by decide) (by have := hm.out.2; omega) hB.size ?_
    intro gP cP W1 hO hg5 hw5 hl5
    have hBn := (below_own hB OA hg5 (Nat.le_refl _) hB.size)
    refine hKK.out _ _ (hS9.out _ hBn) (fun hHeld => ?_)
    clear hKK KK
    (try simp only [Act.put, List.getElem_toArray, List.getElem_cons_succ, List.getElem_cons_zero, List.setIfInBounds_toArray, List.set_cons_zero, List.set_cons_succ])
    exact st13_APxz  hHeld _ (by kernel_rfl) (below_own hB OA hg5 (Nat.le_refl _) hB.size) hO (loc_other OA hg5 Ld (by decide)) hld cx

set_option maxRecDepth 100000 in
set_option maxHeartbeats 4000000 in
theorem st13_Ax (hHeld : SX13 gs m nb cA cB i k a0 b0 ri rk W) (ls : Array Bool) (hls : ls = #[true, true, true, true, true, false, true, true, false, true, true, true, true, true, true, true, false, true, true, true, true, true, false, false, false, false, false, false, false]) (hB : Below w9.heap.size w9 W) (La : Loc W ha 23 #[(.slice X nx cX)]) (OA : OwnL W w9.heap.size (.slice (some ⟨gA, 0, none⟩) m cA2) us) (cx : Cx13 w9 Q gs m nb cA cB i k a0 b0 X nx cX ri rk us f1 f2 fi fk bz u0 u1 u3 u4 u5 u6 u11 u13 u14 u15 u16 u17 u18 u19 u20 u21 u22 u23 u24 u25 u26 u27 u28 u29 u30 u31 u32 u33 u34 u35 u36 u37 u38 u39 u40 u41 u42 u43 u44 u45 u46 u47 u48 u49 u50 u51 u52 u53 u54 u55 u56 u57 u58 u59 u60 u61 u62 u63 u64 u65 u66 u67 u68 u69 u70 u71 u72 u73 u74 u75 u76 u77 u78 u79 u80 u81 u82 u83 u84 u85 u86 u87 u88 u89 u90 u91 u92 u93 u94 u95 u96 u97 u98 u99 u127 u128 u129 u130 u131 u132 u133 u134 u135 u136 u137 u138 u139 u140 u141 u142 u143 u144 u145 u146 u147 u148 u149 u150 u151 u152 u153 u154 u155 u156 u157 u158 u159 u160) :
    wpAnyH Tryz.prog .any ops13r (NoPanic Q) (SX13 gs m nb cA cB i k a0 b0 ri rk) 10 ls ⟨#[u0, u1, (.int .i8 bz), u3, u4, u5, u6, (.pointer (some ⟨gs, 0, none⟩)), (.int .i64 (i : Int)), (.int .i64 (k : Int)), (.slice X nx cX), u11, u12, u13, u14, u15, u16, u17, u18, u19, u20, u21, u22, u23, u24, u25, u26, u27, u28, u29, u30, u31, u32, u33, u34, u35, u36, u37, u38, u39, u40, u41, u42, u43, u44, u45, u46, u47, u48, u49, u50, u51, u52, u53, u54, u55, u56, u57, u58, u59, u60, u61, u62, u63, u64, u65, u66, u67, u68, u69, u70, u71, u72, u73, u74, u75, u76, u77, u78, u79, u80, u81, u82, u83, u84, u85, u86, u87, u88, u89, u90, u91, u92, u93, u94, u95, u96, u97, u98, u99, (.pointer (some ⟨gs, 0, none⟩)), (.slice (some a0) m cA), (.slice (some ⟨gA, 0, none⟩) m cA2), (.slice X nx cX), (.slice (some ⟨ha, 0, none⟩) 1 1), u105, (.pointer (some ⟨gs, 1, none⟩)), (.slice (some b0) nb cB), u108, (.pointer (some ⟨gs, 1, none⟩)), (.slice (some b0) nb cB), (.int .i64 (i : Int)), (.pointer (some (b0.add (i * 4)))), (.agg #[.bool ri.b, .slice ri.A ri.m ri.c, .bool ri.b', .slice ri.A' ri.m' ri.c']), (.int .i8 bz), (.int .i64 bz), u116, (.pointer (some ⟨gs, 1, none⟩)), (.slice (some b0) nb cB), (.int .i64 (k : Int)), (.pointer (some (b0.add (k * 4)))), (.agg #[.bool rk.b, .slice rk.A rk.m rk.c, .bool rk.b', .slice rk.A' rk.m' rk.c']), u122, u123, u124, u125, u126, u127, u128, u129, u130, u131, u132, u133, u134, u135, u136, u137, u138, u139, u140, u141, u142, u143, u144, u145, u146, u147, u148, u149, u150, u151, u152, u153, u154, u155, u156, u157, u158, u159, u160], []⟩ W := by
  subst hls
  have cx0 := cx
  obtain ⟨hS9, hUC, hUB, hUI, hul, hm, hBN, hnb, hRI, hRK, hf, hsz, hOut⟩ := cx0
  refine wpAnyH_ready (rs := [5, 27]) (by kernel_rfl) (by simp) ?_
  refine (AllReadyH.cons ops13r_5 (fun KK hKK => ?_) (AllReadyH.cons ops13r_27 (fun KK hKK => ?_) AllReadyH.nil))
  · refine step_pushL _ rfl _ _ rfl w9.heap.size (.slice (some ⟨gA, 0, none⟩) m cA2) us rfl OA ⟨ha, 0, none⟩ 1 1 (m + 1) [(.slice X nx cX)] rfl rfl (by rw [hul.out]) (fun j u hu => World.news_of_block La j u (by simpa using hu)) (fun u hu => by simp at hu; exact ⟨_, _, _, hu⟩) (by decide) (by have := hm.out.2; omega) hB.size ?_
    intro gP cP W1 hO hg5 hw5 hl5
    have hBn := (below_own hB OA hg5 (Nat.le_refl _) hB.size)
    refine hKK.out _ _ (hS9.out _ hBn) (fun hHeld => ?_)
    clear hKK KK
    (try simp only [Act.put, List.getElem_toArray, List.getElem_cons_succ, List.getElem_cons_zero, List.setIfInBounds_toArray, List.set_cons_zero, List.set_cons_succ])
    exact st13_APx  hHeld _ (by kernel_rfl) (below_own hB OA hg5 (Nat.le_refl _) hB.size) hO cx
  · go_simp
    have hb5 : Below W.heap.size W (W.alloc (.cells #[.slice none 0 0, .slice none 0 0] 25)) := (Below.refl _ _).alloc (Nat.le_refl _) _
    have hBn := (hB.trans (hb5.mono hB.size))
    refine hKK.out _ _ (hS9.out _ hBn) (fun hHeld => ?_)
    clear hKK KK
    (try simp only [Act.put, List.getElem_toArray, List.getElem_cons_succ, List.getElem_cons_zero, List.setIfInBounds_toArray, List.set_cons_zero, List.set_cons_succ])
    exact st13_Axz  hHeld _ (by kernel_rfl) (hB.trans (hb5.mono hB.size)) (La.below hb5) (OA.below hb5) (made1 W #[.slice none 0 0, .slice none 0 0] 25) hB.size cx

set_option maxRecDepth 100000 in
set_option maxHeartbeats 4000000 in
theorem st13_Az (hHeld : SX13 gs m nb cA cB i k a0 b0 ri rk W) (ls : Array Bool) (hls : ls = #[true, true, true, true, false, false, true, true, false, true, true, true, true, true, true, true, false, true, true, true, true, true, false, false, false, false, false, true, false]) (hB : Below w9.heap.size w9 W) (OA : OwnL W w9.heap.size (.slice (some ⟨gA, 0, none⟩) m cA2) us) (Ld : Loc W hd 25 #[.slice none 0 0, .slice none 0 0]) (hld : w9.heap.size ≤ hd) (cx : Cx13 w9 Q gs m nb cA cB i k a0 b0 X nx cX ri rk us f1 f2 fi fk bz u0 u1 u3 u4 u5 u6 u11 u13 u14 u15 u16 u17 u18 u19 u20 u21 u22 u23 u24 u25 u26 u27 u28 u29 u30 u31 u32 u33 u34 u35 u36 u37 u38 u39 u40 u41 u42 u43 u44 u45 u46 u47 u48 u49 u50 u51 u52 u53 u54 u55 u56 u57 u58 u59 u60 u61 u62 u63 u64 u65 u66 u67 u68 u69 u70 u71 u72 u73 u74 u75 u76 u77 u78 u79 u80 u81 u82 u83 u84 u85 u86 u87 u88 u89 u90 u91 u92 u93 u94 u95 u96 u97 u98 u99 u127 u128 u129 u130 u131 u132 u133 u134 u135 u136 u137 u138 u139 u140 u141 u142 u143 u144 u145 u146 u147 u148 u149 u150 u151 u152 u153 u154 u155 u156 u157 u158 u159 u160) :
    wpAnyH Tryz.prog .any ops13r (NoPanic Q) (SX13 gs m nb cA cB i k a0 b0 ri rk) 10 ls ⟨#[u0, u1, (.int .i8 bz), u3, u4, u5, u6, (.pointer (some ⟨gs, 0, none⟩)), (.int .i64 (i : Int)), (.int .i64 (k : Int)), (.slice X nx cX), u11, (.pointer (some ⟨hd, 0, none⟩)), u13, u14, u15, u16, u17, u18, u19, u20, u21, u22, u23, u24, u25, u26, u27, u28, u29, u30, u31, u32, u33, u34, u35, u36, u37, u38, u39, u40, u41, u42, u43, u44, u45, u46, u47, u48, u49, u50, u51, u52, u53, u54, u55, u56, u57, u58, u59, u60, u61, u62, u63, u64, u65, u66, u67, u68, u69, u70, u71, u72, u73, u74, u75, u76, u77, u78, u79, u80, u81, u82, u83, u84, u85, u86, u87, u88, u89, u90, u91, u92, u93, u94, u95, u96, u97, u98, u99, (.pointer (some ⟨gs, 0, none⟩)), (.slice (some a0) m cA), (.slice (some ⟨gA, 0, none⟩) m cA2), (.slice X nx cX), u104, u105, (.pointer (some ⟨gs, 1, none⟩)), (.slice (some b0) nb cB), u108, (.pointer (some ⟨gs, 1, none⟩)), (.slice (some b0) nb cB), (.int .i64 (i : Int)), (.pointer (some (b0.add (i * 4)))), (.agg #[.bool ri.b, .slice ri.A ri.m ri.c, .bool ri.b', .slice ri.A' ri.m' ri.c']), (.int .i8 bz), (.int .i64 bz), u116, (.pointer (some ⟨gs, 1, none⟩)), (.slice (some b0) nb cB), (.int .i64 (k : Int)), (.pointer (some (b0.add (k * 4)))), (.agg #[.bool rk.b, .slice rk.A rk.m rk.c, .bool rk.b', .slice rk.A' rk.m' rk.c']), u122, u123, u124, u125, u126, u127, u128, u129, u130, u131, u132, u133, u134, u135, u136, u137, u138, u139, u140, u141, u142, u143, u144, u145, u146, u147, u148, u149, u150, u151, u152, u153, u154, u155, u156, u157, u158, u159, u160], []⟩ W := by
  subst hls
  have cx0 := cx
  obtain ⟨hS9, hUC, hUB, hUI, hul, hm, hBN, hnb, hRI, hRK, hf, hsz, hOut⟩ := cx0
  refine wpAnyH_ready (rs := [4]) (by kernel_rfl) (by simp) ?_
  refine (AllReadyH.cons ops13r_4 (fun KK hKK => ?_) AllReadyH.nil)
  · go_simp
    have hb5 : Below W.heap.size W (W.alloc (.cells #[(.slice X nx cX)] 23)) := (Below.refl _ _).alloc (Nat.le_refl _) _
    have hBn := (hB.trans (hb5.mono hB.size))
    refine hKK.out _ _ (hS9.out _ hBn) (fun hHeld => ?_)
    clear hKK KK
    (try simp only [Act.put, List.getElem_toArray, List.getElem_cons_succ, List.getElem_cons_zero, List.setIfInBounds_toArray, List.set_cons_zero, List.set_cons_succ])
    exact st13_Axz  hHeld _ (by kernel_rfl) (hB.trans (hb5.mono hB.size)) (made1 W #[(.slice X nx cX)] 23) (OA.below hb5) (Ld.below hb5) hld cx

set_option maxRecDepth 100000 in
set_option maxHeartbeats 4000000 in
theorem st13_xz (hHeld : SX13 gs m nb cA cB i k a0 b0 ri rk W) (ls : Array Bool) (hls : ls = #[true, true, false, true, true, false, true, true, false, true, true, true, true, true, true, true, false, true, true, true, true, true, false, false, false, false, false, true, false]) (hB : Below w9.heap.size w9 W) (La : Loc W ha 23 #[(.slice X nx cX)]) (Ld : Loc W hd 25 #[.slice none 0 0, .slice none 0 0]) (hld : w9.heap.size ≤ hd) (cx : Cx13 w9 Q gs m nb cA cB i k a0 b0 X nx cX ri rk us f1 f2 fi fk bz u0 u1 u3 u4 u5 u6 u11 u13 u14 u15 u16 u17 u18 u19 u20 u21 u22 u23 u24 u25 u26 u27 u28 u29 u30 u31 u32 u33 u34 u35 u36 u37 u38 u39 u40 u41 u42 u43 u44 u45 u46 u47 u48 u49 u50 u51 u52 u53 u54 u55 u56 u57 u58 u59 u60 u61 u62 u63 u64 u65 u66 u67 u68 u69 u70 u71 u72 u73 u74 u75 u76 u77 u78 u79 u80 u81 u82 u83 u84 u85 u86 u87 u88 u89 u90 u91 u92 u93 u94 u95 u96 u97 u98 u99 u127 u128 u129 u130 u131 u132 u133 u134 u135 u136 u137 u138 u139 u140 u141 u142 u143 u144 u145 u146 u147 u148 u149 u150 u151 u152 u153 u154 u155 u156 u157 u158 u159 u160) :
    wpAnyH Tryz.prog .any ops13r (NoPanic Q) (SX13 gs m nb cA cB i k a0 b0 ri rk) 10 ls ⟨#[u0, u1, (.int .i8 bz), u3, u4, u5, u6, (.pointer (some ⟨gs, 0, none⟩)), (.int .i64 (i : Int)), (.int .i64 (k : Int)), (.slice X nx cX), u11, (.pointer (some ⟨hd, 0, none⟩)), u13, u14, u15, u16, u17, u18, u19, u20, u21, u22, u23, u24, u25, u26, u27, u28, u29, u30, u31, u32, u33, u34, u35, u36, u37, u38, u39, u40, u41, u42, u43, u44, u45, u46, u47, u48, u49, u50, u51, u52, u53, u54, u55, u56, u57, u58, u59, u60, u61, u62, u63, u64, u65, u66, u67, u68, u69, u70, u71, u72, u73, u74, u75, u76, u77, u78, u79, u80, u81, u82, u83, u84, u85, u86, u87, u88, u89, u90, u91, u92, u93, u94, u95, u96, u97, u98, u99, (.pointer (some ⟨gs, 0, none⟩)), (.slice (some a0) m cA), u102, (.slice X nx cX), (.slice (some ⟨ha, 0, none⟩) 1 1), u105, (.pointer (some ⟨gs, 1, none⟩)), (.slice (some b0) nb cB), u108, (.pointer (some ⟨gs, 1, none⟩)), (.slice (some b0) nb cB), (.int .i64 (i : Int)), (.pointer (some (b0.add (i * 4)))), (.agg #[.bool ri.b, .slice ri.A ri.m ri.c, .bool ri.b', .slice ri.A' ri.m' ri.c']), (.int .i8 bz), (.int .i64 bz), u116, (.pointer (some ⟨gs, 1, none⟩)), (.slice (some b0) nb cB), (.int .i64 (k : Int)), (.pointer (some (b0.add (k * 4)))), (.agg #[.bool rk.b, .slice rk.A rk.m rk.c, .bool rk.b', .slice rk.A' rk.m' rk.c']), u122, u123, u124, u125, u126, u127, u128, u129, u130, u131, u132, u133, u134, u135, u136, u137, u138, u139, u140, u141, u142, u143, u144, u145, u146, u147, u148, u149, u150, u151, u152, u153, u154, u155, u156, u157, u158, u159, u160], []⟩ W := by
  subst hls
  have cx0 := cx
  obtain ⟨hS9, hUC, hUB, hUI, hul, hm, hBN, hnb, hRI, hRK, hf, hsz, hOut⟩ := cx0
  refine wpAnyH_ready (rs := [2]) (by kernel_rfl) (by simp) ?_
  refine (AllReadyH.cons ops13r_2 (fun KK hKK => ?_) AllReadyH.nil)
  · go_simp
    refine (cloneM_any _ a0 cA m us (hUC.out _ hB) (Nat.lt_of_lt_of_le hUB.out hB.size) hul.out hm.out.1 (by have := hm.out.2; omega) hUI.out).mono ?_
    rintro e W1 ⟨gA, cA2, rfl, hO, hb5⟩
    (try go_wp2_with fail)
    have hBn := (hB.trans (hb5.mono hB.size))
    refine hKK.out _ _ (hS9.out _ hBn) (fun hHeld => ?_)
    clear hKK KK
    (try simp only [Act.put, List.getElem_toArray, List.getElem_cons_succ, List.getElem_cons_zero, List.setIfInBounds_toArray, List.set_cons_zero, List.set_cons_succ])
    exact st13_Axz  hHeld _ (by kernel_rfl) (hB.trans (hb5.mono hB.size)) (La.below hb5) (own_mono hO hB.size) (Ld.below hb5) hld cx

set_option maxRecDepth 100000 in
set_option maxHeartbeats 4000000 in
theorem st13_A (hHeld : SX13 gs m nb cA cB i k a0 b0 ri rk W) (ls : Array Bool) (hls : ls = #[true, true, true, true, false, false, true, true, false, true, true, true, true, true, true, true, false, true, true, true, true, true, false, false, false, false, false, false, false]) (hB : Below w9.heap.size w9 W) (OA : OwnL W w9.heap.size (.slice (some ⟨gA, 0, none⟩) m cA2) us) (cx : Cx13 w9 Q gs m nb cA cB i k a0 b0 X nx cX ri rk us f1 f2 fi fk bz u0 u1 u3 u4 u5 u6 u11 u13 u14 u15 u16 u17 u18 u19 u20 u21 u22 u23 u24 u25 u26 u27 u28 u29 u30 u31 u32 u33 u34 u35 u36 u37 u38 u39 u40 u41 u42 u43 u44 u45 u46 u47 u48 u49 u50 u51 u52 u53 u54 u55 u56 u57 u58 u59 u60 u61 u62 u63 u64 u65 u66 u67 u68 u69 u70 u71 u72 u73 u74 u75 u76 u77 u78 u79 u80 u81 u82 u83 u84 u85 u86 u87 u88 u89 u90 u91 u92 u93 u94 u95 u96 u97 u98 u99 u127 u128 u129 u130 u131 u132 u133 u134 u135 u136 u137 u138 u139 u140 u141 u142 u143 u144 u145 u146 u147 u148 u149 u150 u151 u152 u153 u154 u155 u156 u157 u158 u159 u160) :
    wpAnyH Tryz.prog .any ops13r (NoPanic Q) (SX13 gs m nb cA cB i k a0 b0 ri rk) 11 ls ⟨#[u0, u1, (.int .i8 bz), u3, u4, u5, u6, (.pointer (some ⟨gs, 0, none⟩)), (.int .i64 (i : Int)), (.int .i64 (k : Int)), (.slice X nx cX), u11, u12, u13, u14, u15, u16, u17, u18, u19, u20, u21, u22, u23, u24, u25, u26, u27, u28, u29, u30, u31, u32, u33, u34, u35, u36, u37, u38, u39, u40, u41, u42, u43, u44, u45, u46, u47, u48, u49, u50, u51, u52, u53, u54, u55, u56, u57, u58, u59, u60, u61, u62, u63, u64, u65, u66, u67, u68, u69, u70, u71, u72, u73, u74, u75, u76, u77, u78, u79, u80, u81, u82, u83, u84, u85, u86, u87, u88, u89, u90, u91, u92, u93, u94, u95, u96, u97, u98, u99, (.pointer (some ⟨gs, 0, none⟩)), (.slice (some a0) m cA), (.slice (some ⟨gA, 0, none⟩) m cA2), (.slice X nx cX), u104, u105, (.pointer (some ⟨gs, 1, none⟩)), (.slice (some b0) nb cB), u108, (.pointer (some ⟨gs, 1, none⟩)), (.slice (some b0) nb cB), (.int .i64 (i : Int)), (.pointer (some (b0.add (i * 4)))), (.agg #[.bool ri.b, .slice ri.A ri.m ri.c, .bool ri.b', .slice ri.A' ri.m' ri.c']), (.int .i8 bz), (.int .i64 bz), u116, (.pointer (some ⟨gs, 1, none⟩)), (.slice (some b0) nb cB), (.int .i64 (k : Int)), (.pointer (some (b0.add (k * 4)))), (.agg #[.bool rk.b, .slice rk.A rk.m rk.c, .bool rk.b', .slice rk.A' rk.m' rk.c']), u122, u123, u124, u125, u126, u127, u128, u129, u130, u131, u132, u133, u134, u135, u136, u137, u138, u139, u140, u141, u142, u143, u144, u145, u146, u147, u148, u149, u150, u151, u152, u153, u154, u155, u156, u157, u158, u159, u160], []⟩ W := by
  subst hls
  have cx0 := cx
  obtain ⟨hS9, hUC, hUB, hUI, hul, hm, hBN, hnb, hRI, hRK, hf, hsz, hOut⟩ := cx0
  refine wpAnyH_ready (rs := [4, 27]) (by kernel_rfl) (by simp) ?_
  refine (AllReadyH.cons ops13r_4 (fun KK hKK => ?_) (AllReadyH.cons ops13r_27 (fun KK hKK => ?_) AllReadyH.nil))
  · go_simp
    have hb5 : Below W.heap.size W (W.alloc (.cells #[(.slice X nx cX)] 23)) := (Below.refl _ _).alloc (Nat.le_refl _) _
    have hBn := (hB.trans (hb5.mono hB.size))
    refine hKK.out _ _ (hS9.out _ hBn) (fun hHeld => ?_)
    clear hKK KK
    (try simp only [Act.put, List.getElem_toArray, List.getElem_cons_succ, List.getElem_cons_zero, List.setIfInBounds_toArray, List.set_cons_zero, List.set_cons_succ])
    exact st13_Ax  hHeld _ (by kernel_rfl) (hB.trans (hb5.mono hB.size)) (made1 W #[(.slice X nx cX)] 23) (OA.below hb5) cx
  · go_simp
    have hb5 : Below W.heap.size W (W.alloc (.cells #[.slice none 0 0, .slice none 0 0] 25)) := (Below.refl _ _).alloc (Nat.le_refl _) _
    have hBn := (hB.trans (hb5.mono hB.size))
    refine hKK.out _ _ (hS9.out _ hBn) (fun hHeld => ?_)
    clear hKK KK
    (try simp only [Act.put, List.getElem_toArray, List.getElem_cons_succ, List.getElem_cons_zero, List.setIfInBounds_toArray, List.set_cons_zero, List.set_cons_succ])
    exact st13_Az  hHeld _ (by kernel_rfl) (hB.trans (hb5.mono hB.size)) (OA.below hb5) (made1 W #[.slice none 0 0, .slice none 0 0] 25) hB.size cx

set_option maxRecDepth 100000 in
set_option maxHeartbeats 4000000 in
theorem st13_x (hHeld : SX13 gs m nb cA cB i k a0 b0 ri rk W) (ls : Array Bool) (hls : ls = #[true, true, false, true, true, false, true, true, false, true, true, true, true, true, true, true, false, true, true, true, true, true, false, false, false, false, false, false, false]) (hB : Below w9.heap.size w9 W) (La : Loc W ha 23 #[(.slice X nx cX)]) (cx : Cx13 w9 Q gs m nb cA cB i k a0 b0 X nx cX ri rk us f1 f2 fi fk bz u0 u1 u3 u4 u5 u6 u11 u13 u14 u15 u16 u17 u18 u19 u20 u21 u22 u23 u24 u25 u26 u27 u28 u29 u30 u31 u32 u33 u34 u35 u36 u37 u38 u39 u40 u41 u42 u43 u44 u45 u46 u47 u48 u49 u50 u51 u52 u53 u54 u55 u56 u57 u58 u59 u60 u61 u62 u63 u64 u65 u66 u67 u68 u69 u70 u71 u72 u73 u74 u75 u76 u77 u78 u79 u80 u81 u82 u83 u84 u85 u86 u87 u88 u89 u90 u91 u92 u93 u94 u95 u96 u97 u98 u99 u127 u128 u129 u130 u131 u132 u133 u134 u135 u136 u137 u138 u139 u140 u141 u142 u143 u144 u145 u146 u147 u148 u149 u150 u151 u152 u153 u154 u155 u156 u157 u158 u159 u160) :
    wpAnyH Tryz.prog .any ops13r (NoPanic Q) (SX13 gs m nb cA cB i k a0 b0 ri rk) 11 ls ⟨#[u0, u1, (.int .i8 bz), u3, u4, u5, u6, (.pointer (some ⟨gs, 0, none⟩)), (.int .i64 (i : Int)), (.int .i64 (k : Int)), (.slice X nx cX), u11, u12, u13, u14, u15, u16, u17, u18, u19, u20, u21, u22, u23, u24, u25, u26, u27, u28, u29, u30, u31, u32, u33, u34, u35, u36, u37, u38, u39, u40, u41, u42, u43, u44, u45, u46, u47, u48, u49, u50, u51, u52, u53, u54, u55, u56, u57, u58, u59, u60, u61, u62, u63, u64, u65, u66, u67, u68, u69, u70, u71, u72, u73, u74, u75, u76, u77, u78, u79, u80, u81, u82, u83, u84, u85, u86, u87, u88, u89, u90, u91, u92, u93, u94, u95, u96, u97, u98, u99, (.pointer (some ⟨gs, 0, none⟩)), (.slice (some a0) m cA), u102, (.slice X nx cX), (.slice (some ⟨ha, 0, none⟩) 1 1), u105, (.pointer (some ⟨gs, 1, none⟩)), (.slice (some b0) nb cB), u108, (.pointer (some ⟨gs, 1, none⟩)), (.slice (some b0) nb cB), (.int .i64 (i : Int)), (.pointer (some (b0.add (i * 4)))), (.agg #[.bool ri.b, .slice ri.A ri.m ri.c, .bool ri.b', .slice ri.A' ri.m' ri.c']), (.int .i8 bz), (.int .i64 bz), u116, (.pointer (some ⟨gs, 1, none⟩)), (.slice (some b0) nb cB), (.int .i64 (k : Int)), (.pointer (some (b0.add (k * 4)))), (.agg #[.bool rk.b, .slice rk.A rk.m rk.c, .bool rk.b', .slice rk.A' rk.m' rk.c']), u122, u123, u124, u125, u126, u127, u128, u129, u130, u131, u132, u133, u134, u135, u136, u137, u138, u139, u140, u141, u142, u143, u144, u145, u146, u147, u148, u149, u150, u151, u152, u153, u154, u155, u156, u157, u158, u159, u160], []⟩ W := by
  subst hls
  have cx0 := cx
  obtain ⟨hS9, hUC, hUB, hUI, hul, hm, hBN, hnb, hRI, hRK, hf, hsz, hOut⟩ := cx0
  refine wpAnyH_ready (rs := [2, 27]) (by kernel_rfl) (by simp) ?_
  refine (AllReadyH.cons ops13r_2 (fun KK hKK => ?_) (AllReadyH.cons ops13r_27 (fun KK hKK => ?_) AllReadyH.nil))
  · go_simp
    refine (cloneM_any _ a0 cA m us (hUC.out _ hB) (Nat.lt_of_lt_of_le hUB.out hB.size) hul.out hm.out.1 (by have := hm.out.2; omega) hUI.out).mono ?_
    rintro e W1 ⟨gA, cA2, rfl, hO, hb5⟩
    (try go_wp2_with fail)
    have hBn := (hB.trans (hb5.mono hB.size))
    refine hKK.out _ _ (hS9.out _ hBn) (fun hHeld => ?_)
    clear hKK KK
    (try simp only [Act.put, List.getElem_toArray, List.getElem_cons_succ, List.getElem_cons_zero, List.setIfInBounds_toArray, List.set_cons_zero, List.set_cons_succ])
    exact st13_Ax  hHeld _ (by kernel_rfl) (hB.trans (hb5.mono hB.size)) (La.below hb5) (own_mono hO hB.size) cx
  · go_simp
    have hb5 : Below W.heap.size W (W.alloc (.cells #[.slice none 0 0, .slice none 0 0] 25)) := (Below.refl _ _).alloc (Nat.le_refl _) _
    have hBn := (hB.trans (hb5.mono hB.size))
    refine hKK.out _ _ (hS9.out _ hBn) (fun hHeld => ?_)
    clear hKK KK
    (try simp only [Act.put, List.getElem_toArray, List.getElem_cons_succ, List.getElem_cons_zero, List.setIfInBounds_toArray, List.set_cons_zero, List.set_cons_succ])
    exact st13_xz  hHeld _ (by kernel_rfl) (hB.trans (hb5.mono hB.size)) (La.below hb5) (made1 W #[.slice none 0 0, .slice none 0 0] 25) hB.size cx

set_option maxRecDepth 100000 in
set_option maxHeartbeats 4000000 in
theorem st13_z (hHeld : SX13 gs m nb cA cB i k a0 b0 ri rk W) (ls : Array Bool) (hls : ls = #[true, true, false, true, false, false, true, true, false, true, true, true, true, true, true, true, false, true, true, true, true, true, false, false, false, false, false, true, false]) (hB : Below w9.heap.size w9 W) (Ld : Loc W hd 25 #[.slice none 0 0, .slice none 0 0]) (hld : w9.heap.size ≤ hd) (cx : Cx13 w9 Q gs m nb cA cB i k a0 b0 X nx cX ri rk us f1 f2 fi fk bz u0 u1 u3 u4 u5 u6 u11 u13 u14 u15 u16 u17 u18 u19 u20 u21 u22 u23 u24 u25 u26 u27 u28 u29 u30 u31 u32 u33 u34 u35 u36 u37 u38 u39 u40 u41 u42 u43 u44 u45 u46 u47 u48 u49 u50 u51 u52 u53 u54 u55 u56 u57 u58 u59 u60 u61 u62 u63 u64 u65 u66 u67 u68 u69 u70 u71 u72 u73 u74 u75 u76 u77 u78 u79 u80 u81 u82 u83 u84 u85 u86 u87 u88 u89 u90 u91 u92 u93 u94 u95 u96 u97 u98 u99 u127 u128 u129 u130 u131 u132 u133 u134 u135 u136 u137 u138 u139 u140 u141 u142 u143 u144 u145 u146 u147 u148 u149 u150 u151 u152 u153 u154 u155 u156 u157 u158 u159 u160) :
    wpAnyH Tryz.prog .any ops13r (NoPanic Q) (SX13 gs m nb cA cB i k a0 b0 ri rk) 11 ls ⟨#[u0, u1, (.int .i8 bz), u3, u4, u5, u6, (.pointer (some ⟨gs, 0, none⟩)), (.int .i64 (i : Int)), (.int .i64 (k : Int)), (.slice X nx cX), u11, (.pointer (some ⟨hd, 0, none⟩)), u13, u14, u15, u16, u17, u18, u19, u20, u21, u22, u23, u24, u25, u26, u27, u28, u29, u30, u31, u32, u33, u34, u35, u36, u37, u38, u39, u40, u41, u42, u43, u44, u45, u46, u47, u48, u49, u50, u51, u52, u53, u54, u55, u56, u57, u58, u59, u60, u61, u62, u63, u64, u65, u66, u67, u68, u69, u70, u71, u72, u73, u74, u75, u76, u77, u78, u79, u80, u81, u82, u83, u84, u85, u86, u87, u88, u89, u90, u91, u92, u93, u94, u95, u96, u97, u98, u99, (.pointer (some ⟨gs, 0, none⟩)), (.slice (some a0) m cA), u102, (.slice X nx cX), u104, u105, (.pointer (some ⟨gs, 1, none⟩)), (.slice (some b0) nb cB), u108, (.pointer (some ⟨gs, 1, none⟩)), (.slice (some b0) nb cB), (.int .i64 (i : Int)), (.pointer (some (b0.add (i * 4)))), (.agg #[.bool ri.b, .slice ri.A ri.m ri.c, .bool ri.b', .slice ri.A' ri.m' ri.c']), (.int .i8 bz), (.int .i64 bz), u116, (.pointer (some ⟨gs, 1, none⟩)), (.slice (some b0) nb cB), (.int .i64 (k : Int)), (.pointer (some (b0.add (k * 4)))), (.agg #[.bool rk.b, .slice rk.A rk.m rk.c, .bool rk.b', .slice rk.A' rk.m' rk.c']), u122, u123, u124, u125, u126, u127, u128, u129, u130, u131, u132, u133, u134, u135, u136, u137, u138, u139, u140, u141, u142, u143, u144, u145, u146, u147, u148, u149, u150, u151, u152, u153, u154, u155, u156, u157, u158, u159, u160], []⟩ W := by
  subst hls
  have cx0 := cx
  obtain ⟨hS9, hUC, hUB, hUI, hul, hm, hBN, hnb, hRI, hRK, hf, hsz, hOut⟩ := cx0
  refine wpAnyH_ready (rs := [2, 4]) (by kernel_rfl) (by simp) ?_
  refine (AllReadyH.cons ops13r_2 (fun KK hKK => ?_) (AllReadyH.cons ops13r_4 (fun KK hKK => ?_) AllReadyH.nil))
  · go_simp
    refine (cloneM_any _ a0 cA m us (hUC.out _ hB) (Nat.lt_of_lt_of_le hUB.out hB.size) hul.out hm.out.1 (by have := hm.out.2; omega) hUI.out).mono ?_
    rintro e W1 ⟨gA, cA2, rfl, hO, hb5⟩
    (try go_wp2_with fail)
    have hBn := (hB.trans (hb5.mono hB.size))
    refine hKK.out _ _ (hS9.out _ hBn) (fun hHeld => ?_)
    clear hKK KK
    (try simp only [Act.put, List.getElem_toArray, List.getElem_cons_succ, List.getElem_cons_zero, List.setIfInBounds_toArray, List.set_cons_zero, List.set_cons_succ])
    exact st13_Az  hHeld _ (by kernel_rfl) (hB.trans (hb5.mono hB.size)) (own_mono hO hB.size) (Ld.below hb5) hld cx
  · go_simp
    have hb5 : Below W.heap.size W (W.alloc (.cells #[(.slice X nx cX)] 23)) := (Below.refl _ _).alloc (Nat.le_refl _) _
    have hBn := (hB.trans (hb5.mono hB.size))
    refine hKK.out _ _ (hS9.out _ hBn) (fun hHeld => ?_)
    clear hKK KK
    (try simp only [Act.put, List.getElem_toArray, List.getElem_cons_succ, List.getElem_cons_zero, List.setIfInBounds_toArray, List.set_cons_zero, List.set_cons_succ])
    exact st13_xz  hHeld _ (by kernel_rfl) (hB.trans (hb5.mono hB.size)) (made1 W #[(.slice X nx cX)] 23) (Ld.below hb5) hld cx

set_option maxRecDepth 100000 in
set_option maxHeartbeats 4000000 in
theorem st13_O (hHeld : SX13 gs m nb cA cB i k a0 b0 ri rk W) (ls : Array Bool) (hls : ls = #[true, true, false, true, false, false, true, true, false, true, true, true, true, true, true, true, false, true, true, true, true, true, false, false, false, false, false, false, false]) (hB : Below w9.heap.size w9 W) (cx : Cx13 w9 Q gs m nb cA cB i k a0 b0 X nx cX ri rk us f1 f2 fi fk bz u0 u1 u3 u4 u5 u6 u11 u13 u14 u15 u16 u17 u18 u19 u20 u21 u22 u23 u24 u25 u26 u27 u28 u29 u30 u31 u32 u33 u34 u35 u36 u37 u38 u39 u40 u41 u42 u43 u44 u45 u46 u47 u48 u49 u50 u51 u52 u53 u54 u55 u56 u57 u58 u59 u60 u61 u62 u63 u64 u65 u66 u67 u68 u69 u70 u71 u72 u73 u74 u75 u76 u77 u78 u79 u80 u81 u82 u83 u84 u85 u86 u87 u88 u89 u90 u91 u92 u93 u94 u95 u96 u97 u98 u99 u127 u128 u129 u130 u131 u132 u133 u134 u135 u136 u137 u138 u139 u140 u141 u142 u143 u144 u145 u146 u147 u148 u149 u150 u151 u152 u153 u154 u155 u156 u157 u158 u159 u160) :
    wpAnyH Tryz.prog .any ops13r (NoPanic Q) (SX13 gs m nb cA cB i k a0 b0 ri rk) 12 ls ⟨#[u0, u1, (.int .i8 bz), u3, u4, u5, u6, (.pointer (some ⟨gs, 0, none⟩)), (.int .i64 (i : Int)), (.int .i64 (k : Int)), (.slice X nx cX), u11, u12, u13, u14, u15, u16, u17, u18, u19, u20, u21, u22, u23, u24, u25, u26, u27, u28, u29, u30, u31, u32, u33, u34, u35, u36, u37, u38, u39, u40, u41, u42, u43, u44, u45, u46, u47, u48, u49, u50, u51, u52, u53, u54, u55, u56, u57, u58, u59, u60, u61, u62, u63, u64, u65, u66, u67, u68, u69, u70, u71, u72, u73, u74, u75, u76, u77, u78, u79, u80, u81, u82, u83, u84, u85, u86, u87, u88, u89, u90, u91, u92, u93, u94, u95, u96, u97, u98, u99, (.pointer (some ⟨gs, 0, none⟩)), (.slice (some a0) m cA), u102, (.slice X nx cX), u104, u105, (.pointer (some ⟨gs, 1, none⟩)), (.slice (some b0) nb cB), u108, (.pointer (some ⟨gs, 1, none⟩)), (.slice (some b0) nb cB), (.int .i64 (i : Int)), (.pointer (some (b0.add (i * 4)))), (.agg #[.bool ri.b, .slice ri.A ri.m ri.c, .bool ri.b', .slice ri.A' ri.m' ri.c']), (.int .i8 bz), (.int .i64 bz), u116, (.pointer (some ⟨gs, 1, none⟩)), (.slice (some b0) nb cB), (.int .i64 (k : Int)), (.pointer (some (b0.add (k * 4)))), (.agg #[.bool rk.b, .slice rk.A rk.m rk.c, .bool rk.b', .slice rk.A' rk.m' rk.c']), u122, u123, u124, u125, u126, u127, u128, u129, u130, u131, u132, u133, u134, u135, u136, u137, u138, u139, u140, u141, u142, u143, u144, u145, u146, u147, u148, u149, u150, u151, u152, u153, u154, u155, u156, u157, u158, u159, u160], []⟩ W := by
  subst hls
  have cx0 := cx
  obtain ⟨hS9, hUC, hUB, hUI, hul, hm, hBN, hnb, hRI, hRK, hf, hsz, hOut⟩ := cx0
  refine wpAnyH_ready (rs := [2, 4, 27]) (by kernel_rfl) (by simp) ?_
  refine (AllReadyH.cons ops13r_2 (fun KK hKK => ?_) (AllReadyH.cons ops13r_4 (fun KK hKK => ?_) (AllReadyH.cons ops13r_27 (fun KK hKK => ?_) AllReadyH.nil)))
  · go_simp
    refine (cloneM_any _ a0 cA m us (hUC.out _ hB) (Nat.lt_of_lt_of_le hUB.out hB.size) hul.out hm.out.1 (by have := hm.out.2; omega) hUI.out).mono ?_
    rintro e W1 ⟨gA, cA2, rfl, hO, hb5⟩
    (try go_wp2_with fail)
    have hBn := (hB.trans (hb5.mono hB.size))
    refine hKK.out _ _ (hS9.out _ hBn) (fun hHeld => ?_)
    clear hKK KK
    (try simp only [Act.put, List.getElem_toArray, List.getElem_cons_succ, List.getElem_cons_zero, List.setIfInBounds_toArray, List.set_cons_zero, List.set_cons_succ])
    exact st13_A  hHeld _ (by kernel_rfl) (hB.trans (hb5.mono hB.size)) (own_mono hO hB.size) cx
  · go_simp
    have hb5 : Below W.heap.size W (W.alloc (.cells #[(.slice X nx cX)] 23)) := (Below.refl _ _).alloc (Nat.le_refl _) _
    have hBn := (hB.trans (hb5.mono hB.size))
    refine hKK.out _ _ (hS9.out _ hBn) (fun hHeld => ?_)
    clear hKK KK
    (try simp only [Act.put, List.getElem_toArray, List.getElem_cons_succ, List.getElem_cons_zero, List.setIfInBounds_toArray, List.set_cons_zero, List.set_cons_succ])
    exact st13_x  hHeld _ (by kernel_rfl) (hB.trans (hb5.mono hB.size)) (made1 W #[(.slice X nx cX)] 23) cx
  · go_simp
    have hb5 : Below W.heap.size W (W.alloc (.cells #[.slice none 0 0, .slice none 0 0] 25)) := (Below.refl _ _).alloc (Nat.le_refl _) _
    have hBn := (hB.trans (hb5.mono hB.size))
    refine hKK.out _ _ (hS9.out _ hBn) (fun hHeld => ?_)
    clear hKK KK
    (try simp only [Act.put, List.getElem_toArray, List.getElem_cons_succ, List.getElem_cons_zero, List.setIfInBounds_toArray, List.set_cons_zero, List.set_cons_succ])
    exact st13_z  hHeld _ (by kernel_rfl) (hB.trans (hb5.mono hB.size)) (made1 W #[.slice none 0 0, .slice none 0 0] 25) hB.size cx

set_option maxRecDepth 100000 in
set_option maxHeartbeats 8000000 in
theorem reg13r (hwb : IntKind.i64.wrap bz = bz) (hi0 : (0 : Int) ≤ (i : Int)) (hi1 : (i : Int) < (nb : Int)) (hk0 : (0 : Int) ≤ (k : Int)) (hk1 : (k : Int) < (nb : Int)) (hS9 : Hid (∀ W, Below w9.heap.size w9 W → SX13 gs m nb cA cB i k a0 b0 ri rk W)) (hUC : Hid (∀ W, Below w9.heap.size w9 W → ∀ i u, us[i]? = some u → W.cell? (a0.add i) = some u)) (hUB : Hid (a0.block < w9.heap.size)) (hUI : Hid (∀ u ∈ us, isL u)) (hul : Hid (us.length = m)) (hm : Hid (0 < m ∧ m ≤ 100)) (hBN : Hid (∀ W, Below w9.heap.size w9 W → Nums 2 W (fun b => w9.heap.size ≤ b) (.slice (some b0) nb cB) nb f1)) (hnb : Hid (0 < nb ∧ nb ≤ 100)) (hRI : Hid (∀ W, Below w9.heap.size w9 W → RatL 2 W (fun _ => False) (.agg #[.bool ri.b, .slice ri.A ri.m ri.c, .bool ri.b', .slice ri.A' ri.m' ri.c']) fi)) (hRK : Hid (∀ W, Below w9.heap.size w9 W → RatL 2 W (fun _ => False) (.agg #[.bool rk.b, .slice rk.A rk.m rk.c, .bool rk.b', .slice rk.A' rk.m' rk.c']) fk)) (hf : Hid ((∀ j, j < nb → f2 j = f1 j) ∧ f2 nb = fi + (bz : Rat) * fk)) (hsz : Hid (Rsz 2 fi ∧ Rsz 2 fk ∧ -128 ≤ bz ∧ bz ≤ 127)) (hOut : Out13 w9 Q gs m nb i k bz X nx cX us f2 u0 u1 u3 u4 u5 u6 u11 u13 u14 u15 u16 u17 u18 u19 u20 u21 u22 u23 u24 u25 u26 u27 u28 u29 u30 u31 u32 u33 u34 u35 u36 u37 u38 u39 u40 u41 u42 u43 u44 u45 u46 u47 u48 u49 u50 u51 u52 u53 u54 u55 u56 u57 u58 u59 u60 u61 u62 u63 u64 u65 u66 u67 u68 u69 u70 u71 u72 u73 u74 u75 u76 u77 u78 u79 u80 u81 u82 u83 u84 u85 u86 u87 u88 u89 u90 u91 u92 u93 u94 u95 u96 u97 u98 u99 u127 u128 u129 u130 u131 u132 u133 u134 u135 u136 u137 u138 u139 u140 u141 u142 u143 u144 u145 u146 u147 u148 u149 u150 u151 u152 u153 u154 u155 u156 u157 u158 u159 u160) :
    (Code.region 13 ops13r true).wp Tryz.prog Q ⟨#[u0, u1, (.int .i8 bz), u3, u4, u5, u6, (.pointer (some ⟨gs, 0, none⟩)), (.int .i64 (i : Int)), (.int .i64 (k : Int)), (.slice X nx cX), u11, u12, u13, u14, u15, u16, u17, u18, u19, u20, u21, u22, u23, u24, u25, u26, u27, u28, u29, u30, u31, u32, u33, u34, u35, u36, u37, u38, u39, u40, u41, u42, u43, u44, u45, u46, u47, u48, u49, u50, u51, u52, u53, u54, u55, u56, u57, u58, u59, u60, u61, u62, u63, u64, u65, u66, u67, u68, u69, u70, u71, u72, u73, u74, u75, u76, u77, u78, u79, u80, u81, u82, u83, u84, u85, u86, u87, u88, u89, u90, u91, u92, u93, u94, u95, u96, u97, u98, u99, u100, u101, u102, u103, u104, u105, u106, u107, u108, u109, u110, u111, u112, u113, u114, u115, u116, u117, u118, u119, u120, u121, u122, u123, u124, u125, u126, u127, u128, u129, u130, u131, u132, u133, u134, u135, u136, u137, u138, u139, u140, u141, u142, u143, u144, u145, u146, u147, u148, u149, u150, u151, u152, u153, u154, u155, u156, u157, u158, u159, u160], []⟩ w9 := by
  refine wp_region_noPanic ?_
  refine wp_region_held_drew (S := (SX13 gs m nb cA cB i k a0 b0 ri rk)) (by kernel_rfl) ?_ (fun hHeld => ?_)
  · exact hS9.out _ (Below.refl _ _).drew
  rw [ops13r_size]
  refine wpAnyH_take (i := 0) (v := ?_) ops13r_0 (by kernel_rfl) (by kernel_rfl) (by kernel_rfl) (fun _ _ _ h => h) (Or.inl ⟨by kernel_rfl, ?_⟩) hHeld ?_
  rotate_left 1
  · (intro w hSw; unfold SX13 at hSw; (try dsimp only at hSw); first | (go_simp; done) | (go_simp; with_reducible rfl))
  (try simp only [Act.put, List.getElem_toArray, List.getElem_cons_succ, List.getElem_cons_zero, List.setIfInBounds_toArray, List.set_cons_zero, List.set_cons_succ])
  refine wpAnyH_take (i := 1) (v := ?_) ops13r_1 (by kernel_rfl) (by kernel_rfl) (by kernel_rfl) (fun _ _ _ h => h) (Or.inl ⟨by kernel_rfl, ?_⟩) hHeld ?_
  rotate_left 1
  · (intro w hSw; unfold SX13 at hSw; (try dsimp only at hSw); first | (go_simp; done) | (go_simp; with_reducible rfl))
  (try simp only [Act.put, List.getElem_toArray, List.getElem_cons_succ, List.getElem_cons_zero, List.setIfInBounds_toArray, List.set_cons_zero, List.set_cons_succ])
  refine wpAnyH_take (i := 3) (v := ?_) ops13r_3 (by kernel_rfl) (by kernel_rfl) (by kernel_rfl) (fun _ _ _ h => h) (Or.inl ⟨by kernel_rfl, ?_⟩) hHeld ?_
  rotate_left 1
  · (intro w hSw; unfold SX13 at hSw; (try dsimp only at hSw); first | (go_simp; done) | (go_simp; with_reducible rfl))
  (try simp only [Act.put, List.getElem_toArray, List.getElem_cons_succ, List.getElem_cons_zero, List.setIfInBounds_toArray, List.set_cons_zero, List.set_cons_succ])
  refine wpAnyH_take (i := 6) (v := ?_) ops13r_6 (by kernel_rfl) (by kernel_rfl) (by kernel_rfl) (fun _ _ _ h => h) (Or.inl ⟨by kernel_rfl, ?_⟩) hHeld ?_
  rotate_left 1
  · (intro w hSw; unfold SX13 at hSw; (try dsimp only at hSw); first | (go_simp; done) | (go_simp; with_reducible rfl))
  (try simp only [Act.put, List.getElem_toArray, List.getElem_cons_succ, List.getElem_cons_zero, List.setIfInBounds_toArray, List.set_cons_zero, List.set_cons_succ])
  refine wpAnyH_take (i := 7) (v := ?_) ops13r_7 (by kernel_rfl) (by kernel_rfl) (by kernel_rfl) (fun _ _ _ h => h) (Or.inl ⟨by kernel_rfl, ?_⟩) hHeld ?_
  rotate_left 1
  · (intro w hSw; unfold SX13 at hSw; (try dsimp only at hSw); first | (go_simp; done) | (go_simp; with_reducible rfl))
  (try simp only [Act.put, List.getElem_toArray, List.getElem_cons_succ, List.getElem_cons_zero, List.setIfInBounds_toArray, List.set_cons_zero, List.set_cons_succ])
  refine wpAnyH_take (i := 9) (v := ?_) ops13r_9 (by kernel_rfl) (by kernel_rfl) (by kernel_rfl) (fun _ _ _ h => h) (Or.inl ⟨by kernel_rfl, ?_⟩) hHeld ?_
  rotate_left 1
  · (intro w hSw; unfold SX13 at hSw; (try dsimp only at hSw); first | (go_simp; done) | (go_simp; with_reducible rfl))
  (try simp only [Act.put, List.getElem_toArray, List.getElem_cons_succ, List.getElem_cons_zero, List.setIfInBounds_toArray, List.set_cons_zero, List.set_cons_succ])
  refine wpAnyH_take (i := 10) (v := ?_) ops13r_10 (by kernel_rfl) (by kernel_rfl) (by kernel_rfl) (fun _ _ _ h => h) (Or.inl ⟨by kernel_rfl, ?_⟩) hHeld ?_
  rotate_left 1
  · (intro w hSw; unfold SX13 at hSw; (try dsimp only at hSw); first | (go_simp; done) | (go_simp; with_reducible rfl))
  (try simp only [Act.put, List.getElem_toArray, List.getElem_cons_succ, List.getElem_cons_zero, List.setIfInBounds_toArray, List.set_cons_zero, List.set_cons_succ])
  refine wpAnyH_take (i := 11) (v := ?_) ops13r_11 (by kernel_rfl) (by kernel_rfl) (by kernel_rfl) (fun _ _ _ h => h) (Or.inl ⟨by kernel_rfl, ?_⟩) hHeld ?_
  rotate_left 1
  · (intro w hSw; unfold SX13 at hSw; (try dsimp only at hSw); first | (go_simp; done) | (go_simp; with_reducible rfl))
  (try simp only [Act.put, List.getElem_toArray, List.getElem_cons_succ, List.getElem_cons_zero, List.setIfInBounds_toArray, List.set_cons_zero, List.set_cons_succ])
  refine wpAnyH_take (i := 12) (v := ?_) ops13r_12 (by kernel_rfl) (by kernel_rfl) (by kernel_rfl) (fun _ _ _ h => h) (Or.inl ⟨by kernel_rfl, ?_⟩) hHeld ?_
  rotate_left 1
  · (intro w hSw; unfold SX13 at hSw; (try dsimp only at hSw); first | (go_simp; done) | (go_simp; with_reducible rfl))
  (try simp only [Act.put, List.getElem_toArray, List.getElem_cons_succ, List.getElem_cons_zero, List.setIfInBounds_toArray, List.set_cons_zero, List.set_cons_succ])
  refine wpAnyH_take (i := 13) (v := ?_) ops13r_13 (by kernel_rfl) (by kernel_rfl) (by kernel_rfl) (fun _ _ _ h => h) (Or.inl ⟨by kernel_rfl, ?_⟩) hHeld ?_
  rotate_left 1
  · (intro w hSw; unfold SX13 at hSw; (try dsimp only at hSw); first | (go_simp; done) | (go_simp; with_reducible rfl))
  (try simp only [Act.put, List.getElem_toArray, List.getElem_cons_succ, List.getElem_cons_zero, List.setIfInBounds_toArray, List.set_cons_zero, List.set_cons_succ])
  refine wpAnyH_take (i := 14) (v := ?_) ops13r_14 (by kernel_rfl) (by kernel_rfl) (by kernel_rfl) (fun _ _ _ h => h) (Or.inl ⟨by kernel_rfl, ?_⟩) hHeld ?_
  rotate_left 1
  · (intro w hSw; unfold SX13 at hSw; (try dsimp only at hSw); first | (go_simp; done) | (go_simp; with_reducible rfl))
  (try simp only [Act.put, List.getElem_toArray, List.getElem_cons_succ, List.getElem_cons_zero, List.setIfInBounds_toArray, List.set_cons_zero, List.set_cons_succ])
  refine wpAnyH_take (i := 15) (v := ?_) ops13r_15 (by kernel_rfl) (by kernel_rfl) (by kernel_rfl) (fun _ _ _ h => h) (Or.inl ⟨by kernel_rfl, ?_⟩) hHeld ?_
  rotate_left 1
  · (intro w hSw; unfold SX13 at hSw; (try dsimp only at hSw); first | (go_simp; done) | (go_simp; with_reducible rfl))
  (try simp only [Act.put, List.getElem_toArray, List.getElem_cons_succ, List.getElem_cons_zero, List.setIfInBounds_toArray, List.set_cons_zero, List.set_cons_succ])
  refine wpAnyH_take (i := 17) (v := ?_) ops13r_17 (by kernel_rfl) (by kernel_rfl) (by kernel_rfl) (fun _ _ _ h => h) (Or.inl ⟨by kernel_rfl, ?_⟩) hHeld ?_
  rotate_left 1
  · (intro w hSw; unfold SX13 at hSw; (try dsimp only at hSw); first | (go_simp; done) | (go_simp; with_reducible rfl))
  (try simp only [Act.put, List.getElem_toArray, List.getElem_cons_succ, List.getElem_cons_zero, List.setIfInBounds_toArray, List.set_cons_zero, List.set_cons_succ])
  refine wpAnyH_take (i := 18) (v := ?_) ops13r_18 (by kernel_rfl) (by kernel_rfl) (by kernel_rfl) (fun _ _ _ h => h) (Or.inl ⟨by kernel_rfl, ?_⟩) hHeld ?_
  rotate_left 1
  · (intro w hSw; unfold SX13 at hSw; (try dsimp only at hSw); first | (go_simp; done) | (go_simp; with_reducible rfl))
  (try simp only [Act.put, List.getElem_toArray, List.getElem_cons_succ, List.getElem_cons_zero, List.setIfInBounds_toArray, List.set_cons_zero, List.set_cons_succ])
  refine wpAnyH_take (i := 19) (v := ?_) ops13r_19 (by kernel_rfl) (by kernel_rfl) (by kernel_rfl) (fun _ _ _ h => h) (Or.inl ⟨by kernel_rfl, ?_⟩) hHeld ?_
  rotate_left 1
  · (intro w hSw; unfold SX13 at hSw; (try dsimp only at hSw); first | (go_simp; done) | (go_simp; with_reducible rfl))
  (try simp only [Act.put, List.getElem_toArray, List.getElem_cons_succ, List.getElem_cons_zero, List.setIfInBounds_toArray, List.set_cons_zero, List.set_cons_succ])
  refine wpAnyH_take (i := 20) (v := ?_) ops13r_20 (by kernel_rfl) (by kernel_rfl) (by kernel_rfl) (fun _ _ _ h => h) (Or.inl ⟨by kernel_rfl, ?_⟩) hHeld ?_
  rotate_left 1
  · (intro w hSw; unfold SX13 at hSw; (try dsimp only at hSw); first | (go_simp; done) | (go_simp; with_reducible rfl))
  (try simp only [Act.put, List.getElem_toArray, List.getElem_cons_succ, List.getElem_cons_zero, List.setIfInBounds_toArray, List.set_cons_zero, List.set_cons_succ])
  refine wpAnyH_take (i := 21) (v := ?_) ops13r_21 (by kernel_rfl) (by kernel_rfl) (by kernel_rfl) (fun _ _ _ h => h) (Or.inl ⟨by kernel_rfl, ?_⟩) hHeld ?_
  rotate_left 1
  · (intro w hSw; unfold SX13 at hSw; (try dsimp only at hSw); first | (go_simp; done) | (go_simp; with_reducible rfl))
  (try simp only [Act.put, List.getElem_toArray, List.getElem_cons_succ, List.getElem_cons_zero, List.setIfInBounds_toArray, List.set_cons_zero, List.set_cons_succ])
  exact st13_O hHeld _ (by kernel_rfl) ((Below.refl _ _).drew) ⟨hS9, hUC, hUB, hUI, hul, hm, hBN, hnb, hRI, hRK, hf, hsz, hOut⟩
end
end Reg13r
end Go.Proofs.YtpeglenapmkdfaaGreat

