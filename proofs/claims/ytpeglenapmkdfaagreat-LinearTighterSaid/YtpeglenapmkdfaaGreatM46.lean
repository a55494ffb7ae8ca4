/- Contracts of the functions that the statements reach, part 46. -/
import Derived.Test.YtpeglenapmkdfaaGreatRows
import Derived.Test.YtpeglenapmkdfaaGreatM45
set_option linter.unusedSimpArgs false
set_option linter.unusedVariables false

/- The drawn region of LinearTighter that makes the system with one equation more. Printed by gen7t.py. -/
namespace Go.Proofs.YtpeglenapmkdfaaGreat
open Go.RowKit
attribute [local go_sem ↓] Go.wp_at_zero Go.wp_at_succ
namespace Reg7t
/-- The operations of a region, by its number. -/
def findReg (n : Nat) : Code → Option (Array Oper)
  | .seq a b => match findReg n a with
    | some c => some c
    | none => findReg n b
  | .loop c => findReg n c
  | .block _ c => findReg n c
  | .scope c => findReg n c
  | .cond _ a b => match findReg n a with
    | some c => some c
    | none => findReg n b
  | .region k ops _ => if k = n then some ops else none
  | _ => none

noncomputable def ops7t : Array Oper := (Tryz.f6.body.bind (findReg 7)).getD #[]
theorem ops7t_size : ops7t.size = 22 := by kernel_rfl
theorem ops7t_0 : ops7t[0]? = some { dst := some 74, op := Op.fieldAddr 25 (Operand.tmp 7) 0, type := 0, pos := (ops7t[0]'(by rw [ops7t_size]; decide)).pos, after := (ops7t[0]'(by rw [ops7t_size]; decide)).after, guard := none } := by kernel_rfl
theorem ops7t_1 : ops7t[1]? = some { dst := some 75, op := Op.load 22 (Operand.tmp 74), type := 22, pos := (ops7t[1]'(by rw [ops7t_size]; decide)).pos, after := (ops7t[1]'(by rw [ops7t_size]; decide)).after, guard := none } := by kernel_rfl
theorem ops7t_2 : ops7t[2]? = some { dst := some 76, op := Op.call { callee := Callee.value (Operand.func 24), args := #[Operand.tmp 75], argTypes := #[22] }, type := 22, pos := (ops7t[2]'(by rw [ops7t_size]; decide)).pos, after := (ops7t[2]'(by rw [ops7t_size]; decide)).after, guard := none } := by kernel_rfl
theorem ops7t_3 : ops7t[3]? = some { dst := some 77, op := Op.move (Operand.tmp 1), type := 23, pos := (ops7t[3]'(by rw [ops7t_size]; decide)).pos, after := (ops7t[3]'(by rw [ops7t_size]; decide)).after, guard := none } := by kernel_rfl
theorem ops7t_4 : ops7t[4]? = some { dst := some 78, op := Op.buildSlice 22 1 #[(0, Operand.tmp 77)], type := 22, pos := (ops7t[4]'(by rw [ops7t_size]; decide)).pos, after := (ops7t[4]'(by rw [ops7t_size]; decide)).after, guard := none } := by kernel_rfl
theorem ops7t_5 : ops7t[5]? = some { dst := some 79, op := Op.call { callee := Callee.builtin Builtin.append, args := #[Operand.tmp 76, Operand.tmp 78], argTypes := #[22, 22] }, type := 22, pos := (ops7t[5]'(by rw [ops7t_size]; decide)).pos, after := (ops7t[5]'(by rw [ops7t_size]; decide)).after, guard := none } := by kernel_rfl
theorem ops7t_6 : ops7t[6]? = some { dst := some 80, op := Op.fieldAddr 25 (Operand.tmp 7) 1, type := 0, pos := (ops7t[6]'(by rw [ops7t_size]; decide)).pos, after := (ops7t[6]'(by rw [ops7t_size]; decide)).after, guard := none } := by kernel_rfl
theorem ops7t_7 : ops7t[7]? = some { dst := some 81, op := Op.load 23 (Operand.tmp 80), type := 23, pos := (ops7t[7]'(by rw [ops7t_size]; decide)).pos, after := (ops7t[7]'(by rw [ops7t_size]; decide)).after, guard := none } := by kernel_rfl
theorem ops7t_8 : ops7t[8]? = some { dst := some 82, op := Op.call { callee := Callee.value (Operand.func 25), args := #[Operand.tmp 81], argTypes := #[23] }, type := 23, pos := (ops7t[8]'(by rw [ops7t_size]; decide)).pos, after := (ops7t[8]'(by rw [ops7t_size]; decide)).after, guard := none } := by kernel_rfl
theorem ops7t_9 : ops7t[9]? = some { dst := some 83, op := Op.load 44 (Operand.tmp 5), type := 44, pos := (ops7t[9]'(by rw [ops7t_size]; decide)).pos, after := (ops7t[9]'(by rw [ops7t_size]; decide)).after, guard := none } := by kernel_rfl
theorem ops7t_10 : ops7t[10]? = some { dst := some 84, op := Op.buildSlice 23 1 #[(0, Operand.tmp 83)], type := 23, pos := (ops7t[10]'(by rw [ops7t_size]; decide)).pos, after := (ops7t[10]'(by rw [ops7t_size]; decide)).after, guard := none } := by kernel_rfl
theorem ops7t_11 : ops7t[11]? = some { dst := some 85, op := Op.call { callee := Callee.builtin Builtin.append, args := #[Operand.tmp 82, Operand.tmp 84], argTypes := #[23, 23] }, type := 23, pos := (ops7t[11]'(by rw [ops7t_size]; decide)).pos, after := (ops7t[11]'(by rw [ops7t_size]; decide)).after, guard := none } := by kernel_rfl
theorem ops7t_12 : ops7t[12]? = some { dst := some 86, op := Op.build 25 #[(0, Operand.tmp 79), (1, Operand.tmp 85)], type := 25, pos := (ops7t[12]'(by rw [ops7t_size]; decide)).pos, after := (ops7t[12]'(by rw [ops7t_size]; decide)).after, guard := none } := by kernel_rfl
theorem ops7t_13 : ops7t[13]? = some { dst := some 87, op := Op.fieldAddr 37 (Operand.tmp 3) 1, type := 0, pos := (ops7t[13]'(by rw [ops7t_size]; decide)).pos, after := (ops7t[13]'(by rw [ops7t_size]; decide)).after, guard := none } := by kernel_rfl
theorem ops7t_14 : ops7t[14]? = some { dst := some 88, op := Op.load 23 (Operand.tmp 87), type := 23, pos := (ops7t[14]'(by rw [ops7t_size]; decide)).pos, after := (ops7t[14]'(by rw [ops7t_size]; decide)).after, guard := none } := by kernel_rfl
theorem ops7t_15 : ops7t[15]? = some { dst := some 89, op := Op.call { callee := Callee.value (Operand.func 26), args := #[Operand.tmp 86, Operand.tmp 88], argTypes := #[25, 23] }, type := 52, pos := (ops7t[15]'(by rw [ops7t_size]; decide)).pos, after := (ops7t[15]'(by rw [ops7t_size]; decide)).after, guard := none } := by kernel_rfl
theorem ops7t_16 : ops7t[16]? = some { dst := some 73, op := Op.move (Operand.tmp 89), type := 52, pos := (ops7t[16]'(by rw [ops7t_size]; decide)).pos, after := (ops7t[16]'(by rw [ops7t_size]; decide)).after, guard := none } := by kernel_rfl
theorem ops7t_17 : ops7t[17]? = some { dst := some 90, op := Op.extract (Operand.tmp 73) 0, type := 51, pos := (ops7t[17]'(by rw [ops7t_size]; decide)).pos, after := (ops7t[17]'(by rw [ops7t_size]; decide)).after, guard := none } := by kernel_rfl
theorem ops7t_18 : ops7t[18]? = some { dst := some 91, op := Op.extract (Operand.tmp 73) 1, type := 33, pos := (ops7t[18]'(by rw [ops7t_size]; decide)).pos, after := (ops7t[18]'(by rw [ops7t_size]; decide)).after, guard := none } := by kernel_rfl
theorem ops7t_19 : ops7t[19]? = some { dst := some 10, op := Op.alloc 51, type := 0, pos := (ops7t[19]'(by rw [ops7t_size]; decide)).pos, after := (ops7t[19]'(by rw [ops7t_size]; decide)).after, guard := none } := by kernel_rfl
theorem ops7t_20 : ops7t[20]? = some { dst := none, op := Op.store 51 (Operand.tmp 10) (Operand.tmp 90), type := 0, pos := (ops7t[20]'(by rw [ops7t_size]; decide)).pos, after := (ops7t[20]'(by rw [ops7t_size]; decide)).after, guard := none } := by kernel_rfl
theorem ops7t_21 : ops7t[21]? = some { dst := some 11, op := Op.assign (Operand.tmp 91), type := 33, pos := (ops7t[21]'(by rw [ops7t_size]; decide)).pos, after := (ops7t[21]'(by rw [ops7t_size]; decide)).after, guard := none } := by kernel_rfl

def SX7 (gs gp gb m nb nc cA cB cC : Nat) (a0 : Addr) (B C : Option Addr) (r : R4) : World → Prop := fun W =>
  (W.cell? ⟨gs, 0, none⟩ = some (.slice (some a0) m cA) ∧ W.cell? ⟨gs, 1, none⟩ = some (.slice B nb cB)) ∧ W.cell? ⟨gp, 2, none⟩ = some (.slice C nc cC) ∧ (W.cell? ⟨gb, 0, none⟩ = some (.bool r.b) ∧ W.cell? ⟨gb, 1, none⟩ = some (.slice r.A r.m r.c)) ∧ W.cell? ⟨gb, 2, none⟩ = some (.bool r.b') ∧ W.cell? ⟨gb, 3, none⟩ = some (.slice r.A' r.m' r.c')
/-- What minimizing over the new system answers. -/
def Min7 (w9 : World) (m nb nc cC : Nat) (C : Option Addr) (us : List Value) (ux : Value) (PF : Int → Rat → Prop) (f2 : Nat → Rat) : Prop :=
  ∀ (W : World) (gP cP gQ cQ : Nat), Below w9.heap.size w9 W → OwnL W w9.heap.size (.slice (some ⟨gP, 0, none⟩) (m + 1) cP) (us ++ [ux]) → Nums 2 W (fun _ => False) (.slice (some ⟨gQ, 0, none⟩) (nb + 1) cQ) (nb + 1) f2 →
    Calls Tryz.prog 26 #[.agg #[(.slice (some ⟨gP, 0, none⟩) (m + 1) cP), (.slice (some ⟨gQ, 0, none⟩) (nb + 1) cQ)], .slice C nc cC] W fun e W' => ∃ (kind5 : Int) (X5 Y5 R5 EA5 EB5 : Option Addr) (nx5 ny5 nr5 cX5 cY5 cR5 en5 ec5 en5' ed5 : Nat) (bn5 bn5' : Bool) (val5 : Rat),
      e = .returned (.tuple #[.agg #[.int .i64 kind5, .slice X5 nx5 cX5, .slice Y5 ny5 cY5, .slice R5 nr5 cR5, .bool bn5, .slice EA5 en5 ec5, .bool bn5', .slice EB5 en5' ed5], .int .i64 0]) ∧ Hid (PF kind5 val5) ∧ RatL 1568 W' (fun _ => False) (.agg #[.bool bn5, .slice EA5 en5 ec5, .bool bn5', .slice EB5 en5' ed5]) val5 ∧ Below W.heap.size W W'
/-- What the region leaves. -/
def Out7 (w9 : World) (Q : Exit → Act → World → Prop) (gs gp gb : Nat) (C : Option Addr) (nc cC : Nat) (X : Option Addr) (nx cX : Nat) (PF : Int → Rat → Prop) (u0 u2 u4 u6 u8 u9 u12 u13 u14 u15 u16 u17 u18 u19 u20 u21 u22 u23 u24 u25 u26 u27 u28 u29 u30 u31 u32 u33 u34 u35 u36 u37 u38 u39 u40 u41 u42 u43 u44 u45 u46 u47 u48 u49 u50 u51 u52 u53 u54 u55 u56 u57 u58 u59 u60 u61 u62 u63 u64 u65 u66 u67 u68 u69 u70 u71 u72 u92 u93 u94 u95 u96 u97 u98 u99 u100 u101 u102 u103 u104 u105 u106 u107 u108 u109 u110 u111 u112 u113 u114 u115 u116 u117 u118 u119 u120 u121 u122 u123 u124 u125 u126 u127 u128 u129 u130 u131 u132 u133 : Value) : Prop :=
  ∀ (W : World) (hd : Nat) (kind5 : Int) (X5 Y5 R5 EA5 EB5 : Option Addr) (nx5 ny5 nr5 cX5 cY5 cR5 en5 ec5 en5' ed5 : Nat) (bn5 bn5' : Bool) (val5 : Rat) (v73 v74 v75 v76 v77 v78 v79 v80 v81 v82 v83 v84 v85 v86 v87 v88 v89 v90 v91 : Value), Hid (PF kind5 val5) → RatL 1568 W (fun _ => False) (.agg #[.bool bn5, .slice EA5 en5 ec5, .bool bn5', .slice EB5 en5' ed5]) val5 →
    Loc W hd 51 #[.int .i64 kind5, .slice X5 nx5 cX5, .slice Y5 ny5 cY5, .slice R5 nr5 cR5, .bool bn5, .slice EA5 en5 ec5, .bool bn5', .slice EB5 en5' ed5] → Below w9.heap.size w9 W → Q .normal ⟨#[u0, (.slice X nx cX), u2, (.pointer (some ⟨gp, 0, none⟩)), u4, (.pointer (some ⟨gb, 0, none⟩)), u6, (.pointer (some ⟨gs, 0, none⟩)), u8, u9, (.pointer (some ⟨hd, 0, none⟩)), (.int .i64 0), u12, u13, u14, u15, u16, u17, u18, u19, u20, u21, u22, u23, u24, u25, u26, u27, u28, u29, u30, u31, u32, u33, u34, u35, u36, u37, u38, u39, u40, u41, u42, u43, u44, u45, u46, u47, u48, u49, u50, u51, u52, u53, u54, u55, u56, u57, u58, u59, u60, u61, u62, u63, u64, u65, u66, u67, u68, u69, u70, u71, u72, v73, v74, v75, v76, v77, v78, v79, v80, v81, v82, v83, v84, v85, v86, v87, v88, v89, v90, v91, u92, u93, u94, u95, u96, u97, u98, u99, u100, u101, u102, u103, u104, u105, u106, u107, u108, u109, u110, u111, u112, u113, u114, u115, u116, u117, u118, u119, u120, u121, u122, u123, u124, u125, u126, u127, u128, u129, u130, u131, u132, u133], []⟩ W

structure Cx7 (w9 : World) (Q : Exit → Act → World → Prop) (gs gp gb m nb nc cA cB cC : Nat) (a0 : Addr) (B C X : Option Addr) (nx cX : Nat) (r : R4) (us : List Value) (f2 : Nat → Rat) (PF : Int → Rat → Prop) (u0 u2 u4 u6 u8 u9 u12 u13 u14 u15 u16 u17 u18 u19 u20 u21 u22 u23 u24 u25 u26 u27 u28 u29 u30 u31 u32 u33 u34 u35 u36 u37 u38 u39 u40 u41 u42 u43 u44 u45 u46 u47 u48 u49 u50 u51 u52 u53 u54 u55 u56 u57 u58 u59 u60 u61 u62 u63 u64 u65 u66 u67 u68 u69 u70 u71 u72 u92 u93 u94 u95 u96 u97 u98 u99 u100 u101 u102 u103 u104 u105 u106 u107 u108 u109 u110 u111 u112 u113 u114 u115 u116 u117 u118 u119 u120 u121 u122 u123 u124 u125 u126 u127 u128 u129 u130 u131 u132 u133 : Value) : Prop where
  hS9 : Hid (∀ W, Below w9.heap.size w9 W → SX7 gs gp gb m nb nc cA cB cC a0 B C r W)
  hUC : Hid (∀ W, Below w9.heap.size w9 W → ∀ i u, us[i]? = some u → W.cell? (a0.add i) = some u)
  hUB : Hid (a0.block < w9.heap.size)
  hUI : Hid (∀ u ∈ us, isL u)
  hul : Hid (us.length = m)
  hm : Hid (0 < m ∧ m ≤ 100)
  hBN : Hid (∀ W, Below w9.heap.size w9 W → Nums 2 W (fun b => w9.heap.size ≤ b) (.slice B nb cB) nb f2)
  hnb : Hid (0 < nb ∧ nb ≤ 100)
  hRV : Hid (∀ W, Below w9.heap.size w9 W → RatL 2 W (fun b => w9.heap.size ≤ b) (.agg #[.bool r.b, .slice r.A r.m r.c, .bool r.b', .slice r.A' r.m' r.c']) (f2 nb))
  hMin : Hid (Min7 w9 m nb nc cC C us (.slice X nx cX) PF f2)
  hOut : Out7 w9 Q gs gp gb C nc cC X nx cX PF u0 u2 u4 u6 u8 u9 u12 u13 u14 u15 u16 u17 u18 u19 u20 u21 u22 u23 u24 u25 u26 u27 u28 u29 u30 u31 u32 u33 u34 u35 u36 u37 u38 u39 u40 u41 u42 u43 u44 u45 u46 u47 u48 u49 u50 u51 u52 u53 u54 u55 u56 u57 u58 u59 u60 u61 u62 u63 u64 u65 u66 u67 u68 u69 u70 u71 u72 u92 u93 u94 u95 u96 u97 u98 u99 u100 u101 u102 u103 u104 u105 u106 u107 u108 u109 u110 u111 u112 u113 u114 u115 u116 u117 u118 u119 u120 u121 u122 u123 u124 u125 u126 u127 u128 u129 u130 u131 u132 u133

section
variable {Q : Exit → Act → World → Prop} {w9 W : World} {gs gp gb m nb nc cA cB cC nx cX gA cA2 gP cP gC cC2 gQ cQ ha hb hd : Nat} {a0 : Addr} {B C X : Option Addr} {r : R4} {us : List Value} {rs : List R4} {f2 : Nat → Rat} {PF : Int → Rat → Prop}
  {kind5 : Int} {X5 Y5 R5 EA5 EB5 : Option Addr} {nx5 ny5 nr5 cX5 cY5 cR5 en5 ec5 en5' ed5 : Nat} {bn5 bn5' : Bool} {val5 : Rat} {u0 u2 u4 u6 u8 u9 u10 u11 u12 u13 u14 u15 u16 u17 u18 u19 u20 u21 u22 u23 u24 u25 u26 u27 u28 u29 u30 u31 u32 u33 u34 u35 u36 u37 u38 u39 u40 u41 u42 u43 u44 u45 u46 u47 u48 u49 u50 u51 u52 u53 u54 u55 u56 u57 u58 u59 u60 u61 u62 u63 u64 u65 u66 u67 u68 u69 u70 u71 u72 u73 u74 u75 u76 u77 u78 u79 u80 u81 u82 u83 u84 u85 u86 u87 u88 u89 u90 u91 u92 u93 u94 u95 u96 u97 u98 u99 u100 u101 u102 u103 u104 u105 u106 u107 u108 u109 u110 u111 u112 u113 u114 u115 u116 u117 u118 u119 u120 u121 u122 u123 u124 u125 u126 u127 u128 u129 u130 u131 u132 u133 : Value}
set_option maxRecDepth 100000 in
set_option maxHeartbeats 4000000 in
theorem st7_APCQMxyz (hHeld : SX7 gs gp gb m nb nc cA cB cC a0 B C r W) (ls : Array Bool) (hls : ls = #[true, true, true, true, true, true, true, true, true, true, true, true, true, true, true, true, true, true, true, true, false, false]) (hB : Below w9.heap.size w9 W) (OP : OwnL W w9.heap.size (.slice (some ⟨gP, 0, none⟩) (m + 1) cP) (us ++ [(.slice X nx cX)])) (Ld : Loc W hd 51 #[.int .i64 0, .slice none 0 0, .slice none 0 0, .slice none 0 0, .bool false, .slice none 0 0, .bool false, .slice none 0 0]) (hld : w9.heap.size ≤ hd) (HPF : Hid (PF kind5 val5)) (HVR : RatL 1568 W (fun _ => False) (.agg #[.bool bn5, .slice EA5 en5 ec5, .bool bn5', .slice EB5 en5' ed5]) val5) (cx : Cx7 w9 Q gs gp gb m nb nc cA cB cC a0 B C X nx cX r us f2 PF u0 u2 u4 u6 u8 u9 u12 u13 u14 u15 u16 u17 u18 u19 u20 u21 u22 u23 u24 u25 u26 u27 u28 u29 u30 u31 u32 u33 u34 u35 u36 u37 u38 u39 u40 u41 u42 u43 u44 u45 u46 u47 u48 u49 u50 u51 u52 u53 u54 u55 u56 u57 u58 u59 u60 u61 u62 u63 u64 u65 u66 u67 u68 u69 u70 u71 u72 u92 u93 u94 u95 u96 u97 u98 u99 u100 u101 u102 u103 u104 u105 u106 u107 u108 u109 u110 u111 u112 u113 u114 u115 u116 u117 u118 u119 u120 u121 u122 u123 u124 u125 u126 u127 u128 u129 u130 u131 u132 u133) :
    wpAnyH Tryz.prog .any ops7t (NoPanic Q) (SX7 gs gp gb m nb nc cA cB cC a0 B C r) 2 ls ⟨#[u0, (.slice X nx cX), u2, (.pointer (some ⟨gp, 0, none⟩)), u4, (.pointer (some ⟨gb, 0, none⟩)), u6, (.pointer (some ⟨gs, 0, none⟩)), u8, u9, (.pointer (some ⟨hd, 0, none⟩)), u11, u12, u13, u14, u15, u16, u17, u18, u19, u20, u21, u22, u23, u24, u25, u26, u27, u28, u29, u30, u31, u32, u33, u34, u35, u36, u37, u38, u39, u40, u41, u42, u43, u44, u45, u46, u47, u48, u49, u50, u51, u52, u53, u54, u55, u56, u57, u58, u59, u60, u61, u62, u63, u64, u65, u66, u67, u68, u69, u70, u71, u72, (.tuple #[.agg #[.int .i64 kind5, .slice X5 nx5 cX5, .slice Y5 ny5 cY5, .slice R5 nr5 cR5, .bool bn5, .slice EA5 en5 ec5, .bool bn5', .slice EB5 en5' ed5], .int .i64 0]), (.pointer (some ⟨gs, 0, none⟩)), (.slice (some a0) m cA), (.slice (some ⟨gA, 0, none⟩) m cA2), (.slice X nx cX), (.slice (some ⟨ha, 0, none⟩) 1 1), (.slice (some ⟨gP, 0, none⟩) (m + 1) cP), (.pointer (some ⟨gs, 1, none⟩)), (.slice B nb cB), (.slice (some ⟨gC, 0, none⟩) nb cC2), (.agg #[.bool r.b, .slice r.A r.m r.c, .bool r.b', .slice r.A' r.m' r.c']), (.slice (some ⟨hb, 0, none⟩) 1 1), (.slice (some ⟨gQ, 0, none⟩) (nb + 1) cQ), (.agg #[(.slice (some ⟨gP, 0, none⟩) (m + 1) cP), (.slice (some ⟨gQ, 0, none⟩) (nb + 1) cQ)]), (.pointer (some ⟨gp, 2, none⟩)), (.slice C nc cC), (.tuple #[.agg #[.int .i64 kind5, .slice X5 nx5 cX5, .slice Y5 ny5 cY5, .slice R5 nr5 cR5, .bool bn5, .slice EA5 en5 ec5, .bool bn5', .slice EB5 en5' ed5], .int .i64 0]), (.agg #[.int .i64 kind5, .slice X5 nx5 cX5, .slice Y5 ny5 cY5, .slice R5 nr5 cR5, .bool bn5, .slice EA5 en5 ec5, .bool bn5', .slice EB5 en5' ed5]), (.int .i64 0), u92, u93, u94, u95, u96, u97, u98, u99, u100, u101, u102, u103, u104, u105, u106, u107, u108, u109, u110, u111, u112, u113, u114, u115, u116, u117, u118, u119, u120, u121, u122, u123, u124, u125, u126, u127, u128, u129, u130, u131, u132, u133], []⟩ W := by
  subst hls
  have cx0 := cx
  obtain ⟨hS9, hUC, hUB, hUI, hul, hm, hBN, hnb, hRV, hMin, hOut⟩ := cx0
  obtain ⟨e7, g7, l7⟩ := Ld.all (w' := W)
  have hl7 := Ld.lt
  refine wpAnyH_ready (rs := [20]) (by kernel_rfl) (by simp) ?_
  refine AllReadyH.cons ops7t_20 (fun KK hKK => ?_) AllReadyH.nil
  go_simp
  (try go_wp2_with fail)
  refine hKK.out _ _ ?_ (fun hHeld => ?_)
  · exact hS9.out _ bel
  clear hKK KK
  (try simp only [Act.put, List.getElem_toArray, List.getElem_cons_succ, List.getElem_cons_zero, List.setIfInBounds_toArray, List.set_cons_zero, List.set_cons_succ])
  refine wpAnyH_take (i := 21) (v := ?_) ops7t_21 (by kernel_rfl) (by kernel_rfl) (by kernel_rfl) (fun _ _ _ h => h) (Or.inl ⟨by kernel_rfl, ?_⟩) hHeld ?_
  rotate_left 1
  · (intro w hSw; (try dsimp only at hSw); first | (go_simp; done) | (go_simp; with_reducible rfl))
  (try simp only [Act.put, List.getElem_toArray, List.getElem_cons_succ, List.getElem_cons_zero, List.setIfInBounds_toArray, List.set_cons_zero, List.set_cons_succ])
  refine wpAnyH_done (by kernel_rfl) ?_ _
  refine NoPanic.normal ?_
  exact hOut _ _ _ _ _ _ _ _ _ _ _ _ _ _ _ _ _ _ _ _ _ _ _ _ _ _ _ _ _ _ _ _ _ _ _ _ _ _ _ _ HPF (RatL.past HVR Ld ozero8_noW kp) (Loc.fill8 Ld) bel

set_option maxRecDepth 100000 in
set_option maxHeartbeats 4000000 in
theorem st7_APCQMxy (hHeld : SX7 gs gp gb m nb nc cA cB cC a0 B C r W) (ls : Array Bool) (hls : ls = #[true, true, true, true, true, true, true, true, true, true, true, true, true, true, true, true, true, true, true, false, false, false]) (hB : Below w9.heap.size w9 W) (OP : OwnL W w9.heap.size (.slice (some ⟨gP, 0, none⟩) (m + 1) cP) (us ++ [(.slice X nx cX)])) (HPF : Hid (PF kind5 val5)) (HVR : RatL 1568 W (fun _ => False) (.agg #[.bool bn5, .slice EA5 en5 ec5, .bool bn5', .slice EB5 en5' ed5]) val5) (cx : Cx7 w9 Q gs gp gb m nb nc cA cB cC a0 B C X nx cX r us f2 PF u0 u2 u4 u6 u8 u9 u12 u13 u14 u15 u16 u17 u18 u19 u20 u21 u22 u23 u24 u25 u26 u27 u28 u29 u30 u31 u32 u33 u34 u35 u36 u37 u38 u39 u40 u41 u42 u43 u44 u45 u46 u47 u48 u49 u50 u51 u52 u53 u54 u55 u56 u57 u58 u59 u60 u61 u62 u63 u64 u65 u66 u67 u68 u69 u70 u71 u72 u92 u93 u94 u95 u96 u97 u98 u99 u100 u101 u102 u103 u104 u105 u106 u107 u108 u109 u110 u111 u112 u113 u114 u115 u116 u117 u118 u119 u120 u121 u122 u123 u124 u125 u126 u127 u128 u129 u130 u131 u132 u133) :
    wpAnyH Tryz.prog .any ops7t (NoPanic Q) (SX7 gs gp gb m nb nc cA cB cC a0 B C r) 3 ls ⟨#[u0, (.slice X nx cX), u2, (.pointer (some ⟨gp, 0, none⟩)), u4, (.pointer (some ⟨gb, 0, none⟩)), u6, (.pointer (some ⟨gs, 0, none⟩)), u8, u9, u10, u11, u12, u13, u14, u15, u16, u17, u18, u19, u20, u21, u22, u23, u24, u25, u26, u27, u28, u29, u30, u31, u32, u33, u34, u35, u36, u37, u38, u39, u40, u41, u42, u43, u44, u45, u46, u47, u48, u49, u50, u51, u52, u53, u54, u55, u56, u57, u58, u59, u60, u61, u62, u63, u64, u65, u66, u67, u68, u69, u70, u71, u72, (.tuple #[.agg #[.int .i64 kind5, .slice X5 nx5 cX5, .slice Y5 ny5 cY5, .slice R5 nr5 cR5, .bool bn5, .slice EA5 en5 ec5, .bool bn5', .slice EB5 en5' ed5], .int .i64 0]), (.pointer (some ⟨gs, 0, none⟩)), (.slice (some a0) m cA), (.slice (some ⟨gA, 0, none⟩) m cA2), (.slice X nx cX), (.slice (some ⟨ha, 0, none⟩) 1 1), (.slice (some ⟨gP, 0, none⟩) (m + 1) cP), (.pointer (some ⟨gs, 1, none⟩)), (.slice B nb cB), (.slice (some ⟨gC, 0, none⟩) nb cC2), (.agg #[.bool r.b, .slice r.A r.m r.c, .bool r.b', .slice r.A' r.m' r.c']), (.slice (some ⟨hb, 0, none⟩) 1 1), (.slice (some ⟨gQ, 0, none⟩) (nb + 1) cQ), (.agg #[(.slice (some ⟨gP, 0, none⟩) (m + 1) cP), (.slice (some ⟨gQ, 0, none⟩) (nb + 1) cQ)]), (.pointer (some ⟨gp, 2, none⟩)), (.slice C nc cC), (.tuple #[.agg #[.int .i64 kind5, .slice X5 nx5 cX5, .slice Y5 ny5 cY5, .slice R5 nr5 cR5, .bool bn5, .slice EA5 en5 ec5, .bool bn5', .slice EB5 en5' ed5], .int .i64 0]), (.agg #[.int .i64 kind5, .slice X5 nx5 cX5, .slice Y5 ny5 cY5, .slice R5 nr5 cR5, .bool bn5, .slice EA5 en5 ec5, .bool bn5', .slice EB5 en5' ed5]), (.int .i64 0), u92, u93, u94, u95, u96, u97, u98, u99, u100, u101, u102, u103, u104, u105, u106, u107, u108, u109, u110, u111, u112, u113, u114, u115, u116, u117, u118, u119, u120, u121, u122, u123, u124, u125, u126, u127, u128, u129, u130, u131, u132, u133], []⟩ W := by
  subst hls
  have cx0 := cx
  obtain ⟨hS9, hUC, hUB, hUI, hul, hm, hBN, hnb, hRV, hMin, hOut⟩ := cx0
  refine wpAnyH_ready (rs := [19]) (by kernel_rfl) (by simp) ?_
  refine (AllReadyH.cons ops7t_19 (fun KK hKK => ?_) AllReadyH.nil)
  · go_simp
    have hb5 : Below W.heap.size W (W.alloc (.cells #[.int .i64 0, .slice none 0 0, .slice none 0 0, .slice none 0 0, .bool false, .slice none 0 0, .bool false, .slice none 0 0] 51)) := (Below.refl _ _).alloc (Nat.le_refl _) _
    have hBn := (hB.trans (hb5.mono hB.size))
    refine hKK.out _ _ (hS9.out _ hBn) (fun hHeld => ?_)
    clear hKK KK
    (try simp only [Act.put, List.getElem_toArray, List.getElem_cons_succ, List.getElem_cons_zero, List.setIfInBounds_toArray, List.set_cons_zero, List.set_cons_succ])
    exact st7_APCQMxyz hHeld _ (by kernel_rfl) (hB.trans (hb5.mono hB.size)) (OP.below hb5) (made1 W #[.int .i64 0, .slice none 0 0, .slice none 0 0, .slice none 0 0, .bool false, .slice none 0 0, .bool false, .slice none 0 0] 51) hB.size HPF (HVR.keep (.of_below hb5)) cx

set_option maxRecDepth 100000 in
set_option maxHeartbeats 4000000 in
theorem st7_APCQxyz (hHeld : SX7 gs gp gb m nb nc cA cB cC a0 B C r W) (ls : Array Bool) (hls : ls = #[true, true, true, true, true, true, true, true, true, true, true, true, true, true, true, false, false, false, false, true, false, false]) (hB : Below w9.heap.size w9 W) (OP : OwnL W w9.heap.size (.slice (some ⟨gP, 0, none⟩) (m + 1) cP) (us ++ [(.slice X nx cX)])) (OQ : OwnR W w9.heap.size (.slice (some ⟨gQ, 0, none⟩) (nb + 1) cQ) (rs ++ [r])) (VQ : ValL 2 W (fun b => w9.heap.size ≤ b) (rs ++ [r]) f2) (hrl : rs.length = nb) (Ld : Loc W hd 51 #[.int .i64 0, .slice none 0 0, .slice none 0 0, .slice none 0 0, .bool false, .slice none 0 0, .bool false, .slice none 0 0]) (hld : w9.heap.size ≤ hd) (cx : Cx7 w9 Q gs gp gb m nb nc cA cB cC a0 B C X nx cX r us f2 PF u0 u2 u4 u6 u8 u9 u12 u13 u14 u15 u16 u17 u18 u19 u20 u21 u22 u23 u24 u25 u26 u27 u28 u29 u30 u31 u32 u33 u34 u35 u36 u37 u38 u39 u40 u41 u42 u43 u44 u45 u46 u47 u48 u49 u50 u51 u52 u53 u54 u55 u56 u57 u58 u59 u60 u61 u62 u63 u64 u65 u66 u67 u68 u69 u70 u71 u72 u92 u93 u94 u95 u96 u97 u98 u99 u100 u101 u102 u103 u104 u105 u106 u107 u108 u109 u110 u111 u112 u113 u114 u115 u116 u117 u118 u119 u120 u121 u122 u123 u124 u125 u126 u127 u128 u129 u130 u131 u132 u133) :
    wpAnyH Tryz.prog .any ops7t (NoPanic Q) (SX7 gs gp gb m nb nc cA cB cC a0 B C r) 6 ls ⟨#[u0, (.slice X nx cX), u2, (.pointer (some ⟨gp, 0, none⟩)), u4, (.pointer (some ⟨gb, 0, none⟩)), u6, (.pointer (some ⟨gs, 0, none⟩)), u8, u9, (.pointer (some ⟨hd, 0, none⟩)), u11, u12, u13, u14, u15, u16, u17, u18, u19, u20, u21, u22, u23, u24, u25, u26, u27, u28, u29, u30, u31, u32, u33, u34, u35, u36, u37, u38, u39, u40, u41, u42, u43, u44, u45, u46, u47, u48, u49, u50, u51, u52, u53, u54, u55, u56, u57, u58, u59, u60, u61, u62, u63, u64, u65, u66, u67, u68, u69, u70, u71, u72, u73, (.pointer (some ⟨gs, 0, none⟩)), (.slice (some a0) m cA), (.slice (some ⟨gA, 0, none⟩) m cA2), (.slice X nx cX), (.slice (some ⟨ha, 0, none⟩) 1 1), (.slice (some ⟨gP, 0, none⟩) (m + 1) cP), (.pointer (some ⟨gs, 1, none⟩)), (.slice B nb cB), (.slice (some ⟨gC, 0, none⟩) nb cC2), (.agg #[.bool r.b, .slice r.A r.m r.c, .bool r.b', .slice r.A' r.m' r.c']), (.slice (some ⟨hb, 0, none⟩) 1 1), (.slice (some ⟨gQ, 0, none⟩) (nb + 1) cQ), (.agg #[(.slice (some ⟨gP, 0, none⟩) (m + 1) cP), (.slice (some ⟨gQ, 0, none⟩) (nb + 1) cQ)]), (.pointer (some ⟨gp, 2, none⟩)), (.slice C nc cC), u89, u90, u91, u92, u93, u94, u95, u96, u97, u98, u99, u100, u101, u102, u103, u104, u105, u106, u107, u108, u109, u110, u111, u112, u113, u114, u115, u116, u117, u118, u119, u120, u121, u122, u123, u124, u125, u126, u127, u128, u129, u130, u131, u132, u133], []⟩ W := by
  subst hls
  have cx0 := cx
  obtain ⟨hS9, hUC, hUB, hUI, hul, hm, hBN, hnb, hRV, hMin, hOut⟩ := cx0
  refine wpAnyH_ready (rs := [15]) (by kernel_rfl) (by simp) ?_
  refine (AllReadyH.cons ops7t_15 (fun KK hKK => ?_) AllReadyH.nil)
  · go_simp
    refine (hMin.out W gP cP gQ cQ hB OP (OwnR.more2 OQ hrl VQ)).mono ?_
    rintro e W1 ⟨kind5, X5, Y5, R5, EA5, EB5, nx5, ny5, nr5, cX5, cY5, cR5, en5, ec5, en5', ed5, bn5, bn5', val5, rfl, HPF, HVR, hb5⟩
    (try go_wp2_with fail)
    have hBn := (hB.trans (hb5.mono hB.size))
    refine hKK.out _ _ (hS9.out _ hBn) (fun hHeld => ?_)
    clear hKK KK
    (try simp only [Act.put, List.getElem_toArray, List.getElem_cons_succ, List.getElem_cons_zero, List.setIfInBounds_toArray, List.set_cons_zero, List.set_cons_succ])
    refine wpAnyH_take (i := 16) (v := ?_) ops7t_16 (by kernel_rfl) (by kernel_rfl) (by kernel_rfl) (fun _ _ _ h => h) (Or.inl ⟨by kernel_rfl, ?_⟩) hHeld ?_
    rotate_left 1
    · (intro w hSw; (try dsimp only at hSw); first | (go_simp; done) | (go_simp; with_reducible rfl))
    (try simp only [Act.put, List.getElem_toArray, List.getElem_cons_succ, List.getElem_cons_zero, List.setIfInBounds_toArray, List.set_cons_zero, List.set_cons_succ])
    refine wpAnyH_take (i := 17) (v := ?_) ops7t_17 (by kernel_rfl) (by kernel_rfl) (by kernel_rfl) (fun _ _ _ h => h) (Or.inl ⟨by kernel_rfl, ?_⟩) hHeld ?_
    rotate_left 1
    · (intro w hSw; (try dsimp only at hSw); first | (go_simp; done) | (go_simp; with_reducible rfl))
    (try simp only [Act.put, List.getElem_toArray, List.getElem_cons_succ, List.getElem_cons_zero, List.setIfInBounds_toArray, List.set_cons_zero, List.set_cons_succ])
    refine wpAnyH_take (i := 18) (v := ?_) ops7t_18 (by kernel_rfl) (by kernel_rfl) (by kernel_rfl) (fun _ _ _ h => h) (Or.inl ⟨by kernel_rfl, ?_⟩) hHeld ?_
    rotate_left 1
    · (intro w hSw; (try dsimp only at hSw); first | (go_simp; done) | (go_simp; with_reducible rfl))
    (try simp only [Act.put, List.getElem_toArray, List.getElem_cons_succ, List.getElem_cons_zero, List.setIfInBounds_toArray, List.set_cons_zero, List.set_cons_succ])
    exact st7_APCQMxyz hHeld _ (by kernel_rfl) (hB.trans (hb5.mono hB.size)) (OP.below hb5) (Ld.below hb5) hld HPF HVR cx

set_option maxRecDepth 100000 in
set_option maxHeartbeats 4000000 in
theorem st7_APCQxy (hHeld : SX7 gs gp gb m nb nc cA cB cC a0 B C r W) (ls : Array Bool) (hls : ls = #[true, true, true, true, true, true, true, true, true, true, true, true, true, true, true, false, false, false, false, false, false, false]) (hB : Below w9.heap.size w9 W) (OP : OwnL W w9.heap.size (.slice (some ⟨gP, 0, none⟩) (m + 1) cP) (us ++ [(.slice X nx cX)])) (OQ : OwnR W w9.heap.size (.slice (some ⟨gQ, 0, none⟩) (nb + 1) cQ) (rs ++ [r])) (VQ : ValL 2 W (fun b => w9.heap.size ≤ b) (rs ++ [r]) f2) (hrl : rs.length = nb) (cx : Cx7 w9 Q gs gp gb m nb nc cA cB cC a0 B C X nx cX r us f2 PF u0 u2 u4 u6 u8 u9 u12 u13 u14 u15 u16 u17 u18 u19 u20 u21 u22 u23 u24 u25 u26 u27 u28 u29 u30 u31 u32 u33 u34 u35 u36 u37 u38 u39 u40 u41 u42 u43 u44 u45 u46 u47 u48 u49 u50 u51 u52 u53 u54 u55 u56 u57 u58 u59 u60 u61 u62 u63 u64 u65 u66 u67 u68 u69 u70 u71 u72 u92 u93 u94 u95 u96 u97 u98 u99 u100 u101 u102 u103 u104 u105 u106 u107 u108 u109 u110 u111 u112 u113 u114 u115 u116 u117 u118 u119 u120 u121 u122 u123 u124 u125 u126 u127 u128 u129 u130 u131 u132 u133) :
    wpAnyH Tryz.prog .any ops7t (NoPanic Q) (SX7 gs gp gb m nb nc cA cB cC a0 B C r) 7 ls ⟨#[u0, (.slice X nx cX), u2, (.pointer (some ⟨gp, 0, none⟩)), u4, (.pointer (some ⟨gb, 0, none⟩)), u6, (.pointer (some ⟨gs, 0, none⟩)), u8, u9, u10, u11, u12, u13, u14, u15, u16, u17, u18, u19, u20, u21, u22, u23, u24, u25, u26, u27, u28, u29, u30, u31, u32, u33, u34, u35, u36, u37, u38, u39, u40, u41, u42, u43, u44, u45, u46, u47, u48, u49, u50, u51, u52, u53, u54, u55, u56, u57, u58, u59, u60, u61, u62, u63, u64, u65, u66, u67, u68, u69, u70, u71, u72, u73, (.pointer (some ⟨gs, 0, none⟩)), (.slice (some a0) m cA), (.slice (some ⟨gA, 0, none⟩) m cA2), (.slice X nx cX), (.slice (some ⟨ha, 0, none⟩) 1 1), (.slice (some ⟨gP, 0, none⟩) (m + 1) cP), (.pointer (some ⟨gs, 1, none⟩)), (.slice B nb cB), (.slice (some ⟨gC, 0, none⟩) nb cC2), (.agg #[.bool r.b, .slice r.A r.m r.c, .bool r.b', .slice r.A' r.m' r.c']), (.slice (some ⟨hb, 0, none⟩) 1 1), (.slice (some ⟨gQ, 0, none⟩) (nb + 1) cQ), (.agg #[(.slice (some ⟨gP, 0, none⟩) (m + 1) cP), (.slice (some ⟨gQ, 0, none⟩) (nb + 1) cQ)]), (.pointer (some ⟨gp, 2, none⟩)), (.slice C nc cC), u89, u90, u91, u92, u93, u94, u95, u96, u97, u98, u99, u100, u101, u102, u103, u104, u105, u106, u107, u108, u109, u110, u111, u112, u113, u114, u115, u116, u117, u118, u119, u120, u121, u122, u123, u124, u125, u126, u127, u128, u129, u130, u131, u132, u133], []⟩ W := by
  subst hls
  have cx0 := cx
  obtain ⟨hS9, hUC, hUB, hUI, hul, hm, hBN, hnb, hRV, hMin, hOut⟩ := cx0
  refine wpAnyH_ready (rs := [15, 19]) (by kernel_rfl) (by simp) ?_
  refine (AllReadyH.cons ops7t_15 (fun KK hKK => ?_) (AllReadyH.cons ops7t_19 (fun KK hKK => ?_) AllReadyH.nil))
  · go_simp
    refine (hMin.out W gP cP gQ cQ hB OP (OwnR.more2 OQ hrl VQ)).mono ?_
    rintro e W1 ⟨kind5, X5, Y5, R5, EA5, EB5, nx5, ny5, nr5, cX5, cY5, cR5, en5, ec5, en5', ed5, bn5, bn5', val5, rfl, HPF, HVR, hb5⟩
    (try go_wp2_with fail)
    have hBn := (hB.trans (hb5.mono hB.size))
    refine hKK.out _ _ (hS9.out _ hBn) (fun hHeld => ?_)
    clear hKK KK
    (try simp only [Act.put, List.getElem_toArray, List.getElem_cons_succ, List.getElem_cons_zero, List.setIfInBounds_toArray, List.set_cons_zero, List.set_cons_succ])
    refine wpAnyH_take (i := 16) (v := ?_) ops7t_16 (by kernel_rfl) (by kernel_rfl) (by kernel_rfl) (fun _ _ _ h => h) (Or.inl ⟨by kernel_rfl, ?_⟩) hHeld ?_
    rotate_left 1
    · (intro w hSw; (try dsimp only at hSw); first | (go_simp; done) | (go_simp; with_reducible rfl))
    (try simp only [Act.put, List.getElem_toArray, List.getElem_cons_succ, List.getElem_cons_zero, List.setIfInBounds_toArray, List.set_cons_zero, List.set_cons_succ])
    refine wpAnyH_take (i := 17) (v := ?_) ops7t_17 (by kernel_rfl) (by kernel_rfl) (by kernel_rfl) (fun _ _ _ h => h) (Or.inl ⟨by kernel_rfl, ?_⟩) hHeld ?_
    rotate_left 1
    · (intro w hSw; (try dsimp only at hSw); first | (go_simp; done) | (go_simp; with_reducible rfl))
    (try simp only [Act.put, List.getElem_toArray, List.getElem_cons_succ, List.getElem_cons_zero, List.setIfInBounds_toArray, List.set_cons_zero, List.set_cons_succ])
    refine wpAnyH_take (i := 18) (v := ?_) ops7t_18 (by kernel_rfl) (by kernel_rfl) (by kernel_rfl) (fun _ _ _ h => h) (Or.inl ⟨by kernel_rfl, ?_⟩) hHeld ?_
    rotate_left 1
    · (intro w hSw; (try dsimp only at hSw); first | (go_simp; done) | (go_simp; with_reducible rfl))
    (try simp only [Act.put, List.getElem_toArray, List.getElem_cons_succ, List.getElem_cons_zero, List.setIfInBounds_toArray, List.set_cons_zero, List.set_cons_succ])
    exact st7_APCQMxy hHeld _ (by kernel_rfl) (hB.trans (hb5.mono hB.size)) (OP.below hb5) HPF HVR cx
  · go_simp
    have hb5 : Below W.heap.size W (W.alloc (.cells #[.int .i64 0, .slice none 0 0, .slice none 0 0, .slice none 0 0, .bool false, .slice none 0 0, .bool false, .slice none 0 0] 51)) := (Below.refl _ _).alloc (Nat.le_refl _) _
    have hBn := (hB.trans (hb5.mono hB.size))
    refine hKK.out _ _ (hS9.out _ hBn) (fun hHeld => ?_)
    clear hKK KK
    (try simp only [Act.put, List.getElem_toArray, List.getElem_cons_succ, List.getElem_cons_zero, List.setIfInBounds_toArray, List.set_cons_zero, List.set_cons_succ])
    exact st7_APCQxyz hHeld _ (by kernel_rfl) (hB.trans (hb5.mono hB.size)) (OP.below hb5) (OQ.below hb5) (VQ.keep (.of_below hb5)) hrl (made1 W #[.int .i64 0, .slice none 0 0, .slice none 0 0, .slice none 0 0, .bool false, .slice none 0 0, .bool false, .slice none 0 0] 51) hB.size cx

set_option maxRecDepth 100000 in
set_option maxHeartbeats 4000000 in
theorem st7_APCxyz (hHeld : SX7 gs gp gb m nb nc cA cB cC a0 B C r W) (ls : Array Bool) (hls : ls = #[true, true, true, true, true, true, true, true, true, true, true, false, false, true, true, false, false, false, false, true, false, false]) (hB : Below w9.heap.size w9 W) (OP : OwnL W w9.heap.size (.slice (some ⟨gP, 0, none⟩) (m + 1) cP) (us ++ [(.slice X nx cX)])) (OC : OwnR W w9.heap.size (.slice (some ⟨gC, 0, none⟩) nb cC2) rs) (VC : ValL 2 W (fun b => w9.heap.size ≤ b) rs f2) (hrl : rs.length = nb) (Lb : Loc W hb 44 #[.bool r.b, .slice r.A r.m r.c, .bool r.b', .slice r.A' r.m' r.c']) (Ld : Loc W hd 51 #[.int .i64 0, .slice none 0 0, .slice none 0 0, .slice none 0 0, .bool false, .slice none 0 0, .bool false, .slice none 0 0]) (hld : w9.heap.size ≤ hd) (cx : Cx7 w9 Q gs gp gb m nb nc cA cB cC a0 B C X nx cX r us f2 PF u0 u2 u4 u6 u8 u9 u12 u13 u14 u15 u16 u17 u18 u19 u20 u21 u22 u23 u24 u25 u26 u27 u28 u29 u30 u31 u32 u33 u34 u35 u36 u37 u38 u39 u40 u41 u42 u43 u44 u45 u46 u47 u48 u49 u50 u51 u52 u53 u54 u55 u56 u57 u58 u59 u60 u61 u62 u63 u64 u65 u66 u67 u68 u69 u70 u71 u72 u92 u93 u94 u95 u96 u97 u98 u99 u100 u101 u102 u103 u104 u105 u106 u107 u108 u109 u110 u111 u112 u113 u114 u115 u116 u117 u118 u119 u120 u121 u122 u123 u124 u125 u126 u127 u128 u129 u130 u131 u132 u133) :
    wpAnyH Tryz.prog .any ops7t (NoPanic Q) (SX7 gs gp gb m nb nc cA cB cC a0 B C r) 8 ls ⟨#[u0, (.slice X nx cX), u2, (.pointer (some ⟨gp, 0, none⟩)), u4, (.pointer (some ⟨gb, 0, none⟩)), u6, (.pointer (some ⟨gs, 0, none⟩)), u8, u9, (.pointer (some ⟨hd, 0, none⟩)), u11, u12, u13, u14, u15, u16, u17, u18, u19, u20, u21, u22, u23, u24, u25, u26, u27, u28, u29, u30, u31, u32, u33, u34, u35, u36, u37, u38, u39, u40, u41, u42, u43, u44, u45, u46, u47, u48, u49, u50, u51, u52, u53, u54, u55, u56, u57, u58, u59, u60, u61, u62, u63, u64, u65, u66, u67, u68, u69, u70, u71, u72, u73, (.pointer (some ⟨gs, 0, none⟩)), (.slice (some a0) m cA), (.slice (some ⟨gA, 0, none⟩) m cA2), (.slice X nx cX), (.slice (some ⟨ha, 0, none⟩) 1 1), (.slice (some ⟨gP, 0, none⟩) (m + 1) cP), (.pointer (some ⟨gs, 1, none⟩)), (.slice B nb cB), (.slice (some ⟨gC, 0, none⟩) nb cC2), (.agg #[.bool r.b, .slice r.A r.m r.c, .bool r.b', .slice r.A' r.m' r.c']), (.slice (some ⟨hb, 0, none⟩) 1 1), u85, u86, (.pointer (some ⟨gp, 2, none⟩)), (.slice C nc cC), u89, u90, u91, u92, u93, u94, u95, u96, u97, u98, u99, u100, u101, u102, u103, u104, u105, u106, u107, u108, u109, u110, u111, u112, u113, u114, u115, u116, u117, u118, u119, u120, u121, u122, u123, u124, u125, u126, u127, u128, u129, u130, u131, u132, u133], []⟩ W := by
  subst hls
  have cx0 := cx
  obtain ⟨hS9, hUC, hUB, hUI, hul, hm, hBN, hnb, hRV, hMin, hOut⟩ := cx0
  refine wpAnyH_ready (rs := [11]) (by kernel_rfl) (by simp) ?_
  refine (AllReadyH.cons ops7t_11 (fun KK hKK => ?_) AllReadyH.nil)
  · refine step_pushR _ rfl _ _ rfl w9.heap.size (.slice (some ⟨gC, 0, none⟩) nb cC2) rs (by rfl) OC hb r (by rfl) Lb (by have := hnb.out.2; omega) hB.size ?_
    intro gQ cQ W1 hO hg5 hw5 hl5
    rw [hrl] at hO ⊢
    have hBn := (below_own hB OC hg5 (Nat.le_refl _) hB.size)
    refine hKK.out _ _ (hS9.out _ hBn) (fun hHeld => ?_)
    clear hKK KK
    (try simp only [Act.put, List.getElem_toArray, List.getElem_cons_succ, List.getElem_cons_zero, List.setIfInBounds_toArray, List.set_cons_zero, List.set_cons_succ])
    refine wpAnyH_take (i := 12) (v := ?_) ops7t_12 (by kernel_rfl) (by kernel_rfl) (by kernel_rfl) (fun _ _ _ h => h) (Or.inl ⟨by kernel_rfl, ?_⟩) hHeld ?_
    rotate_left 1
    · (intro w hSw; (try dsimp only at hSw); first | (go_simp; done) | (go_simp; with_reducible rfl))
    (try simp only [Act.put, List.getElem_toArray, List.getElem_cons_succ, List.getElem_cons_zero, List.setIfInBounds_toArray, List.set_cons_zero, List.set_cons_succ])
    exact st7_APCQxyz hHeld _ (by kernel_rfl) (below_own hB OC hg5 (Nat.le_refl _) hB.size) (own_other OC hg5 OP (by decide)) hO (val_grow OC hg5 (VC.push (by rw [hrl]; exact hRV.out _ hB))) hrl (loc_other OC hg5 Ld (by decide)) hld cx

set_option maxRecDepth 100000 in
set_option maxHeartbeats 4000000 in
theorem st7_APCxy (hHeld : SX7 gs gp gb m nb nc cA cB cC a0 B C r W) (ls : Array Bool) (hls : ls = #[true, true, true, true, true, true, true, true, true, true, true, false, false, true, true, false, false, false, false, false, false, false]) (hB : Below w9.heap.size w9 W) (OP : OwnL W w9.heap.size (.slice (some ⟨gP, 0, none⟩) (m + 1) cP) (us ++ [(.slice X nx cX)])) (OC : OwnR W w9.heap.size (.slice (some ⟨gC, 0, none⟩) nb cC2) rs) (VC : ValL 2 W (fun b => w9.heap.size ≤ b) rs f2) (hrl : rs.length = nb) (Lb : Loc W hb 44 #[.bool r.b, .slice r.A r.m r.c, .bool r.b', .slice r.A' r.m' r.c']) (cx : Cx7 w9 Q gs gp gb m nb nc cA cB cC a0 B C X nx cX r us f2 PF u0 u2 u4 u6 u8 u9 u12 u13 u14 u15 u16 u17 u18 u19 u20 u21 u22 u23 u24 u25 u26 u27 u28 u29 u30 u31 u32 u33 u34 u35 u36 u37 u38 u39 u40 u41 u42 u43 u44 u45 u46 u47 u48 u49 u50 u51 u52 u53 u54 u55 u56 u57 u58 u59 u60 u61 u62 u63 u64 u65 u66 u67 u68 u69 u70 u71 u72 u92 u93 u94 u95 u96 u97 u98 u99 u100 u101 u102 u103 u104 u105 u106 u107 u108 u109 u110 u111 u112 u113 u114 u115 u116 u117 u118 u119 u120 u121 u122 u123 u124 u125 u126 u127 u128 u129 u130 u131 u132 u133) :
    wpAnyH Tryz.prog .any ops7t (NoPanic Q) (SX7 gs gp gb m nb nc cA cB cC a0 B C r) 9 ls ⟨#[u0, (.slice X nx cX), u2, (.pointer (some ⟨gp, 0, none⟩)), u4, (.pointer (some ⟨gb, 0, none⟩)), u6, (.pointer (some ⟨gs, 0, none⟩)), u8, u9, u10, u11, u12, u13, u14, u15, u16, u17, u18, u19, u20, u21, u22, u23, u24, u25, u26, u27, u28, u29, u30, u31, u32, u33, u34, u35, u36, u37, u38, u39, u40, u41, u42, u43, u44, u45, u46, u47, u48, u49, u50, u51, u52, u53, u54, u55, u56, u57, u58, u59, u60, u61, u62, u63, u64, u65, u66, u67, u68, u69, u70, u71, u72, u73, (.pointer (some ⟨gs, 0, none⟩)), (.slice (some a0) m cA), (.slice (some ⟨gA, 0, none⟩) m cA2), (.slice X nx cX), (.slice (some ⟨ha, 0, none⟩) 1 1), (.slice (some ⟨gP, 0, none⟩) (m + 1) cP), (.pointer (some ⟨gs, 1, none⟩)), (.slice B nb cB), (.slice (some ⟨gC, 0, none⟩) nb cC2), (.agg #[.bool r.b, .slice r.A r.m r.c, .bool r.b', .slice r.A' r.m' r.c']), (.slice (some ⟨hb, 0, none⟩) 1 1), u85, u86, (.pointer (some ⟨gp, 2, none⟩)), (.slice C nc cC), u89, u90, u91, u92, u93, u94, u95, u96, u97, u98, u99, u100, u101, u102, u103, u104, u105, u106, u107, u108, u109, u110, u111, u112, u113, u114, u115, u116, u117, u118, u119, u120, u121, u122, u123, u124, u125, u126, u127, u128, u129, u130, u131, u132, u133], []⟩ W := by
  subst hls
  have cx0 := cx
  obtain ⟨hS9, hUC, hUB, hUI, hul, hm, hBN, hnb, hRV, hMin, hOut⟩ := cx0
  refine wpAnyH_ready (rs := [11, 19]) (by kernel_rfl) (by simp) ?_
  refine (AllReadyH.cons ops7t_11 (fun KK hKK => ?_) (AllReadyH.cons ops7t_19 (fun KK hKK => ?_) AllReadyH.nil))
  · refine step_pushR _ rfl _ _ rfl w9.heap.size (.slice (some ⟨gC, 0, none⟩) nb cC2) rs (by rfl) OC hb r (by rfl) Lb (by have := hnb.out.2; omega) hB.size ?_
    intro gQ cQ W1 hO hg5 hw5 hl5
    rw [hrl] at hO ⊢
    have hBn := (below_own hB OC hg5 (Nat.le_refl _) hB.size)
    refine hKK.out _ _ (hS9.out _ hBn) (fun hHeld => ?_)
    clear hKK KK
    (try simp only [Act.put, List.getElem_toArray, List.getElem_cons_succ, List.getElem_cons_zero, List.setIfInBounds_toArray, List.set_cons_zero, List.set_cons_succ])
    refine wpAnyH_take (i := 12) (v := ?_) ops7t_12 (by kernel_rfl) (by kernel_rfl) (by kernel_rfl) (fun _ _ _ h => h) (Or.inl ⟨by kernel_rfl, ?_⟩) hHeld ?_
    rotate_left 1
    · (intro w hSw; (try dsimp only at hSw); first | (go_simp; done) | (go_simp; with_reducible rfl))
    (try simp only [Act.put, List.getElem_toArray, List.getElem_cons_succ, List.getElem_cons_zero, List.setIfInBounds_toArray, List.set_cons_zero, List.set_cons_succ])
    exact st7_APCQxy hHeld _ (by kernel_rfl) (below_own hB OC hg5 (Nat.le_refl _) hB.size) (own_other OC hg5 OP (by decide)) hO (val_grow OC hg5 (VC.push (by rw [hrl]; exact hRV.out _ hB))) hrl cx
  · go_simp
    have hb5 : Below W.heap.size W (W.alloc (.cells #[.int .i64 0, .slice none 0 0, .slice none 0 0, .slice none 0 0, .bool false, .slice none 0 0, .bool false, .slice none 0 0] 51)) := (Below.refl _ _).alloc (Nat.le_refl _) _
    have hBn := (hB.trans (hb5.mono hB.size))
    refine hKK.out _ _ (hS9.out _ hBn) (fun hHeld => ?_)
    clear hKK KK
    (try simp only [Act.put, List.getElem_toArray, List.getElem_cons_succ, List.getElem_cons_zero, List.setIfInBounds_toArray, List.set_cons_zero, List.set_cons_succ])
    exact st7_APCxyz hHeld _ (by kernel_rfl) (hB.trans (hb5.mono hB.size)) (OP.below hb5) (OC.below hb5) (VC.keep (.of_below hb5)) hrl (Lb.below hb5) (made1 W #[.int .i64 0, .slice none 0 0, .slice none 0 0, .slice none 0 0, .bool false, .slice none 0 0, .bool false, .slice none 0 0] 51) hB.size cx

set_option maxRecDepth 100000 in
set_option maxHeartbeats 4000000 in
theorem st7_APCxz (hHeld : SX7 gs gp gb m nb nc cA cB cC a0 B C r W) (ls : Array Bool) (hls : ls = #[true, true, true, true, true, true, true, true, true, true, false, false, false, true, true, false, false, false, false, true, false, false]) (hB : Below w9.heap.size w9 W) (OP : OwnL W w9.heap.size (.slice (some ⟨gP, 0, none⟩) (m + 1) cP) (us ++ [(.slice X nx cX)])) (OC : OwnR W w9.heap.size (.slice (some ⟨gC, 0, none⟩) nb cC2) rs) (VC : ValL 2 W (fun b => w9.heap.size ≤ b) rs f2) (hrl : rs.length = nb) (Ld : Loc W hd 51 #[.int .i64 0, .slice none 0 0, .slice none 0 0, .slice none 0 0, .bool false, .slice none 0 0, .bool false, .slice none 0 0]) (hld : w9.heap.size ≤ hd) (cx : Cx7 w9 Q gs gp gb m nb nc cA cB cC a0 B C X nx cX r us f2 PF u0 u2 u4 u6 u8 u9 u12 u13 u14 u15 u16 u17 u18 u19 u20 u21 u22 u23 u24 u25 u26 u27 u28 u29 u30 u31 u32 u33 u34 u35 u36 u37 u38 u39 u40 u41 u42 u43 u44 u45 u46 u47 u48 u49 u50 u51 u52 u53 u54 u55 u56 u57 u58 u59 u60 u61 u62 u63 u64 u65 u66 u67 u68 u69 u70 u71 u72 u92 u93 u94 u95 u96 u97 u98 u99 u100 u101 u102 u103 u104 u105 u106 u107 u108 u109 u110 u111 u112 u113 u114 u115 u116 u117 u118 u119 u120 u121 u122 u123 u124 u125 u126 u127 u128 u129 u130 u131 u132 u133) :
    wpAnyH Tryz.prog .any ops7t (NoPanic Q) (SX7 gs gp gb m nb nc cA cB cC a0 B C r) 9 ls ⟨#[u0, (.slice X nx cX), u2, (.pointer (some ⟨gp, 0, none⟩)), u4, (.pointer (some ⟨gb, 0, none⟩)), u6, (.pointer (some ⟨gs, 0, none⟩)), u8, u9, (.pointer (some ⟨hd, 0, none⟩)), u11, u12, u13, u14, u15, u16, u17, u18, u19, u20, u21, u22, u23, u24, u25, u26, u27, u28, u29, u30, u31, u32, u33, u34, u35, u36, u37, u38, u39, u40, u41, u42, u43, u44, u45, u46, u47, u48, u49, u50, u51, u52, u53, u54, u55, u56, u57, u58, u59, u60, u61, u62, u63, u64, u65, u66, u67, u68, u69, u70, u71, u72, u73, (.pointer (some ⟨gs, 0, none⟩)), (.slice (some a0) m cA), (.slice (some ⟨gA, 0, none⟩) m cA2), (.slice X nx cX), (.slice (some ⟨ha, 0, none⟩) 1 1), (.slice (some ⟨gP, 0, none⟩) (m + 1) cP), (.pointer (some ⟨gs, 1, none⟩)), (.slice B nb cB), (.slice (some ⟨gC, 0, none⟩) nb cC2), (.agg #[.bool r.b, .slice r.A r.m r.c, .bool r.b', .slice r.A' r.m' r.c']), u84, u85, u86, (.pointer (some ⟨gp, 2, none⟩)), (.slice C nc cC), u89, u90, u91, u92, u93, u94, u95, u96, u97, u98, u99, u100, u101, u102, u103, u104, u105, u106, u107, u108, u109, u110, u111, u112, u113, u114, u115, u116, u117, u118, u119, u120, u121, u122, u123, u124, u125, u126, u127, u128, u129, u130, u131, u132, u133], []⟩ W := by
  subst hls
  have cx0 := cx
  obtain ⟨hS9, hUC, hUB, hUI, hul, hm, hBN, hnb, hRV, hMin, hOut⟩ := cx0
  refine wpAnyH_ready (rs := [10]) (by kernel_rfl) (by simp) ?_
  refine (AllReadyH.cons ops7t_10 (fun KK hKK => ?_) AllReadyH.nil)
  · go_simp
    have hb5 : Below W.heap.size W (W.alloc (.cells #[.bool r.b, .slice r.A r.m r.c, .bool r.b', .slice r.A' r.m' r.c'] 44)) := (Below.refl _ _).alloc (Nat.le_refl _) _
    have hBn := (hB.trans (hb5.mono hB.size))
    refine hKK.out _ _ (hS9.out _ hBn) (fun hHeld => ?_)
    clear hKK KK
    (try simp only [Act.put, List.getElem_toArray, List.getElem_cons_succ, List.getElem_cons_zero, List.setIfInBounds_toArray, List.set_cons_zero, List.set_cons_succ])
    exact st7_APCxyz hHeld _ (by kernel_rfl) (hB.trans (hb5.mono hB.size)) (OP.below hb5) (OC.below hb5) (VC.keep (.of_below hb5)) hrl (made1 W #[.bool r.b, .slice r.A r.m r.c, .bool r.b', .slice r.A' r.m' r.c'] 44) (Ld.below hb5) hld cx

set_option maxRecDepth 100000 in
set_option maxHeartbeats 4000000 in
theorem st7_APxyz (hHeld : SX7 gs gp gb m nb nc cA cB cC a0 B C r W) (ls : Array Bool) (hls : ls = #[true, true, true, true, true, true, true, true, false, true, true, false, false, true, true, false, false, false, false, true, false, false]) (hB : Below w9.heap.size w9 W) (OP : OwnL W w9.heap.size (.slice (some ⟨gP, 0, none⟩) (m + 1) cP) (us ++ [(.slice X nx cX)])) (Lb : Loc W hb 44 #[.bool r.b, .slice r.A r.m r.c, .bool r.b', .slice r.A' r.m' r.c']) (Ld : Loc W hd 51 #[.int .i64 0, .slice none 0 0, .slice none 0 0, .slice none 0 0, .bool false, .slice none 0 0, .bool false, .slice none 0 0]) (hld : w9.heap.size ≤ hd) (cx : Cx7 w9 Q gs gp gb m nb nc cA cB cC a0 B C X nx cX r us f2 PF u0 u2 u4 u6 u8 u9 u12 u13 u14 u15 u16 u17 u18 u19 u20 u21 u22 u23 u24 u25 u26 u27 u28 u29 u30 u31 u32 u33 u34 u35 u36 u37 u38 u39 u40 u41 u42 u43 u44 u45 u46 u47 u48 u49 u50 u51 u52 u53 u54 u55 u56 u57 u58 u59 u60 u61 u62 u63 u64 u65 u66 u67 u68 u69 u70 u71 u72 u92 u93 u94 u95 u96 u97 u98 u99 u100 u101 u102 u103 u104 u105 u106 u107 u108 u109 u110 u111 u112 u113 u114 u115 u116 u117 u118 u119 u120 u121 u122 u123 u124 u125 u126 u127 u128 u129 u130 u131 u132 u133) :
    wpAnyH Tryz.prog .any ops7t (NoPanic Q) (SX7 gs gp gb m nb nc cA cB cC a0 B C r) 9 ls ⟨#[u0, (.slice X nx cX), u2, (.pointer (some ⟨gp, 0, none⟩)), u4, (.pointer (some ⟨gb, 0, none⟩)), u6, (.pointer (some ⟨gs, 0, none⟩)), u8, u9, (.pointer (some ⟨hd, 0, none⟩)), u11, u12, u13, u14, u15, u16, u17, u18, u19, u20, u21, u22, u23, u24, u25, u26, u27, u28, u29, u30, u31, u32, u33, u34, u35, u36, u37, u38, u39, u40, u41, u42, u43, u44, u45, u46, u47, u48, u49, u50, u51, u52, u53, u54, u55, u56, u57, u58, u59, u60, u61, u62, u63, u64, u65, u66, u67, u68, u69, u70, u71, u72, u73, (.pointer (some ⟨gs, 0, none⟩)), (.slice (some a0) m cA), (.slice (some ⟨gA, 0, none⟩) m cA2), (.slice X nx cX), (.slice (some ⟨ha, 0, none⟩) 1 1), (.slice (some ⟨gP, 0, none⟩) (m + 1) cP), (.pointer (some ⟨gs, 1, none⟩)), (.slice B nb cB), u82, (.agg #[.bool r.b, .slice r.A r.m r.c, .bool r.b', .slice r.A' r.m' r.c']), (.slice (some ⟨hb, 0, none⟩) 1 1), u85, u86, (.pointer (some ⟨gp, 2, none⟩)), (.slice C nc cC), u89, u90, u91, u92, u93, u94, u95, u96, u97, u98, u99, u100, u101, u102, u103, u104, u105, u106, u107, u108, u109, u110, u111, u112, u113, u114, u115, u116, u117, u118, u119, u120, u121, u122, u123, u124, u125, u126, u127, u128, u129, u130, u131, u132, u133], []⟩ W := by
  subst hls
  have cx0 := cx
  obtain ⟨hS9, hUC, hUB, hUI, hul, hm, hBN, hnb, hRV, hMin, hOut⟩ := cx0
  refine wpAnyH_ready (rs := [8]) (by kernel_rfl) (by simp) ?_
  refine (AllReadyH.cons ops7t_8 (fun KK hKK => ?_) AllReadyH.nil)
  · go_simp
    refine (cloneRX_any _ (fun b => w9.heap.size ≤ b) _ nb 2 f2 (hBN.out _ hB) hnb.out.1 (by have := hnb.out.2; omega)).mono ?_
    rintro e W1 ⟨gC, cC2, rs, rfl, hO, hrl, hV, hb5⟩
    (try go_wp2_with fail)
    have hBn := (hB.trans (hb5.mono hB.size))
    refine hKK.out _ _ (hS9.out _ hBn) (fun hHeld => ?_)
    clear hKK KK
    (try simp only [Act.put, List.getElem_toArray, List.getElem_cons_succ, List.getElem_cons_zero, List.setIfInBounds_toArray, List.set_cons_zero, List.set_cons_succ])
    exact st7_APCxyz hHeld _ (by kernel_rfl) (hB.trans (hb5.mono hB.size)) (OP.below hb5) (own_mono hO hB.size) hV hrl (Lb.below hb5) (Ld.below hb5) hld cx

set_option maxRecDepth 100000 in
set_option maxHeartbeats 4000000 in
theorem st7_APCx (hHeld : SX7 gs gp gb m nb nc cA cB cC a0 B C r W) (ls : Array Bool) (hls : ls = #[true, true, true, true, true, true, true, true, true, true, false, false, false, true, true, false, false, false, false, false, false, false]) (hB : Below w9.heap.size w9 W) (OP : OwnL W w9.heap.size (.slice (some ⟨gP, 0, none⟩) (m + 1) cP) (us ++ [(.slice X nx cX)])) (OC : OwnR W w9.heap.size (.slice (some ⟨gC, 0, none⟩) nb cC2) rs) (VC : ValL 2 W (fun b => w9.heap.size ≤ b) rs f2) (hrl : rs.length = nb) (cx : Cx7 w9 Q gs gp gb m nb nc cA cB cC a0 B C X nx cX r us f2 PF u0 u2 u4 u6 u8 u9 u12 u13 u14 u15 u16 u17 u18 u19 u20 u21 u22 u23 u24 u25 u26 u27 u28 u29 u30 u31 u32 u33 u34 u35 u36 u37 u38 u39 u40 u41 u42 u43 u44 u45 u46 u47 u48 u49 u50 u51 u52 u53 u54 u55 u56 u57 u58 u59 u60 u61 u62 u63 u64 u65 u66 u67 u68 u69 u70 u71 u72 u92 u93 u94 u95 u96 u97 u98 u99 u100 u101 u102 u103 u104 u105 u106 u107 u108 u109 u110 u111 u112 u113 u114 u115 u116 u117 u118 u119 u120 u121 u122 u123 u124 u125 u126 u127 u128 u129 u130 u131 u132 u133) :
    wpAnyH Tryz.prog .any ops7t (NoPanic Q) (SX7 gs gp gb m nb nc cA cB cC a0 B C r) 10 ls ⟨#[u0, (.slice X nx cX), u2, (.pointer (some ⟨gp, 0, none⟩)), u4, (.pointer (some ⟨gb, 0, none⟩)), u6, (.pointer (some ⟨gs, 0, none⟩)), u8, u9, u10, u11, u12, u13, u14, u15, u16, u17, u18, u19, u20, u21, u22, u23, u24, u25, u26, u27, u28, u29, u30, u31, u32, u33, u34, u35, u36, u37, u38, u39, u40, u41, u42, u43, u44, u45, u46, u47, u48, u49, u50, u51, u52, u53, u54, u55, u56, u57, u58, u59, u60, u61, u62, u63, u64, u65, u66, u67, u68, u69, u70, u71, u72, u73, (.pointer (some ⟨gs, 0, none⟩)), (.slice (some a0) m cA), (.slice (some ⟨gA, 0, none⟩) m cA2), (.slice X nx cX), (.slice (some ⟨ha, 0, none⟩) 1 1), (.slice (some ⟨gP, 0, none⟩) (m + 1) cP), (.pointer (some ⟨gs, 1, none⟩)), (.slice B nb cB), (.slice (some ⟨gC, 0, none⟩) nb cC2), (.agg #[.bool r.b, .slice r.A r.m r.c, .bool r.b', .slice r.A' r.m' r.c']), u84, u85, u86, (.pointer (some ⟨gp, 2, none⟩)), (.slice C nc cC), u89, u90, u91, u92, u93, u94, u95, u96, u97, u98, u99, u100, u101, u102, u103, u104, u105, u106, u107, u108, u109, u110, u111, u112, u113, u114, u115, u116, u117, u118, u119, u120, u121, u122, u123, u124, u125, u126, u127, u128, u129, u130, u131, u132, u133], []⟩ W := by
  subst hls
  have cx0 := cx
  obtain ⟨hS9, hUC, hUB, hUI, hul, hm, hBN, hnb, hRV, hMin, hOut⟩ := cx0
  refine wpAnyH_ready (rs := [10, 19]) (by kernel_rfl) (by simp) ?_
  refine (AllReadyH.cons ops7t_10 (fun KK hKK => ?_) (AllReadyH.cons ops7t_19 (fun KK hKK => ?_) AllReadyH.nil))
  · go_simp
    have hb5 : Below W.heap.size W (W.alloc (.cells #[.bool r.b, .slice r.A r.m r.c, .bool r.b', .slice r.A' r.m' r.c'] 44)) := (Below.refl _ _).alloc (Nat.le_refl _) _
    have hBn := (hB.trans (hb5.mono hB.size))
    refine hKK.out _ _ (hS9.out _ hBn) (fun hHeld => ?_)
    clear hKK KK
    (try simp only [Act.put, List.getElem_toArray, List.getElem_cons_succ, List.getElem_cons_zero, List.setIfInBounds_toArray, List.set_cons_zero, List.set_cons_succ])
    exact st7_APCxy hHeld _ (by kernel_rfl) (hB.trans (hb5.mono hB.size)) (OP.below hb5) (OC.below hb5) (VC.keep (.of_below hb5)) hrl (made1 W #[.bool r.b, .slice r.A r.m r.c, .bool r.b', .slice r.A' r.m' r.c'] 44) cx
  · go_simp
    have hb5 : Below W.heap.size W (W.alloc (.cells #[.int .i64 0, .slice none 0 0, .slice none 0 0, .slice none 0 0, .bool false, .slice none 0 0, .bool false, .slice none 0 0] 51)) := (Below.refl _ _).alloc (Nat.le_refl _) _
    have hBn := (hB.trans (hb5.mono hB.size))
    refine hKK.out _ _ (hS9.out _ hBn) (fun hHeld => ?_)
    clear hKK KK
    (try simp only [Act.put, List.getElem_toArray, List.getElem_cons_succ, List.getElem_cons_zero, List.setIfInBounds_toArray, List.set_cons_zero, List.set_cons_succ])
    exact st7_APCxz hHeld _ (by kernel_rfl) (hB.trans (hb5.mono hB.size)) (OP.below hb5) (OC.below hb5) (VC.keep (.of_below hb5)) hrl (made1 W #[.int .i64 0, .slice none 0 0, .slice none 0 0, .slice none 0 0, .bool false, .slice none 0 0, .bool false, .slice none 0 0] 51) hB.size cx

set_option maxRecDepth 100000 in
set_option maxHeartbeats 4000000 in
theorem st7_APxy (hHeld : SX7 gs gp gb m nb nc cA cB cC a0 B C r W) (ls : Array Bool) (hls : ls = #[true, true, true, true, true, true, true, true, false, true, true, false, false, true, true, false, false, false, false, false, false, false]) (hB : Below w9.heap.size w9 W) (OP : OwnL W w9.heap.size (.slice (some ⟨gP, 0, none⟩) (m + 1) cP) (us ++ [(.slice X nx cX)])) (Lb : Loc W hb 44 #[.bool r.b, .slice r.A r.m r.c, .bool r.b', .slice r.A' r.m' r.c']) (cx : Cx7 w9 Q gs gp gb m nb nc cA cB cC a0 B C X nx cX r us f2 PF u0 u2 u4 u6 u8 u9 u12 u13 u14 u15 u16 u17 u18 u19 u20 u21 u22 u23 u24 u25 u26 u27 u28 u29 u30 u31 u32 u33 u34 u35 u36 u37 u38 u39 u40 u41 u42 u43 u44 u45 u46 u47 u48 u49 u50 u51 u52 u53 u54 u55 u56 u57 u58 u59 u60 u61 u62 u63 u64 u65 u66 u67 u68 u69 u70 u71 u72 u92 u93 u94 u95 u96 u97 u98 u99 u100 u101 u102 u103 u104 u105 u106 u107 u108 u109 u110 u111 u112 u113 u114 u115 u116 u117 u118 u119 u120 u121 u122 u123 u124 u125 u126 u127 u128 u129 u130 u131 u132 u133) :
    wpAnyH Tryz.prog .any ops7t (NoPanic Q) (SX7 gs gp gb m nb nc cA cB cC a0 B C r) 10 ls ⟨#[u0, (.slice X nx cX), u2, (.pointer (some ⟨gp, 0, none⟩)), u4, (.pointer (some ⟨gb, 0, none⟩)), u6, (.pointer (some ⟨gs, 0, none⟩)), u8, u9, u10, u11, u12, u13, u14, u15, u16, u17, u18, u19, u20, u21, u22, u23, u24, u25, u26, u27, u28, u29, u30, u31, u32, u33, u34, u35, u36, u37, u38, u39, u40, u41, u42, u43, u44, u45, u46, u47, u48, u49, u50, u51, u52, u53, u54, u55, u56, u57, u58, u59, u60, u61, u62, u63, u64, u65, u66, u67, u68, u69, u70, u71, u72, u73, (.pointer (some ⟨gs, 0, none⟩)), (.slice (some a0) m cA), (.slice (some ⟨gA, 0, none⟩) m cA2), (.slice X nx cX), (.slice (some ⟨ha, 0, none⟩) 1 1), (.slice (some ⟨gP, 0, none⟩) (m + 1) cP), (.pointer (some ⟨gs, 1, none⟩)), (.slice B nb cB), u82, (.agg #[.bool r.b, .slice r.A r.m r.c, .bool r.b', .slice r.A' r.m' r.c']), (.slice (some ⟨hb, 0, none⟩) 1 1), u85, u86, (.pointer (some ⟨gp, 2, none⟩)), (.slice C nc cC), u89, u90, u91, u92, u93, u94, u95, u96, u97, u98, u99, u100, u101, u102, u103, u104, u105, u106, u107, u108, u109, u110, u111, u112, u113, u114, u115, u116, u117, u118, u119, u120, u121, u122, u123, u124, u125, u126, u127, u128, u129, u130, u131, u132, u133], []⟩ W := by
  subst hls
  have cx0 := cx
  obtain ⟨hS9, hUC, hUB, hUI, hul, hm, hBN, hnb, hRV, hMin, hOut⟩ := cx0
  refine wpAnyH_ready (rs := [8, 19]) (by kernel_rfl) (by simp) ?_
  refine (AllReadyH.cons ops7t_8 (fun KK hKK => ?_) (AllReadyH.cons ops7t_19 (fun KK hKK => ?_) AllReadyH.nil))
  · go_simp
    refine (cloneRX_any _ (fun b => w9.heap.size ≤ b) _ nb 2 f2 (hBN.out _ hB) hnb.out.1 (by have := hnb.out.2; omega)).mono ?_
    rintro e W1 ⟨gC, cC2, rs, rfl, hO, hrl, hV, hb5⟩
    (try go_wp2_with fail)
    have hBn := (hB.trans (hb5.mono hB.size))
    refine hKK.out _ _ (hS9.out _ hBn) (fun hHeld => ?_)
    clear hKK KK
    (try simp only [Act.put, List.getElem_toArray, List.getElem_cons_succ, List.getElem_cons_zero, List.setIfInBounds_toArray, List.set_cons_zero, List.set_cons_succ])
    exact st7_APCxy hHeld _ (by kernel_rfl) (hB.trans (hb5.mono hB.size)) (OP.below hb5) (own_mono hO hB.size) hV hrl (Lb.below hb5) cx
  · go_simp
    have hb5 : Below W.heap.size W (W.alloc (.cells #[.int .i64 0, .slice none 0 0, .slice none 0 0, .slice none 0 0, .bool false, .slice none 0 0, .bool false, .slice none 0 0] 51)) := (Below.refl _ _).alloc (Nat.le_refl _) _
    have hBn := (hB.trans (hb5.mono hB.size))
    refine hKK.out _ _ (hS9.out _ hBn) (fun hHeld => ?_)
    clear hKK KK
    (try simp only [Act.put, List.getElem_toArray, List.getElem_cons_succ, List.getElem_cons_zero, List.setIfInBounds_toArray, List.set_cons_zero, List.set_cons_succ])
    exact st7_APxyz hHeld _ (by kernel_rfl) (hB.trans (hb5.mono hB.size)) (OP.below hb5) (Lb.below hb5) (made1 W #[.int .i64 0, .slice none 0 0, .slice none 0 0, .slice none 0 0, .bool false, .slice none 0 0, .bool false, .slice none 0 0] 51) hB.size cx

set_option maxRecDepth 100000 in
set_option maxHeartbeats 4000000 in
theorem st7_APxz (hHeld : SX7 gs gp gb m nb nc cA cB cC a0 B C r W) (ls : Array Bool) (hls : ls = #[true, true, true, true, true, true, true, true, false, true, false, false, false, true, true, false, false, false, false, true, false, false]) (hB : Below w9.heap.size w9 W) (OP : OwnL W w9.heap.size (.slice (some ⟨gP, 0, none⟩) (m + 1) cP) (us ++ [(.slice X nx cX)])) (Ld : Loc W hd 51 #[.int .i64 0, .slice none 0 0, .slice none 0 0, .slice none 0 0, .bool false, .slice none 0 0, .bool false, .slice none 0 0]) (hld : w9.heap.size ≤ hd) (cx : Cx7 w9 Q gs gp gb m nb nc cA cB cC a0 B C X nx cX r us f2 PF u0 u2 u4 u6 u8 u9 u12 u13 u14 u15 u16 u17 u18 u19 u20 u21 u22 u23 u24 u25 u26 u27 u28 u29 u30 u31 u32 u33 u34 u35 u36 u37 u38 u39 u40 u41 u42 u43 u44 u45 u46 u47 u48 u49 u50 u51 u52 u53 u54 u55 u56 u57 u58 u59 u60 u61 u62 u63 u64 u65 u66 u67 u68 u69 u70 u71 u72 u92 u93 u94 u95 u96 u97 u98 u99 u100 u101 u102 u103 u104 u105 u106 u107 u108 u109 u110 u111 u112 u113 u114 u115 u116 u117 u118 u119 u120 u121 u122 u123 u124 u125 u126 u127 u128 u129 u130 u131 u132 u133) :
    wpAnyH Tryz.prog .any ops7t (NoPanic Q) (SX7 gs gp gb m nb nc cA cB cC a0 B C r) 10 ls ⟨#[u0, (.slice X nx cX), u2, (.pointer (some ⟨gp, 0, none⟩)), u4, (.pointer (some ⟨gb, 0, none⟩)), u6, (.pointer (some ⟨gs, 0, none⟩)), u8, u9, (.pointer (some ⟨hd, 0, none⟩)), u11, u12, u13, u14, u15, u16, u17, u18, u19, u20, u21, u22, u23, u24, u25, u26, u27, u28, u29, u30, u31, u32, u33, u34, u35, u36, u37, u38, u39, u40, u41, u42, u43, u44, u45, u46, u47, u48, u49, u50, u51, u52, u53, u54, u55, u56, u57, u58, u59, u60, u61, u62, u63, u64, u65, u66, u67, u68, u69, u70, u71, u72, u73, (.pointer (some ⟨gs, 0, none⟩)), (.slice (some a0) m cA), (.slice (some ⟨gA, 0, none⟩) m cA2), (.slice X nx cX), (.slice (some ⟨ha, 0, none⟩) 1 1), (.slice (some ⟨gP, 0, none⟩) (m + 1) cP), (.pointer (some ⟨gs, 1, none⟩)), (.slice B nb cB), u82, (.agg #[.bool r.b, .slice r.A r.m r.c, .bool r.b', .slice r.A' r.m' r.c']), u84, u85, u86, (.pointer (some ⟨gp, 2, none⟩)), (.slice C nc cC), u89, u90, u91, u92, u93, u94, u95, u96, u97, u98, u99, u100, u101, u102, u103, u104, u105, u106, u107, u108, u109, u110, u111, u112, u113, u114, u115, u116, u117, u118, u119, u120, u121, u122, u123, u124, u125, u126, u127, u128, u129, u130, u131, u132, u133], []⟩ W := by
  subst hls
  have cx0 := cx
  obtain ⟨hS9, hUC, hUB, hUI, hul, hm, hBN, hnb, hRV, hMin, hOut⟩ := cx0
  refine wpAnyH_ready (rs := [8, 10]) (by kernel_rfl) (by simp) ?_
  refine (AllReadyH.cons ops7t_8 (fun KK hKK => ?_) (AllReadyH.cons ops7t_10 (fun KK hKK => ?_) AllReadyH.nil))
  · go_simp
    refine (cloneRX_any _ (fun b => w9.heap.size ≤ b) _ nb 2 f2 (hBN.out _ hB) hnb.out.1 (by have := hnb.out.2; omega)).mono ?_
    rintro e W1 ⟨gC, cC2, rs, rfl, hO, hrl, hV, hb5⟩
    (try go_wp2_with fail)
    have hBn := (hB.trans (hb5.mono hB.size))
    refine hKK.out _ _ (hS9.out _ hBn) (fun hHeld => ?_)
    clear hKK KK
    (try simp only [Act.put, List.getElem_toArray, List.getElem_cons_succ, List.getElem_cons_zero, List.setIfInBounds_toArray, List.set_cons_zero, List.set_cons_succ])
    exact st7_APCxz hHeld _ (by kernel_rfl) (hB.trans (hb5.mono hB.size)) (OP.below hb5) (own_mono hO hB.size) hV hrl (Ld.below hb5) hld cx
  · go_simp
    have hb5 : Below W.heap.size W (W.alloc (.cells #[.bool r.b, .slice r.A r.m r.c, .bool r.b', .slice r.A' r.m' r.c'] 44)) := (Below.refl _ _).alloc (Nat.le_refl _) _
    have hBn := (hB.trans (hb5.mono hB.size))
    refine hKK.out _ _ (hS9.out _ hBn) (fun hHeld => ?_)
    clear hKK KK
    (try simp only [Act.put, List.getElem_toArray, List.getElem_cons_succ, List.getElem_cons_zero, List.setIfInBounds_toArray, List.set_cons_zero, List.set_cons_succ])
    exact st7_APxyz hHeld _ (by kernel_rfl) (hB.trans (hb5.mono hB.size)) (OP.below hb5) (made1 W #[.bool r.b, .slice r.A r.m r.c, .bool r.b', .slice r.A' r.m' r.c'] 44) (Ld.below hb5) hld cx

set_option maxRecDepth 100000 in
set_option maxHeartbeats 4000000 in
theorem st7_Axyz (hHeld : SX7 gs gp gb m nb nc cA cB cC a0 B C r W) (ls : Array Bool) (hls : ls = #[true, true, true, true, true, false, true, true, false, true, true, false, false, true, true, false, false, false, false, true, false, false]) (hB : Below w9.heap.size w9 W) (La : Loc W ha 23 #[(.slice X nx cX)]) (OA : OwnL W w9.heap.size (.slice (some ⟨gA, 0, none⟩) m cA2) us) (Lb : Loc W hb 44 #[.bool r.b, .slice r.A r.m r.c, .bool r.b', .slice r.A' r.m' r.c']) (Ld : Loc W hd 51 #[.int .i64 0, .slice none 0 0, .slice none 0 0, .slice none 0 0, .bool false, .slice none 0 0, .bool false, .slice none 0 0]) (hld : w9.heap.size ≤ hd) (cx : Cx7 w9 Q gs gp gb m nb nc cA cB cC a0 B C X nx cX r us f2 PF u0 u2 u4 u6 u8 u9 u12 u13 u14 u15 u16 u17 u18 u19 u20 u21 u22 u23 u24 u25 u26 u27 u28 u29 u30 u31 u32 u33 u34 u35 u36 u37 u38 u39 u40 u41 u42 u43 u44 u45 u46 u47 u48 u49 u50 u51 u52 u53 u54 u55 u56 u57 u58 u59 u60 u61 u62 u63 u64 u65 u66 u67 u68 u69 u70 u71 u72 u92 u93 u94 u95 u96 u97 u98 u99 u100 u101 u102 u103 u104 u105 u106 u107 u108 u109 u110 u111 u112 u113 u114 u115 u116 u117 u118 u119 u120 u121 u122 u123 u124 u125 u126 u127 u128 u129 u130 u131 u132 u133) :
    wpAnyH Tryz.prog .any ops7t (NoPanic Q) (SX7 gs gp gb m nb nc cA cB cC a0 B C r) 10 ls ⟨#[u0, (.slice X nx cX), u2, (.pointer (some ⟨gp, 0, none⟩)), u4, (.pointer (some ⟨gb, 0, none⟩)), u6, (.pointer (some ⟨gs, 0, none⟩)), u8, u9, (.pointer (some ⟨hd, 0, none⟩)), u11, u12, u13, u14, u15, u16, u17, u18, u19, u20, u21, u22, u23, u24, u25, u26, u27, u28, u29, u30, u31, u32, u33, u34, u35, u36, u37, u38, u39, u40, u41, u42, u43, u44, u45, u46, u47, u48, u49, u50, u51, u52, u53, u54, u55, u56, u57, u58, u59, u60, u61, u62, u63, u64, u65, u66, u67, u68, u69, u70, u71, u72, u73, (.pointer (some ⟨gs, 0, none⟩)), (.slice (some a0) m cA), (.slice (some ⟨gA, 0, none⟩) m cA2), (.slice X nx cX), (.slice (some ⟨ha, 0, none⟩) 1 1), u79, (.pointer (some ⟨gs, 1, none⟩)), (.slice B nb cB), u82, (.agg #[.bool r.b, .slice r.A r.m r.c, .bool r.b', .slice r.A' r.m' r.c']), (.slice (some ⟨hb, 0, none⟩) 1 1), u85, u86, (.pointer (some ⟨gp, 2, none⟩)), (.slice C nc cC), u89, u90, u91, u92, u93, u94, u95, u96, u97, u98, u99, u100, u101, u102, u103, u104, u105, u106, u107, u108, u109, u110, u111, u112, u113, u114, u115, u116, u117, u118, u119, u120, u121, u122, u123, u124, u125, u126, u127, u128, u129, u130, u131, u132, u133], []⟩ W := by
  subst hls
  have cx0 := cx
  obtain ⟨hS9, hUC, hUB, hUI, hul, hm, hBN, hnb, hRV, hMin, hOut⟩ := cx0
  refine wpAnyH_ready (rs := [5]) (by kernel_rfl) (by simp) ?_
  refine (AllReadyH.cons ops7t_5 (fun KK hKK => ?_) AllReadyH.nil)
  · refine step_pushL _ rfl _ _ rfl w9.heap.size (.slice (some ⟨gA, 0, none⟩) m cA2) us rfl OA ⟨ha, 0, none⟩ 1 1 (m + 1) [(.slice X nx cX)] rfl rfl (by rw [hul.out]) (fun j u hu => World.news_of_block La j u (by simpa using hu)) (fun u hu => by simp at hu; exact ⟨_, _, _, hu⟩) (by decide) (by have := hm.out.2; omega) hB.size ?_
    intro gP cP W1 hO hg5 hw5 hl5
    have hBn := (below_own hB OA hg5 (Nat.le_refl _) hB.size)
    refine hKK.out _ _ (hS9.out _ hBn) (fun hHeld => ?_)
    clear hKK KK
    (try simp only [Act.put, List.getElem_toArray, List.getElem_cons_succ, List.getElem_cons_zero, List.setIfInBounds_toArray, List.set_cons_zero, List.set_cons_succ])
    exact st7_APxyz hHeld _ (by kernel_rfl) (below_own hB OA hg5 (Nat.le_refl _) hB.size) hO (loc_other OA hg5 Lb (by decide)) (loc_other OA hg5 Ld (by decide)) hld cx

set_option maxRecDepth 100000 in
set_option maxHeartbeats 4000000 in
theorem st7_APx (hHeld : SX7 gs gp gb m nb nc cA cB cC a0 B C r W) (ls : Array Bool) (hls : ls = #[true, true, true, true, true, true, true, true, false, true, false, false, false, true, true, false, false, false, false, false, false, false]) (hB : Below w9.heap.size w9 W) (OP : OwnL W w9.heap.size (.slice (some ⟨gP, 0, none⟩) (m + 1) cP) (us ++ [(.slice X nx cX)])) (cx : Cx7 w9 Q gs gp gb m nb nc cA cB cC a0 B C X nx cX r us f2 PF u0 u2 u4 u6 u8 u9 u12 u13 u14 u15 u16 u17 u18 u19 u20 u21 u22 u23 u24 u25 u26 u27 u28 u29 u30 u31 u32 u33 u34 u35 u36 u37 u38 u39 u40 u41 u42 u43 u44 u45 u46 u47 u48 u49 u50 u51 u52 u53 u54 u55 u56 u57 u58 u59 u60 u61 u62 u63 u64 u65 u66 u67 u68 u69 u70 u71 u72 u92 u93 u94 u95 u96 u97 u98 u99 u100 u101 u102 u103 u104 u105 u106 u107 u108 u109 u110 u111 u112 u113 u114 u115 u116 u117 u118 u119 u120 u121 u122 u123 u124 u125 u126 u127 u128 u129 u130 u131 u132 u133) :
    wpAnyH Tryz.prog .any ops7t (NoPanic Q) (SX7 gs gp gb m nb nc cA cB cC a0 B C r) 11 ls ⟨#[u0, (.slice X nx cX), u2, (.pointer (some ⟨gp, 0, none⟩)), u4, (.pointer (some ⟨gb, 0, none⟩)), u6, (.pointer (some ⟨gs, 0, none⟩)), u8, u9, u10, u11, u12, u13, u14, u15, u16, u17, u18, u19, u20, u21, u22, u23, u24, u25, u26, u27, u28, u29, u30, u31, u32, u33, u34, u35, u36, u37, u38, u39, u40, u41, u42, u43, u44, u45, u46, u47, u48, u49, u50, u51, u52, u53, u54, u55, u56, u57, u58, u59, u60, u61, u62, u63, u64, u65, u66, u67, u68, u69, u70, u71, u72, u73, (.pointer (some ⟨gs, 0, none⟩)), (.slice (some a0) m cA), (.slice (some ⟨gA, 0, none⟩) m cA2), (.slice X nx cX), (.slice (some ⟨ha, 0, none⟩) 1 1), (.slice (some ⟨gP, 0, none⟩) (m + 1) cP), (.pointer (some ⟨gs, 1, none⟩)), (.slice B nb cB), u82, (.agg #[.bool r.b, .slice r.A r.m r.c, .bool r.b', .slice r.A' r.m' r.c']), u84, u85, u86, (.pointer (some ⟨gp, 2, none⟩)), (.slice C nc cC), u89, u90, u91, u92, u93, u94, u95, u96, u97, u98, u99, u100, u101, u102, u103, u104, u105, u106, u107, u108, u109, u110, u111, u112, u113, u114, u115, u116, u117, u118, u119, u120, u121, u122, u123, u124, u125, u126, u127, u128, u129, u130, u131, u132, u133], []⟩ W := by
  subst hls
  have cx0 := cx
  obtain ⟨hS9, hUC, hUB, hUI, hul, hm, hBN, hnb, hRV, hMin, hOut⟩ := cx0
  refine wpAnyH_ready (rs := [8, 10, 19]) (by kernel_rfl) (by simp) ?_
  refine (AllReadyH.cons ops7t_8 (fun KK hKK => ?_) (AllReadyH.cons ops7t_10 (fun KK hKK => ?_) (AllReadyH.cons ops7t_19 (fun KK hKK => ?_) AllReadyH.nil)))
  · go_simp
    refine (cloneRX_any _ (fun b => w9.heap.size ≤ b) _ nb 2 f2 (hBN.out _ hB) hnb.out.1 (by have := hnb.out.2; omega)).mono ?_
    rintro e W1 ⟨gC, cC2, rs, rfl, hO, hrl, hV, hb5⟩
    (try go_wp2_with fail)
    have hBn := (hB.trans (hb5.mono hB.size))
    refine hKK.out _ _ (hS9.out _ hBn) (fun hHeld => ?_)
    clear hKK KK
    (try simp only [Act.put, List.getElem_toArray, List.getElem_cons_succ, List.getElem_cons_zero, List.setIfInBounds_toArray, List.set_cons_zero, List.set_cons_succ])
    exact st7_APCx hHeld _ (by kernel_rfl) (hB.trans (hb5.mono hB.size)) (OP.below hb5) (own_mono hO hB.size) hV hrl cx
  · go_simp
    have hb5 : Below W.heap.size W (W.alloc (.cells #[.bool r.b, .slice r.A r.m r.c, .bool r.b', .slice r.A' r.m' r.c'] 44)) := (Below.refl _ _).alloc (Nat.le_refl _) _
    have hBn := (hB.trans (hb5.mono hB.size))
    refine hKK.out _ _ (hS9.out _ hBn) (fun hHeld => ?_)
    clear hKK KK
    (try simp only [Act.put, List.getElem_toArray, List.getElem_cons_succ, List.getElem_cons_zero, List.setIfInBounds_toArray, List.set_cons_zero, List.set_cons_succ])
    exact st7_APxy hHeld _ (by kernel_rfl) (hB.trans (hb5.mono hB.size)) (OP.below hb5) (made1 W #[.bool r.b, .slice r.A r.m r.c, .bool r.b', .slice r.A' r.m' r.c'] 44) cx
  · go_simp
    have hb5 : Below W.heap.size W (W.alloc (.cells #[.int .i64 0, .slice none 0 0, .slice none 0 0, .slice none 0 0, .bool false, .slice none 0 0, .bool false, .slice none 0 0] 51)) := (Below.refl _ _).alloc (Nat.le_refl _) _
    have hBn := (hB.trans (hb5.mono hB.size))
    refine hKK.out _ _ (hS9.out _ hBn) (fun hHeld => ?_)
    clear hKK KK
    (try simp only [Act.put, List.getElem_toArray, List.getElem_cons_succ, List.getElem_cons_zero, List.setIfInBounds_toArray, List.set_cons_zero, List.set_cons_succ])
    exact st7_APxz hHeld _ (by kernel_rfl) (hB.trans (hb5.mono hB.size)) (OP.below hb5) (made1 W #[.int .i64 0, .slice none 0 0, .slice none 0 0, .slice none 0 0, .bool false, .slice none 0 0, .bool false, .slice none 0 0] 51) hB.size cx

set_option maxRecDepth 100000 in
set_option maxHeartbeats 4000000 in
theorem st7_Axy (hHeld : SX7 gs gp gb m nb nc cA cB cC a0 B C r W) (ls : Array Bool) (hls : ls = #[true, true, true, true, true, false, true, true, false, true, true, false, false, true, true, false, false, false, false, false, false, false]) (hB : Below w9.heap.size w9 W) (La : Loc W ha 23 #[(.slice X nx cX)]) (OA : OwnL W w9.heap.size (.slice (some ⟨gA, 0, none⟩) m cA2) us) (Lb : Loc W hb 44 #[.bool r.b, .slice r.A r.m r.c, .bool r.b', .slice r.A' r.m' r.c']) (cx : Cx7 w9 Q gs gp gb m nb nc cA cB cC a0 B C X nx cX r us f2 PF u0 u2 u4 u6 u8 u9 u12 u13 u14 u15 u16 u17 u18 u19 u20 u21 u22 u23 u24 u25 u26 u27 u28 u29 u30 u31 u32 u33 u34 u35 u36 u37 u38 u39 u40 u41 u42 u43 u44 u45 u46 u47 u48 u49 u50 u51 u52 u53 u54 u55 u56 u57 u58 u59 u60 u61 u62 u63 u64 u65 u66 u67 u68 u69 u70 u71 u72 u92 u93 u94 u95 u96 u97 u98 u99 u100 u101 u102 u103 u104 u105 u106 u107 u108 u109 u110 u111 u112 u113 u114 u115 u116 u117 u118 u119 u120 u121 u122 u123 u124 u125 u126 u127 u128 u129 u130 u131 u132 u133) :
    wpAnyH Tryz.prog .any ops7t (NoPanic Q) (SX7 gs gp gb m nb nc cA cB cC a0 B C r) 11 ls ⟨#[u0, (.slice X nx cX), u2, (.pointer (some ⟨gp, 0, none⟩)), u4, (.pointer (some ⟨gb, 0, none⟩)), u6, (.pointer (some ⟨gs, 0, none⟩)), u8, u9, u10, u11, u12, u13, u14, u15, u16, u17, u18, u19, u20, u21, u22, u23, u24, u25, u26, u27, u28, u29, u30, u31, u32, u33, u34, u35, u36, u37, u38, u39, u40, u41, u42, u43, u44, u45, u46, u47, u48, u49, u50, u51, u52, u53, u54, u55, u56, u57, u58, u59, u60, u61, u62, u63, u64, u65, u66, u67, u68, u69, u70, u71, u72, u73, (.pointer (some ⟨gs, 0, none⟩)), (.slice (some a0) m cA), (.slice (some ⟨gA, 0, none⟩) m cA2), (.slice X nx cX), (.slice (some ⟨ha, 0, none⟩) 1 1), u79, (.pointer (some ⟨gs, 1, none⟩)), (.slice B nb cB), u82, (.agg #[.bool r.b, .slice r.A r.m r.c, .bool r.b', .slice r.A' r.m' r.c']), (.slice (some ⟨hb, 0, none⟩) 1 1), u85, u86, (.pointer (some ⟨gp, 2, none⟩)), (.slice C nc cC), u89, u90, u91, u92, u93, u94, u95, u96, u97, u98, u99, u100, u101, u102, u103, u104, u105, u106, u107, u108, u109, u110, u111, u112, u113, u114, u115, u116, u117, u118, u119, u120, u121, u122, u123, u124, u125, u126, u127, u128, u129, u130, u131, u132, u133], []⟩ W := by
  subst hls
  have cx0 := cx
  obtain ⟨hS9, hUC, hUB, hUI, hul, hm, hBN, hnb, hRV, hMin, hOut⟩ := cx0
  refine wpAnyH_ready (rs := [5, 19]) (by kernel_rfl) (by simp) ?_
  refine (AllReadyH.cons ops7t_5 (fun KK hKK => ?_) (AllReadyH.cons ops7t_19 (fun KK hKK => ?_) AllReadyH.nil))
  · refine step_pushL _ rfl _ _ rfl w9.heap.size (.slice (some ⟨gA, 0, none⟩) m cA2) us rfl OA ⟨ha, 0, none⟩ 1 1 (m + 1) [(.slice X nx cX)] rfl rfl (by rw [hul.out]) (fun j u hu => World.news_of_block La j u (by simpa using hu)) (fun u hu => by simp at hu; exact ⟨_, _, _, hu⟩) (by decide) (by have := hm.out.2; omega) hB.size ?_
    intro gP cP W1 hO hg5 hw5 hl5
    have hBn := (below_own hB OA hg5 (Nat.le_refl _) hB.size)
    refine hKK.out _ _ (hS9.out _ hBn) (fun hHeld => ?_)
    clear hKK KK
    (try simp only [Act.put, List.getElem_toArray, List.getElem_cons_succ, List.getElem_cons_zero, List.setIfInBounds_toArray, List.set_cons_zero, List.set_cons_succ])
    exact st7_APxy hHeld _ (by kernel_rfl) (below_own hB OA hg5 (Nat.le_refl _) hB.size) hO (loc_other OA hg5 Lb (by decide)) cx
  · go_simp
    have hb5 : Below W.heap.size W (W.alloc (.cells #[.int .i64 0, .slice none 0 0, .slice none 0 0, .slice none 0 0, .bool false, .slice none 0 0, .bool false, .slice none 0 0] 51)) := (Below.refl _ _).alloc (Nat.le_refl _) _
    have hBn := (hB.trans (hb5.mono hB.size))
    refine hKK.out _ _ (hS9.out _ hBn) (fun hHeld => ?_)
    clear hKK KK
    (try simp only [Act.put, List.getElem_toArray, List.getElem_cons_succ, List.getElem_cons_zero, List.setIfInBounds_toArray, List.set_cons_zero, List.set_cons_succ])
    exact st7_Axyz hHeld _ (by kernel_rfl) (hB.trans (hb5.mono hB.size)) (La.below hb5) (OA.below hb5) (Lb.below hb5) (made1 W #[.int .i64 0, .slice none 0 0, .slice none 0 0, .slice none 0 0, .bool false, .slice none 0 0, .bool false, .slice none 0 0] 51) hB.size cx

set_option maxRecDepth 100000 in
set_option maxHeartbeats 4000000 in
theorem st7_Axz (hHeld : SX7 gs gp gb m nb nc cA cB cC a0 B C r W) (ls : Array Bool) (hls : ls = #[true, true, true, true, true, false, true, true, false, true, false, false, false, true, true, false, false, false, false, true, false, false]) (hB : Below w9.heap.size w9 W) (La : Loc W ha 23 #[(.slice X nx cX)]) (OA : OwnL W w9.heap.size (.slice (some ⟨gA, 0, none⟩) m cA2) us) (Ld : Loc W hd 51 #[.int .i64 0, .slice none 0 0, .slice none 0 0, .slice none 0 0, .bool false, .slice none 0 0, .bool false, .slice none 0 0]) (hld : w9.heap.size ≤ hd) (cx : Cx7 w9 Q gs gp gb m nb nc cA cB cC a0 B C X nx cX r us f2 PF u0 u2 u4 u6 u8 u9 u12 u13 u14 u15 u16 u17 u18 u19 u20 u21 u22 u23 u24 u25 u26 u27 u28 u29 u30 u31 u32 u33 u34 u35 u36 u37 u38 u39 u40 u41 u42 u43 u44 u45 u46 u47 u48 u49 u50 u51 u52 u53 u54 u55 u56 u57 u58 u59 u60 u61 u62 u63 u64 u65 u66 u67 u68 u69 u70 u71 u72 u92 u93 u94 u95 u96 u97 u98 u99 u100 u101 u102 u103 u104 u105 u106 u107 u108 u109 u110 u111 u112 u113 u114 u115 u116 u117 u118 u119 u120 u121 u122 u123 u124 u125 u126 u127 u128 u129 u130 u131 u132 u133) :
    wpAnyH Tryz.prog .any ops7t (NoPanic Q) (SX7 gs gp gb m nb nc cA cB cC a0 B C r) 11 ls ⟨#[u0, (.slice X nx cX), u2, (.pointer (some ⟨gp, 0, none⟩)), u4, (.pointer (some ⟨gb, 0, none⟩)), u6, (.pointer (some ⟨gs, 0, none⟩)), u8, u9, (.pointer (some ⟨hd, 0, none⟩)), u11, u12, u13, u14, u15, u16, u17, u18, u19, u20, u21, u22, u23, u24, u25, u26, u27, u28, u29, u30, u31, u32, u33, u34, u35, u36, u37, u38, u39, u40, u41, u42, u43, u44, u45, u46, u47, u48, u49, u50, u51, u52, u53, u54, u55, u56, u57, u58, u59, u60, u61, u62, u63, u64, u65, u66, u67, u68, u69, u70, u71, u72, u73, (.pointer (some ⟨gs, 0, none⟩)), (.slice (some a0) m cA), (.slice (some ⟨gA, 0, none⟩) m cA2), (.slice X nx cX), (.slice (some ⟨ha, 0, none⟩) 1 1), u79, (.pointer (some ⟨gs, 1, none⟩)), (.slice B nb cB), u82, (.agg #[.bool r.b, .slice r.A r.m r.c, .bool r.b', .slice r.A' r.m' r.c']), u84, u85, u86, (.pointer (some ⟨gp, 2, none⟩)), (.slice C nc cC), u89, u90, u91, u92, u93, u94, u95, u96, u97, u98, u99, u100, u101, u102, u103, u104, u105, u106, u107, u108, u109, u110, u111, u112, u113, u114, u115, u116, u117, u118, u119, u120, u121, u122, u123, u124, u125, u126, u127, u128, u129, u130, u131, u132, u133], []⟩ W := by
  subst hls
  have cx0 := cx
  obtain ⟨hS9, hUC, hUB, hUI, hul, hm, hBN, hnb, hRV, hMin, hOut⟩ := cx0
  refine wpAnyH_ready (rs := [5, 10]) (by kernel_rfl) (by simp) ?_
  refine (AllReadyH.cons ops7t_5 (fun KK hKK => ?_) (AllReadyH.cons ops7t_10 (fun KK hKK => ?_) AllReadyH.nil))
  · refine step_pushL _ rfl _ _ rfl w9.heap.size (.slice (some ⟨gA, 0, none⟩) m cA2) us rfl OA ⟨ha, 0, none⟩ 1 1 (m + 1) [(.slice X nx cX)] rfl rfl (by rw [hul.out]) (fun j u hu => World.news_of_block La j u (by simpa using hu)) (fun u hu => by simp at hu; exact ⟨_, _, _, hu⟩) (by decide) (by have := hm.out.2; omega) hB.size ?_
    intro gP cP W1 hO hg5 hw5 hl5
    have hBn := (below_own hB OA hg5 (Nat.le_refl _) hB.size)
    refine hKK.out _ _ (hS9.out _ hBn) (fun hHeld => ?_)
    clear hKK KK
    (try simp only [Act.put, List.getElem_toArray, List.getElem_cons_succ, List.getElem_cons_zero, List.setIfInBounds_toArray, List.set_cons_zero, List.set_cons_succ])
    exact st7_APxz hHeld _ (by kernel_rfl) (below_own hB OA hg5 (Nat.le_refl _) hB.size) hO (loc_other OA hg5 Ld (by decide)) hld cx
  · go_simp
    have hb5 : Below W.heap.size W (W.alloc (.cells #[.bool r.b, .slice r.A r.m r.c, .bool r.b', .slice r.A' r.m' r.c'] 44)) := (Below.refl _ _).alloc (Nat.le_refl _) _
    have hBn := (hB.trans (hb5.mono hB.size))
    refine hKK.out _ _ (hS9.out _ hBn) (fun hHeld => ?_)
    clear hKK KK
    (try simp only [Act.put, List.getElem_toArray, List.getElem_cons_succ, List.getElem_cons_zero, List.setIfInBounds_toArray, List.set_cons_zero, List.set_cons_succ])
    exact st7_Axyz hHeld _ (by kernel_rfl) (hB.trans (hb5.mono hB.size)) (La.below hb5) (OA.below hb5) (made1 W #[.bool r.b, .slice r.A r.m r.c, .bool r.b', .slice r.A' r.m' r.c'] 44) (Ld.below hb5) hld cx

set_option maxRecDepth 100000 in
set_option maxHeartbeats 4000000 in
theorem st7_Ayz (hHeld : SX7 gs gp gb m nb nc cA cB cC a0 B C r W) (ls : Array Bool) (hls : ls = #[true, true, true, true, false, false, true, true, false, true, true, false, false, true, true, false, false, false, false, true, false, false]) (hB : Below w9.heap.size w9 W) (OA : OwnL W w9.heap.size (.slice (some ⟨gA, 0, none⟩) m cA2) us) (Lb : Loc W hb 44 #[.bool r.b, .slice r.A r.m r.c, .bool r.b', .slice r.A' r.m' r.c']) (Ld : Loc W hd 51 #[.int .i64 0, .slice none 0 0, .slice none 0 0, .slice none 0 0, .bool false, .slice none 0 0, .bool false, .slice none 0 0]) (hld : w9.heap.size ≤ hd) (cx : Cx7 w9 Q gs gp gb m nb nc cA cB cC a0 B C X nx cX r us f2 PF u0 u2 u4 u6 u8 u9 u12 u13 u14 u15 u16 u17 u18 u19 u20 u21 u22 u23 u24 u25 u26 u27 u28 u29 u30 u31 u32 u33 u34 u35 u36 u37 u38 u39 u40 u41 u42 u43 u44 u45 u46 u47 u48 u49 u50 u51 u52 u53 u54 u55 u56 u57 u58 u59 u60 u61 u62 u63 u64 u65 u66 u67 u68 u69 u70 u71 u72 u92 u93 u94 u95 u96 u97 u98 u99 u100 u101 u102 u103 u104 u105 u106 u107 u108 u109 u110 u111 u112 u113 u114 u115 u116 u117 u118 u119 u120 u121 u122 u123 u124 u125 u126 u127 u128 u129 u130 u131 u132 u133) :
    wpAnyH Tryz.prog .any ops7t (NoPanic Q) (SX7 gs gp gb m nb nc cA cB cC a0 B C r) 11 ls ⟨#[u0, (.slice X nx cX), u2, (.pointer (some ⟨gp, 0, none⟩)), u4, (.pointer (some ⟨gb, 0, none⟩)), u6, (.pointer (some ⟨gs, 0, none⟩)), u8, u9, (.pointer (some ⟨hd, 0, none⟩)), u11, u12, u13, u14, u15, u16, u17, u18, u19, u20, u21, u22, u23, u24, u25, u26, u27, u28, u29, u30, u31, u32, u33, u34, u35, u36, u37, u38, u39, u40, u41, u42, u43, u44, u45, u46, u47, u48, u49, u50, u51, u52, u53, u54, u55, u56, u57, u58, u59, u60, u61, u62, u63, u64, u65, u66, u67, u68, u69, u70, u71, u72, u73, (.pointer (some ⟨gs, 0, none⟩)), (.slice (some a0) m cA), (.slice (some ⟨gA, 0, none⟩) m cA2), (.slice X nx cX), u78, u79, (.pointer (some ⟨gs, 1, none⟩)), (.slice B nb cB), u82, (.agg #[.bool r.b, .slice r.A r.m r.c, .bool r.b', .slice r.A' r.m' r.c']), (.slice (some ⟨hb, 0, none⟩) 1 1), u85, u86, (.pointer (some ⟨gp, 2, none⟩)), (.slice C nc cC), u89, u90, u91, u92, u93, u94, u95, u96, u97, u98, u99, u100, u101, u102, u103, u104, u105, u106, u107, u108, u109, u110, u111, u112, u113, u114, u115, u116, u117, u118, u119, u120, u121, u122, u123, u124, u125, u126, u127, u128, u129, u130, u131, u132, u133], []⟩ W := by
  subst hls
  have cx0 := cx
  obtain ⟨hS9, hUC, hUB, hUI, hul, hm, hBN, hnb, hRV, hMin, hOut⟩ := cx0
  refine wpAnyH_ready (rs := [4]) (by kernel_rfl) (by simp) ?_
  refine (AllReadyH.cons ops7t_4 (fun KK hKK => ?_) AllReadyH.nil)
  · go_simp
    have hb5 : Below W.heap.size W (W.alloc (.cells #[(.slice X nx cX)] 23)) := (Below.refl _ _).alloc (Nat.le_refl _) _
    have hBn := (hB.trans (hb5.mono hB.size))
    refine hKK.out _ _ (hS9.out _ hBn) (fun hHeld => ?_)
    clear hKK KK
    (try simp only [Act.put, List.getElem_toArray, List.getElem_cons_succ, List.getElem_cons_zero, List.setIfInBounds_toArray, List.set_cons_zero, List.set_cons_succ])
    exact st7_Axyz hHeld _ (by kernel_rfl) (hB.trans (hb5.mono hB.size)) (made1 W #[(.slice X nx cX)] 23) (OA.below hb5) (Lb.below hb5) (Ld.below hb5) hld cx

set_option maxRecDepth 100000 in
set_option maxHeartbeats 4000000 in
theorem st7_xyz (hHeld : SX7 gs gp gb m nb nc cA cB cC a0 B C r W) (ls : Array Bool) (hls : ls = #[true, true, false, true, true, false, true, true, false, true, true, false, false, true, true, false, false, false, false, true, false, false]) (hB : Below w9.heap.size w9 W) (La : Loc W ha 23 #[(.slice X nx cX)]) (Lb : Loc W hb 44 #[.bool r.b, .slice r.A r.m r.c, .bool r.b', .slice r.A' r.m' r.c']) (Ld : Loc W hd 51 #[.int .i64 0, .slice none 0 0, .slice none 0 0, .slice none 0 0, .bool false, .slice none 0 0, .bool false, .slice none 0 0]) (hld : w9.heap.size ≤ hd) (cx : Cx7 w9 Q gs gp gb m nb nc cA cB cC a0 B C X nx cX r us f2 PF u0 u2 u4 u6 u8 u9 u12 u13 u14 u15 u16 u17 u18 u19 u20 u21 u22 u23 u24 u25 u26 u27 u28 u29 u30 u31 u32 u33 u34 u35 u36 u37 u38 u39 u40 u41 u42 u43 u44 u45 u46 u47 u48 u49 u50 u51 u52 u53 u54 u55 u56 u57 u58 u59 u60 u61 u62 u63 u64 u65 u66 u67 u68 u69 u70 u71 u72 u92 u93 u94 u95 u96 u97 u98 u99 u100 u101 u102 u103 u104 u105 u106 u107 u108 u109 u110 u111 u112 u113 u114 u115 u116 u117 u118 u119 u120 u121 u122 u123 u124 u125 u126 u127 u128 u129 u130 u131 u132 u133) :
    wpAnyH Tryz.prog .any ops7t (NoPanic Q) (SX7 gs gp gb m nb nc cA cB cC a0 B C r) 11 ls ⟨#[u0, (.slice X nx cX), u2, (.pointer (some ⟨gp, 0, none⟩)), u4, (.pointer (some ⟨gb, 0, none⟩)), u6, (.pointer (some ⟨gs, 0, none⟩)), u8, u9, (.pointer (some ⟨hd, 0, none⟩)), u11, u12, u13, u14, u15, u16, u17, u18, u19, u20, u21, u22, u23, u24, u25, u26, u27, u28, u29, u30, u31, u32, u33, u34, u35, u36, u37, u38, u39, u40, u41, u42, u43, u44, u45, u46, u47, u48, u49, u50, u51, u52, u53, u54, u55, u56, u57, u58, u59, u60, u61, u62, u63, u64, u65, u66, u67, u68, u69, u70, u71, u72, u73, (.pointer (some ⟨gs, 0, none⟩)), (.slice (some a0) m cA), u76, (.slice X nx cX), (.slice (some ⟨ha, 0, none⟩) 1 1), u79, (.pointer (some ⟨gs, 1, none⟩)), (.slice B nb cB), u82, (.agg #[.bool r.b, .slice r.A r.m r.c, .bool r.b', .slice r.A' r.m' r.c']), (.slice (some ⟨hb, 0, none⟩) 1 1), u85, u86, (.pointer (some ⟨gp, 2, none⟩)), (.slice C nc cC), u89, u90, u91, u92, u93, u94, u95, u96, u97, u98, u99, u100, u101, u102, u103, u104, u105, u106, u107, u108, u109, u110, u111, u112, u113, u114, u115, u116, u117, u118, u119, u120, u121, u122, u123, u124, u125, u126, u127, u128, u129, u130, u131, u132, u133], []⟩ W := by
  subst hls
  have cx0 := cx
  obtain ⟨hS9, hUC, hUB, hUI, hul, hm, hBN, hnb, hRV, hMin, hOut⟩ := cx0
  refine wpAnyH_ready (rs := [2]) (by kernel_rfl) (by simp) ?_
  refine (AllReadyH.cons ops7t_2 (fun KK hKK => ?_) AllReadyH.nil)
  · go_simp
    refine (cloneM_any _ a0 cA m us (hUC.out _ hB) (Nat.lt_of_lt_of_le hUB.out hB.size) hul.out hm.out.1 (by have := hm.out.2; omega) hUI.out).mono ?_
    rintro e W1 ⟨gA, cA2, rfl, hO, hb5⟩
    (try go_wp2_with fail)
    have hBn := (hB.trans (hb5.mono hB.size))
    refine hKK.out _ _ (hS9.out _ hBn) (fun hHeld => ?_)
    clear hKK KK
    (try simp only [Act.put, List.getElem_toArray, List.getElem_cons_succ, List.getElem_cons_zero, List.setIfInBounds_toArray, List.set_cons_zero, List.set_cons_succ])
    exact st7_Axyz hHeld _ (by kernel_rfl) (hB.trans (hb5.mono hB.size)) (La.below hb5) (own_mono hO hB.size) (Lb.below hb5) (Ld.below hb5) hld cx

set_option maxRecDepth 100000 in
set_option maxHeartbeats 4000000 in
theorem st7_Ax (hHeld : SX7 gs gp gb m nb nc cA cB cC a0 B C r W) (ls : Array Bool) (hls : ls = #[true, true, true, true, true, false, true, true, false, true, false, false, false, true, true, false, false, false, false, false, false, false]) (hB : Below w9.heap.size w9 W) (La : Loc W ha 23 #[(.slice X nx cX)]) (OA : OwnL W w9.heap.size (.slice (some ⟨gA, 0, none⟩) m cA2) us) (cx : Cx7 w9 Q gs gp gb m nb nc cA cB cC a0 B C X nx cX r us f2 PF u0 u2 u4 u6 u8 u9 u12 u13 u14 u15 u16 u17 u18 u19 u20 u21 u22 u23 u24 u25 u26 u27 u28 u29 u30 u31 u32 u33 u34 u35 u36 u37 u38 u39 u40 u41 u42 u43 u44 u45 u46 u47 u48 u49 u50 u51 u52 u53 u54 u55 u56 u57 u58 u59 u60 u61 u62 u63 u64 u65 u66 u67 u68 u69 u70 u71 u72 u92 u93 u94 u95 u96 u97 u98 u99 u100 u101 u102 u103 u104 u105 u106 u107 u108 u109 u110 u111 u112 u113 u114 u115 u116 u117 u118 u119 u120 u121 u122 u123 u124 u125 u126 u127 u128 u129 u130 u131 u132 u133) :
    wpAnyH Tryz.prog .any ops7t (NoPanic Q) (SX7 gs gp gb m nb nc cA cB cC a0 B C r) 12 ls ⟨#[u0, (.slice X nx cX), u2, (.pointer (some ⟨gp, 0, none⟩)), u4, (.pointer (some ⟨gb, 0, none⟩)), u6, (.pointer (some ⟨gs, 0, none⟩)), u8, u9, u10, u11, u12, u13, u14, u15, u16, u17, u18, u19, u20, u21, u22, u23, u24, u25, u26, u27, u28, u29, u30, u31, u32, u33, u34, u35, u36, u37, u38, u39, u40, u41, u42, u43, u44, u45, u46, u47, u48, u49, u50, u51, u52, u53, u54, u55, u56, u57, u58, u59, u60, u61, u62, u63, u64, u65, u66, u67, u68, u69, u70, u71, u72, u73, (.pointer (some ⟨gs, 0, none⟩)), (.slice (some a0) m cA), (.slice (some ⟨gA, 0, none⟩) m cA2), (.slice X nx cX), (.slice (some ⟨ha, 0, none⟩) 1 1), u79, (.pointer (some ⟨gs, 1, none⟩)), (.slice B nb cB), u82, (.agg #[.bool r.b, .slice r.A r.m r.c, .bool r.b', .slice r.A' r.m' r.c']), u84, u85, u86, (.pointer (some ⟨gp, 2, none⟩)), (.slice C nc cC), u89, u90, u91, u92, u93, u94, u95, u96, u97, u98, u99, u100, u101, u102, u103, u104, u105, u106, u107, u108, u109, u110, u111, u112, u113, u114, u115, u116, u117, u118, u119, u120, u121, u122, u123, u124, u125, u126, u127, u128, u129, u130, u131, u132, u133], []⟩ W := by
  subst hls
  have cx0 := cx
  obtain ⟨hS9, hUC, hUB, hUI, hul, hm, hBN, hnb, hRV, hMin, hOut⟩ := cx0
  refine wpAnyH_ready (rs := [5, 10, 19]) (by kernel_rfl) (by simp) ?_
  refine (AllReadyH.cons ops7t_5 (fun KK hKK => ?_) (AllReadyH.cons ops7t_10 (fun KK hKK => ?_) (AllReadyH.cons ops7t_19 (fun KK hKK => ?_) AllReadyH.nil)))
  · refine step_pushL _ rfl _ _ rfl w9.heap.size (.slice (some ⟨gA, 0, none⟩) m cA2) us rfl OA ⟨ha, 0, none⟩ 1 1 (m + 1) [(.slice X nx cX)] rfl rfl (by rw [hul.out]) (fun j u hu => World.news_of_block La j u (by simpa using hu)) (fun u hu => by simp at hu; exact ⟨_, _, _, hu⟩) (by decide) (by have := hm.out.2; omega) hB.size ?_
    intro gP cP W1 hO hg5 hw5 hl5
    have hBn := (below_own hB OA hg5 (Nat.le_refl _) hB.size)
    refine hKK.out _ _ (hS9.out _ hBn) (fun hHeld => ?_)
    clear hKK KK
    (try simp only [Act.put, List.getElem_toArray, List.getElem_cons_succ, List.getElem_cons_zero, List.setIfInBounds_toArray, List.set_cons_zero, List.set_cons_succ])
    exact st7_APx hHeld _ (by kernel_rfl) (below_own hB OA hg5 (Nat.le_refl _) hB.size) hO cx
  · go_simp
    have hb5 : Below W.heap.size W (W.alloc (.cells #[.bool r.b, .slice r.A r.m r.c, .bool r.b', .slice r.A' r.m' r.c'] 44)) := (Below.refl _ _).alloc (Nat.le_refl _) _
    have hBn := (hB.trans (hb5.mono hB.size))
    refine hKK.out _ _ (hS9.out _ hBn) (fun hHeld => ?_)
    clear hKK KK
    (try simp only [Act.put, List.getElem_toArray, List.getElem_cons_succ, List.getElem_cons_zero, List.setIfInBounds_toArray, List.set_cons_zero, List.set_cons_succ])
    exact st7_Axy hHeld _ (by kernel_rfl) (hB.trans (hb5.mono hB.size)) (La.below hb5) (OA.below hb5) (made1 W #[.bool r.b, .slice r.A r.m r.c, .bool r.b', .slice r.A' r.m' r.c'] 44) cx
  · go_simp
    have hb5 : Below W.heap.size W (W.alloc (.cells #[.int .i64 0, .slice none 0 0, .slice none 0 0, .slice none 0 0, .bool false, .slice none 0 0, .bool false, .slice none 0 0] 51)) := (Below.refl _ _).alloc (Nat.le_refl _) _
    have hBn := (hB.trans (hb5.mono hB.size))
    refine hKK.out _ _ (hS9.out _ hBn) (fun hHeld => ?_)
    clear hKK KK
    (try simp only [Act.put, List.getElem_toArray, List.getElem_cons_succ, List.getElem_cons_zero, List.setIfInBounds_toArray, List.set_cons_zero, List.set_cons_succ])
    exact st7_Axz hHeld _ (by kernel_rfl) (hB.trans (hb5.mono hB.size)) (La.below hb5) (OA.below hb5) (made1 W #[.int .i64 0, .slice none 0 0, .slice none 0 0, .slice none 0 0, .bool false, .slice none 0 0, .bool false, .slice none 0 0] 51) hB.size cx

set_option maxRecDepth 100000 in
set_option maxHeartbeats 4000000 in
theorem st7_Ay (hHeld : SX7 gs gp gb m nb nc cA cB cC a0 B C r W) (ls : Array Bool) (hls : ls = #[true, true, true, true, false, false, true, true, false, true, true, false, false, true, true, false, false, false, false, false, false, false]) (hB : Below w9.heap.size w9 W) (OA : OwnL W w9.heap.size (.slice (some ⟨gA, 0, none⟩) m cA2) us) (Lb : Loc W hb 44 #[.bool r.b, .slice r.A r.m r.c, .bool r.b', .slice r.A' r.m' r.c']) (cx : Cx7 w9 Q gs gp gb m nb nc cA cB cC a0 B C X nx cX r us f2 PF u0 u2 u4 u6 u8 u9 u12 u13 u14 u15 u16 u17 u18 u19 u20 u21 u22 u23 u24 u25 u26 u27 u28 u29 u30 u31 u32 u33 u34 u35 u36 u37 u38 u39 u40 u41 u42 u43 u44 u45 u46 u47 u48 u49 u50 u51 u52 u53 u54 u55 u56 u57 u58 u59 u60 u61 u62 u63 u64 u65 u66 u67 u68 u69 u70 u71 u72 u92 u93 u94 u95 u96 u97 u98 u99 u100 u101 u102 u103 u104 u105 u106 u107 u108 u109 u110 u111 u112 u113 u114 u115 u116 u117 u118 u119 u120 u121 u122 u123 u124 u125 u126 u127 u128 u129 u130 u131 u132 u133) :
    wpAnyH Tryz.prog .any ops7t (NoPanic Q) (SX7 gs gp gb m nb nc cA cB cC a0 B C r) 12 ls ⟨#[u0, (.slice X nx cX), u2, (.pointer (some ⟨gp, 0, none⟩)), u4, (.pointer (some ⟨gb, 0, none⟩)), u6, (.pointer (some ⟨gs, 0, none⟩)), u8, u9, u10, u11, u12, u13, u14, u15, u16, u17, u18, u19, u20, u21, u22, u23, u24, u25, u26, u27, u28, u29, u30, u31, u32, u33, u34, u35, u36, u37, u38, u39, u40, u41, u42, u43, u44, u45, u46, u47, u48, u49, u50, u51, u52, u53, u54, u55, u56, u57, u58, u59, u60, u61, u62, u63, u64, u65, u66, u67, u68, u69, u70, u71, u72, u73, (.pointer (some ⟨gs, 0, none⟩)), (.slice (some a0) m cA), (.slice (some ⟨gA, 0, none⟩) m cA2), (.slice X nx cX), u78, u79, (.pointer (some ⟨gs, 1, none⟩)), (.slice B nb cB), u82, (.agg #[.bool r.b, .slice r.A r.m r.c, .bool r.b', .slice r.A' r.m' r.c']), (.slice (some ⟨hb, 0, none⟩) 1 1), u85, u86, (.pointer (some ⟨gp, 2, none⟩)), (.slice C nc cC), u89, u90, u91, u92, u93, u94, u95, u96, u97, u98, u99, u100, u101, u102, u103, u104, u105, u106, u107, u108, u109, u110, u111, u112, u113, u114, u115, u116, u117, u118, u119, u120, u121, u122, u123, u124, u125, u126, u127, u128, u129, u130, u131, u132, u133], []⟩ W := by
  subst hls
  have cx0 := cx
  obtain ⟨hS9, hUC, hUB, hUI, hul, hm, hBN, hnb, hRV, hMin, hOut⟩ := cx0
  refine wpAnyH_ready (rs := [4, 19]) (by kernel_rfl) (by simp) ?_
  refine (AllReadyH.cons ops7t_4 (fun KK hKK => ?_) (AllReadyH.cons ops7t_19 (fun KK hKK => ?_) AllReadyH.nil))
  · go_simp
    have hb5 : Below W.heap.size W (W.alloc (.cells #[(.slice X nx cX)] 23)) := (Below.refl _ _).alloc (Nat.le_refl _) _
    have hBn := (hB.trans (hb5.mono hB.size))
    refine hKK.out _ _ (hS9.out _ hBn) (fun hHeld => ?_)
    clear hKK KK
    (try simp only [Act.put, List.getElem_toArray, List.getElem_cons_succ, List.getElem_cons_zero, List.setIfInBounds_toArray, List.set_cons_zero, List.set_cons_succ])
    exact st7_Axy hHeld _ (by kernel_rfl) (hB.trans (hb5.mono hB.size)) (made1 W #[(.slice X nx cX)] 23) (OA.below hb5) (Lb.below hb5) cx
  · go_simp
    have hb5 : Below W.heap.size W (W.alloc (.cells #[.int .i64 0, .slice none 0 0, .slice none 0 0, .slice none 0 0, .bool false, .slice none 0 0, .bool false, .slice none 0 0] 51)) := (Below.refl _ _).alloc (Nat.le_refl _) _
    have hBn := (hB.trans (hb5.mono hB.size))
    refine hKK.out _ _ (hS9.out _ hBn) (fun hHeld => ?_)
    clear hKK KK
    (try simp only [Act.put, List.getElem_toArray, List.getElem_cons_succ, List.getElem_cons_zero, List.setIfInBounds_toArray, List.set_cons_zero, List.set_cons_succ])
    exact st7_Ayz hHeld _ (by kernel_rfl) (hB.trans (hb5.mono hB.size)) (OA.below hb5) (Lb.below hb5) (made1 W #[.int .i64 0, .slice none 0 0, .slice none 0 0, .slice none 0 0, .bool false, .slice none 0 0, .bool false, .slice none 0 0] 51) hB.size cx

set_option maxRecDepth 100000 in
set_option maxHeartbeats 4000000 in
theorem st7_Az (hHeld : SX7 gs gp gb m nb nc cA cB cC a0 B C r W) (ls : Array Bool) (hls : ls = #[true, true, true, true, false, false, true, true, false, true, false, false, false, true, true, false, false, false, false, true, false, false]) (hB : Below w9.heap.size w9 W) (OA : OwnL W w9.heap.size (.slice (some ⟨gA, 0, none⟩) m cA2) us) (Ld : Loc W hd 51 #[.int .i64 0, .slice none 0 0, .slice none 0 0, .slice none 0 0, .bool false, .slice none 0 0, .bool false, .slice none 0 0]) (hld : w9.heap.size ≤ hd) (cx : Cx7 w9 Q gs gp gb m nb nc cA cB cC a0 B C X nx cX r us f2 PF u0 u2 u4 u6 u8 u9 u12 u13 u14 u15 u16 u17 u18 u19 u20 u21 u22 u23 u24 u25 u26 u27 u28 u29 u30 u31 u32 u33 u34 u35 u36 u37 u38 u39 u40 u41 u42 u43 u44 u45 u46 u47 u48 u49 u50 u51 u52 u53 u54 u55 u56 u57 u58 u59 u60 u61 u62 u63 u64 u65 u66 u67 u68 u69 u70 u71 u72 u92 u93 u94 u95 u96 u97 u98 u99 u100 u101 u102 u103 u104 u105 u106 u107 u108 u109 u110 u111 u112 u113 u114 u115 u116 u117 u118 u119 u120 u121 u122 u123 u124 u125 u126 u127 u128 u129 u130 u131 u132 u133) :
    wpAnyH Tryz.prog .any ops7t (NoPanic Q) (SX7 gs gp gb m nb nc cA cB cC a0 B C r) 12 ls ⟨#[u0, (.slice X nx cX), u2, (.pointer (some ⟨gp, 0, none⟩)), u4, (.pointer (some ⟨gb, 0, none⟩)), u6, (.pointer (some ⟨gs, 0, none⟩)), u8, u9, (.pointer (some ⟨hd, 0, none⟩)), u11, u12, u13, u14, u15, u16, u17, u18, u19, u20, u21, u22, u23, u24, u25, u26, u27, u28, u29, u30, u31, u32, u33, u34, u35, u36, u37, u38, u39, u40, u41, u42, u43, u44, u45, u46, u47, u48, u49, u50, u51, u52, u53, u54, u55, u56, u57, u58, u59, u60, u61, u62, u63, u64, u65, u66, u67, u68, u69, u70, u71, u72, u73, (.pointer (some ⟨gs, 0, none⟩)), (.slice (some a0) m cA), (.slice (some ⟨gA, 0, none⟩) m cA2), (.slice X nx cX), u78, u79, (.pointer (some ⟨gs, 1, none⟩)), (.slice B nb cB), u82, (.agg #[.bool r.b, .slice r.A r.m r.c, .bool r.b', .slice r.A' r.m' r.c']), u84, u85, u86, (.pointer (some ⟨gp, 2, none⟩)), (.slice C nc cC), u89, u90, u91, u92, u93, u94, u95, u96, u97, u98, u99, u100, u101, u102, u103, u104, u105, u106, u107, u108, u109, u110, u111, u112, u113, u114, u115, u116, u117, u118, u119, u120, u121, u122, u123, u124, u125, u126, u127, u128, u129, u130, u131, u132, u133], []⟩ W := by
  subst hls
  have cx0 := cx
  obtain ⟨hS9, hUC, hUB, hUI, hul, hm, hBN, hnb, hRV, hMin, hOut⟩ := cx0
  refine wpAnyH_ready (rs := [4, 10]) (by kernel_rfl) (by simp) ?_
  refine (AllReadyH.cons ops7t_4 (fun KK hKK => ?_) (AllReadyH.cons ops7t_10 (fun KK hKK => ?_) AllReadyH.nil))
  · go_simp
    have hb5 : Below W.heap.size W (W.alloc (.cells #[(.slice X nx cX)] 23)) := (Below.refl _ _).alloc (Nat.le_refl _) _
    have hBn := (hB.trans (hb5.mono hB.size))
    refine hKK.out _ _ (hS9.out _ hBn) (fun hHeld => ?_)
    clear hKK KK
    (try simp only [Act.put, List.getElem_toArray, List.getElem_cons_succ, List.getElem_cons_zero, List.setIfInBounds_toArray, List.set_cons_zero, List.set_cons_succ])
    exact st7_Axz hHeld _ (by kernel_rfl) (hB.trans (hb5.mono hB.size)) (made1 W #[(.slice X nx cX)] 23) (OA.below hb5) (Ld.below hb5) hld cx
  · go_simp
    have hb5 : Below W.heap.size W (W.alloc (.cells #[.bool r.b, .slice r.A r.m r.c, .bool r.b', .slice r.A' r.m' r.c'] 44)) := (Below.refl _ _).alloc (Nat.le_refl _) _
    have hBn := (hB.trans (hb5.mono hB.size))
    refine hKK.out _ _ (hS9.out _ hBn) (fun hHeld => ?_)
    clear hKK KK
    (try simp only [Act.put, List.getElem_toArray, List.getElem_cons_succ, List.getElem_cons_zero, List.setIfInBounds_toArray, List.set_cons_zero, List.set_cons_succ])
    exact st7_Ayz hHeld _ (by kernel_rfl) (hB.trans (hb5.mono hB.size)) (OA.below hb5) (made1 W #[.bool r.b, .slice r.A r.m r.c, .bool r.b', .slice r.A' r.m' r.c'] 44) (Ld.below hb5) hld cx

set_option maxRecDepth 100000 in
set_option maxHeartbeats 4000000 in
theorem st7_xy (hHeld : SX7 gs gp gb m nb nc cA cB cC a0 B C r W) (ls : Array Bool) (hls : ls = #[true, true, false, true, true, false, true, true, false, true, true, false, false, true, true, false, false, false, false, false, false, false]) (hB : Below w9.heap.size w9 W) (La : Loc W ha 23 #[(.slice X nx cX)]) (Lb : Loc W hb 44 #[.bool r.b, .slice r.A r.m r.c, .bool r.b', .slice r.A' r.m' r.c']) (cx : Cx7 w9 Q gs gp gb m nb nc cA cB cC a0 B C X nx cX r us f2 PF u0 u2 u4 u6 u8 u9 u12 u13 u14 u15 u16 u17 u18 u19 u20 u21 u22 u23 u24 u25 u26 u27 u28 u29 u30 u31 u32 u33 u34 u35 u36 u37 u38 u39 u40 u41 u42 u43 u44 u45 u46 u47 u48 u49 u50 u51 u52 u53 u54 u55 u56 u57 u58 u59 u60 u61 u62 u63 u64 u65 u66 u67 u68 u69 u70 u71 u72 u92 u93 u94 u95 u96 u97 u98 u99 u100 u101 u102 u103 u104 u105 u106 u107 u108 u109 u110 u111 u112 u113 u114 u115 u116 u117 u118 u119 u120 u121 u122 u123 u124 u125 u126 u127 u128 u129 u130 u131 u132 u133) :
    wpAnyH Tryz.prog .any ops7t (NoPanic Q) (SX7 gs gp gb m nb nc cA cB cC a0 B C r) 12 ls ⟨#[u0, (.slice X nx cX), u2, (.pointer (some ⟨gp, 0, none⟩)), u4, (.pointer (some ⟨gb, 0, none⟩)), u6, (.pointer (some ⟨gs, 0, none⟩)), u8, u9, u10, u11, u12, u13, u14, u15, u16, u17, u18, u19, u20, u21, u22, u23, u24, u25, u26, u27, u28, u29, u30, u31, u32, u33, u34, u35, u36, u37, u38, u39, u40, u41, u42, u43, u44, u45, u46, u47, u48, u49, u50, u51, u52, u53, u54, u55, u56, u57, u58, u59, u60, u61, u62, u63, u64, u65, u66, u67, u68, u69, u70, u71, u72, u73, (.pointer (some ⟨gs, 0, none⟩)), (.slice (some a0) m cA), u76, (.slice X nx cX), (.slice (some ⟨ha, 0, none⟩) 1 1), u79, (.pointer (some ⟨gs, 1, none⟩)), (.slice B nb cB), u82, (.agg #[.bool r.b, .slice r.A r.m r.c, .bool r.b', .slice r.A' r.m' r.c']), (.slice (some ⟨hb, 0, none⟩) 1 1), u85, u86, (.pointer (some ⟨gp, 2, none⟩)), (.slice C nc cC), u89, u90, u91, u92, u93, u94, u95, u96, u97, u98, u99, u100, u101, u102, u103, u104, u105, u106, u107, u108, u109, u110, u111, u112, u113, u114, u115, u116, u117, u118, u119, u120, u121, u122, u123, u124, u125, u126, u127, u128, u129, u130, u131, u132, u133], []⟩ W := by
  subst hls
  have cx0 := cx
  obtain ⟨hS9, hUC, hUB, hUI, hul, hm, hBN, hnb, hRV, hMin, hOut⟩ := cx0
  refine wpAnyH_ready (rs := [2, 19]) (by kernel_rfl) (by simp) ?_
  refine (AllReadyH.cons ops7t_2 (fun KK hKK => ?_) (AllReadyH.cons ops7t_19 (fun KK hKK => ?_) AllReadyH.nil))
  · go_simp
    refine (cloneM_any _ a0 cA m us (hUC.out _ hB) (Nat.lt_of_lt_of_le hUB.out hB.size) hul.out hm.out.1 (by have := hm.out.2; omega) hUI.out).mono ?_
    rintro e W1 ⟨gA, cA2, rfl, hO, hb5⟩
    (try go_wp2_with fail)
    have hBn := (hB.trans (hb5.mono hB.size))
    refine hKK.out _ _ (hS9.out _ hBn) (fun hHeld => ?_)
    clear hKK KK
    (try simp only [Act.put, List.getElem_toArray, List.getElem_cons_succ, List.getElem_cons_zero, List.setIfInBounds_toArray, List.set_cons_zero, List.set_cons_succ])
    exact st7_Axy hHeld _ (by kernel_rfl) (hB.trans (hb5.mono hB.size)) (La.below hb5) (own_mono hO hB.size) (Lb.below hb5) cx
  · go_simp
    have hb5 : Below W.heap.size W (W.alloc (.cells #[.int .i64 0, .slice none 0 0, .slice none 0 0, .slice none 0 0, .bool false, .slice none 0 0, .bool false, .slice none 0 0] 51)) := (Below.refl _ _).alloc (Nat.le_refl _) _
    have hBn := (hB.trans (hb5.mono hB.size))
    refine hKK.out _ _ (hS9.out _ hBn) (fun hHeld => ?_)
    clear hKK KK
    (try simp only [Act.put, List.getElem_toArray, List.getElem_cons_succ, List.getElem_cons_zero, List.setIfInBounds_toArray, List.set_cons_zero, List.set_cons_succ])
    exact st7_xyz hHeld _ (by kernel_rfl) (hB.trans (hb5.mono hB.size)) (La.below hb5) (Lb.below hb5) (made1 W #[.int .i64 0, .slice none 0 0, .slice none 0 0, .slice none 0 0, .bool false, .slice none 0 0, .bool false, .slice none 0 0] 51) hB.size cx

set_option maxRecDepth 100000 in
set_option maxHeartbeats 4000000 in
theorem st7_xz (hHeld : SX7 gs gp gb m nb nc cA cB cC a0 B C r W) (ls : Array Bool) (hls : ls = #[true, true, false, true, true, false, true, true, false, true, false, false, false, true, true, false, false, false, false, true, false, false]) (hB : Below w9.heap.size w9 W) (La : Loc W ha 23 #[(.slice X nx cX)]) (Ld : Loc W hd 51 #[.int .i64 0, .slice none 0 0, .slice none 0 0, .slice none 0 0, .bool false, .slice none 0 0, .bool false, .slice none 0 0]) (hld : w9.heap.size ≤ hd) (cx : Cx7 w9 Q gs gp gb m nb nc cA cB cC a0 B C X nx cX r us f2 PF u0 u2 u4 u6 u8 u9 u12 u13 u14 u15 u16 u17 u18 u19 u20 u21 u22 u23 u24 u25 u26 u27 u28 u29 u30 u31 u32 u33 u34 u35 u36 u37 u38 u39 u40 u41 u42 u43 u44 u45 u46 u47 u48 u49 u50 u51 u52 u53 u54 u55 u56 u57 u58 u59 u60 u61 u62 u63 u64 u65 u66 u67 u68 u69 u70 u71 u72 u92 u93 u94 u95 u96 u97 u98 u99 u100 u101 u102 u103 u104 u105 u106 u107 u108 u109 u110 u111 u112 u113 u114 u115 u116 u117 u118 u119 u120 u121 u122 u123 u124 u125 u126 u127 u128 u129 u130 u131 u132 u133) :
    wpAnyH Tryz.prog .any ops7t (NoPanic Q) (SX7 gs gp gb m nb nc cA cB cC a0 B C r) 12 ls ⟨#[u0, (.slice X nx cX), u2, (.pointer (some ⟨gp, 0, none⟩)), u4, (.pointer (some ⟨gb, 0, none⟩)), u6, (.pointer (some ⟨gs, 0, none⟩)), u8, u9, (.pointer (some ⟨hd, 0, none⟩)), u11, u12, u13, u14, u15, u16, u17, u18, u19, u20, u21, u22, u23, u24, u25, u26, u27, u28, u29, u30, u31, u32, u33, u34, u35, u36, u37, u38, u39, u40, u41, u42, u43, u44, u45, u46, u47, u48, u49, u50, u51, u52, u53, u54, u55, u56, u57, u58, u59, u60, u61, u62, u63, u64, u65, u66, u67, u68, u69, u70, u71, u72, u73, (.pointer (some ⟨gs, 0, none⟩)), (.slice (some a0) m cA), u76, (.slice X nx cX), (.slice (some ⟨ha, 0, none⟩) 1 1), u79, (.pointer (some ⟨gs, 1, none⟩)), (.slice B nb cB), u82, (.agg #[.bool r.b, .slice r.A r.m r.c, .bool r.b', .slice r.A' r.m' r.c']), u84, u85, u86, (.pointer (some ⟨gp, 2, none⟩)), (.slice C nc cC), u89, u90, u91, u92, u93, u94, u95, u96, u97, u98, u99, u100, u101, u102, u103, u104, u105, u106, u107, u108, u109, u110, u111, u112, u113, u114, u115, u116, u117, u118, u119, u120, u121, u122, u123, u124, u125, u126, u127, u128, u129, u130, u131, u132, u133], []⟩ W := by
  subst hls
  have cx0 := cx
  obtain ⟨hS9, hUC, hUB, hUI, hul, hm, hBN, hnb, hRV, hMin, hOut⟩ := cx0
  refine wpAnyH_ready (rs := [2, 10]) (by kernel_rfl) (by simp) ?_
  refine (AllReadyH.cons ops7t_2 (fun KK hKK => ?_) (AllReadyH.cons ops7t_10 (fun KK hKK => ?_) AllReadyH.nil))
  · go_simp
    refine (cloneM_any _ a0 cA m us (hUC.out _ hB) (Nat.lt_of_lt_of_le hUB.out hB.size) hul.out hm.out.1 (by have := hm.out.2; omega) hUI.out).mono ?_
    rintro e W1 ⟨gA, cA2, rfl, hO, hb5⟩
    (try go_wp2_with fail)
    have hBn := (hB.trans (hb5.mono hB.size))
    refine hKK.out _ _ (hS9.out _ hBn) (fun hHeld => ?_)
    clear hKK KK
    (try simp only [Act.put, List.getElem_toArray, List.getElem_cons_succ, List.getElem_cons_zero, List.setIfInBounds_toArray, List.set_cons_zero, List.set_cons_succ])
    exact st7_Axz hHeld _ (by kernel_rfl) (hB.trans (hb5.mono hB.size)) (La.below hb5) (own_mono hO hB.size) (Ld.below hb5) hld cx
  · go_simp
    have hb5 : Below W.heap.size W (W.alloc (.cells #[.bool r.b, .slice r.A r.m r.c, .bool r.b', .slice r.A' r.m' r.c'] 44)) := (Below.refl _ _).alloc (Nat.le_refl _) _
    have hBn := (hB.trans (hb5.mono hB.size))
    refine hKK.out _ _ (hS9.out _ hBn) (fun hHeld => ?_)
    clear hKK KK
    (try simp only [Act.put, List.getElem_toArray, List.getElem_cons_succ, List.getElem_cons_zero, List.setIfInBounds_toArray, List.set_cons_zero, List.set_cons_succ])
    exact st7_xyz hHeld _ (by kernel_rfl) (hB.trans (hb5.mono hB.size)) (La.below hb5) (made1 W #[.bool r.b, .slice r.A r.m r.c, .bool r.b', .slice r.A' r.m' r.c'] 44) (Ld.below hb5) hld cx

set_option maxRecDepth 100000 in
set_option maxHeartbeats 4000000 in
theorem st7_yz (hHeld : SX7 gs gp gb m nb nc cA cB cC a0 B C r W) (ls : Array Bool) (hls : ls = #[true, true, false, true, false, false, true, true, false, true, true, false, false, true, true, false, false, false, false, true, false, false]) (hB : Below w9.heap.size w9 W) (Lb : Loc W hb 44 #[.bool r.b, .slice r.A r.m r.c, .bool r.b', .slice r.A' r.m' r.c']) (Ld : Loc W hd 51 #[.int .i64 0, .slice none 0 0, .slice none 0 0, .slice none 0 0, .bool false, .slice none 0 0, .bool false, .slice none 0 0]) (hld : w9.heap.size ≤ hd) (cx : Cx7 w9 Q gs gp gb m nb nc cA cB cC a0 B C X nx cX r us f2 PF u0 u2 u4 u6 u8 u9 u12 u13 u14 u15 u16 u17 u18 u19 u20 u21 u22 u23 u24 u25 u26 u27 u28 u29 u30 u31 u32 u33 u34 u35 u36 u37 u38 u39 u40 u41 u42 u43 u44 u45 u46 u47 u48 u49 u50 u51 u52 u53 u54 u55 u56 u57 u58 u59 u60 u61 u62 u63 u64 u65 u66 u67 u68 u69 u70 u71 u72 u92 u93 u94 u95 u96 u97 u98 u99 u100 u101 u102 u103 u104 u105 u106 u107 u108 u109 u110 u111 u112 u113 u114 u115 u116 u117 u118 u119 u120 u121 u122 u123 u124 u125 u126 u127 u128 u129 u130 u131 u132 u133) :
    wpAnyH Tryz.prog .any ops7t (NoPanic Q) (SX7 gs gp gb m nb nc cA cB cC a0 B C r) 12 ls ⟨#[u0, (.slice X nx cX), u2, (.pointer (some ⟨gp, 0, none⟩)), u4, (.pointer (some ⟨gb, 0, none⟩)), u6, (.pointer (some ⟨gs, 0, none⟩)), u8, u9, (.pointer (some ⟨hd, 0, none⟩)), u11, u12, u13, u14, u15, u16, u17, u18, u19, u20, u21, u22, u23, u24, u25, u26, u27, u28, u29, u30, u31, u32, u33, u34, u35, u36, u37, u38, u39, u40, u41, u42, u43, u44, u45, u46, u47, u48, u49, u50, u51, u52, u53, u54, u55, u56, u57, u58, u59, u60, u61, u62, u63, u64, u65, u66, u67, u68, u69, u70, u71, u72, u73, (.pointer (some ⟨gs, 0, none⟩)), (.slice (some a0) m cA), u76, (.slice X nx cX), u78, u79, (.pointer (some ⟨gs, 1, none⟩)), (.slice B nb cB), u82, (.agg #[.bool r.b, .slice r.A r.m r.c, .bool r.b', .slice r.A' r.m' r.c']), (.slice (some ⟨hb, 0, none⟩) 1 1), u85, u86, (.pointer (some ⟨gp, 2, none⟩)), (.slice C nc cC), u89, u90, u91, u92, u93, u94, u95, u96, u97, u98, u99, u100, u101, u102, u103, u104, u105, u106, u107, u108, u109, u110, u111, u112, u113, u114, u115, u116, u117, u118, u119, u120, u121, u122, u123, u124, u125, u126, u127, u128, u129, u130, u131, u132, u133], []⟩ W := by
  subst hls
  have cx0 := cx
  obtain ⟨hS9, hUC, hUB, hUI, hul, hm, hBN, hnb, hRV, hMin, hOut⟩ := cx0
  refine wpAnyH_ready (rs := [2, 4]) (by kernel_rfl) (by simp) ?_
  refine (AllReadyH.cons ops7t_2 (fun KK hKK => ?_) (AllReadyH.cons ops7t_4 (fun KK hKK => ?_) AllReadyH.nil))
  · go_simp
    refine (cloneM_any _ a0 cA m us (hUC.out _ hB) (Nat.lt_of_lt_of_le hUB.out hB.size) hul.out hm.out.1 (by have := hm.out.2; omega) hUI.out).mono ?_
    rintro e W1 ⟨gA, cA2, rfl, hO, hb5⟩
    (try go_wp2_with fail)
    have hBn := (hB.trans (hb5.mono hB.size))
    refine hKK.out _ _ (hS9.out _ hBn) (fun hHeld => ?_)
    clear hKK KK
    (try simp only [Act.put, List.getElem_toArray, List.getElem_cons_succ, List.getElem_cons_zero, List.setIfInBounds_toArray, List.set_cons_zero, List.set_cons_succ])
    exact st7_Ayz hHeld _ (by kernel_rfl) (hB.trans (hb5.mono hB.size)) (own_mono hO hB.size) (Lb.below hb5) (Ld.below hb5) hld cx
  · go_simp
    have hb5 : Below W.heap.size W (W.alloc (.cells #[(.slice X nx cX)] 23)) := (Below.refl _ _).alloc (Nat.le_refl _) _
    have hBn := (hB.trans (hb5.mono hB.size))
    refine hKK.out _ _ (hS9.out _ hBn) (fun hHeld => ?_)
    clear hKK KK
    (try simp only [Act.put, List.getElem_toArray, List.getElem_cons_succ, List.getElem_cons_zero, List.setIfInBounds_toArray, List.set_cons_zero, List.set_cons_succ])
    exact st7_xyz hHeld _ (by kernel_rfl) (hB.trans (hb5.mono hB.size)) (made1 W #[(.slice X nx cX)] 23) (Lb.below hb5) (Ld.below hb5) hld cx

set_option maxRecDepth 100000 in
set_option maxHeartbeats 4000000 in
theorem st7_A (hHeld : SX7 gs gp gb m nb nc cA cB cC a0 B C r W) (ls : Array Bool) (hls : ls = #[true, true, true, true, false, false, true, true, false, true, false, false, false, true, true, false, false, false, false, false, false, false]) (hB : Below w9.heap.size w9 W) (OA : OwnL W w9.heap.size (.slice (some ⟨gA, 0, none⟩) m cA2) us) (cx : Cx7 w9 Q gs gp gb m nb nc cA cB cC a0 B C X nx cX r us f2 PF u0 u2 u4 u6 u8 u9 u12 u13 u14 u15 u16 u17 u18 u19 u20 u21 u22 u23 u24 u25 u26 u27 u28 u29 u30 u31 u32 u33 u34 u35 u36 u37 u38 u39 u40 u41 u42 u43 u44 u45 u46 u47 u48 u49 u50 u51 u52 u53 u54 u55 u56 u57 u58 u59 u60 u61 u62 u63 u64 u65 u66 u67 u68 u69 u70 u71 u72 u92 u93 u94 u95 u96 u97 u98 u99 u100 u101 u102 u103 u104 u105 u106 u107 u108 u109 u110 u111 u112 u113 u114 u115 u116 u117 u118 u119 u120 u121 u122 u123 u124 u125 u126 u127 u128 u129 u130 u131 u132 u133) :
    wpAnyH Tryz.prog .any ops7t (NoPanic Q) (SX7 gs gp gb m nb nc cA cB cC a0 B C r) 13 ls ⟨#[u0, (.slice X nx cX), u2, (.pointer (some ⟨gp, 0, none⟩)), u4, (.pointer (some ⟨gb, 0, none⟩)), u6, (.pointer (some ⟨gs, 0, none⟩)), u8, u9, u10, u11, u12, u13, u14, u15, u16, u17, u18, u19, u20, u21, u22, u23, u24, u25, u26, u27, u28, u29, u30, u31, u32, u33, u34, u35, u36, u37, u38, u39, u40, u41, u42, u43, u44, u45, u46, u47, u48, u49, u50, u51, u52, u53, u54, u55, u56, u57, u58, u59, u60, u61, u62, u63, u64, u65, u66, u67, u68, u69, u70, u71, u72, u73, (.pointer (some ⟨gs, 0, none⟩)), (.slice (some a0) m cA), (.slice (some ⟨gA, 0, none⟩) m cA2), (.slice X nx cX), u78, u79, (.pointer (some ⟨gs, 1, none⟩)), (.slice B nb cB), u82, (.agg #[.bool r.b, .slice r.A r.m r.c, .bool r.b', .slice r.A' r.m' r.c']), u84, u85, u86, (.pointer (some ⟨gp, 2, none⟩)), (.slice C nc cC), u89, u90, u91, u92, u93, u94, u95, u96, u97, u98, u99, u100, u101, u102, u103, u104, u105, u106, u107, u108, u109, u110, u111, u112, u113, u114, u115, u116, u117, u118, u119, u120, u121, u122, u123, u124, u125, u126, u127, u128, u129, u130, u131, u132, u133], []⟩ W := by
  subst hls
  have cx0 := cx
  obtain ⟨hS9, hUC, hUB, hUI, hul, hm, hBN, hnb, hRV, hMin, hOut⟩ := cx0
  refine wpAnyH_ready (rs := [4, 10, 19]) (by kernel_rfl) (by simp) ?_
  refine (AllReadyH.cons ops7t_4 (fun KK hKK => ?_) (AllReadyH.cons ops7t_10 (fun KK hKK => ?_) (AllReadyH.cons ops7t_19 (fun KK hKK => ?_) AllReadyH.nil)))
  · go_simp
    have hb5 : Below W.heap.size W (W.alloc (.cells #[(.slice X nx cX)] 23)) := (Below.refl _ _).alloc (Nat.le_refl _) _
    have hBn := (hB.trans (hb5.mono hB.size))
    refine hKK.out _ _ (hS9.out _ hBn) (fun hHeld => ?_)
    clear hKK KK
    (try simp only [Act.put, List.getElem_toArray, List.getElem_cons_succ, List.getElem_cons_zero, List.setIfInBounds_toArray, List.set_cons_zero, List.set_cons_succ])
    exact st7_Ax hHeld _ (by kernel_rfl) (hB.trans (hb5.mono hB.size)) (made1 W #[(.slice X nx cX)] 23) (OA.below hb5) cx
  · go_simp
    have hb5 : Below W.heap.size W (W.alloc (.cells #[.bool r.b, .slice r.A r.m r.c, .bool r.b', .slice r.A' r.m' r.c'] 44)) := (Below.refl _ _).alloc (Nat.le_refl _) _
    have hBn := (hB.trans (hb5.mono hB.size))
    refine hKK.out _ _ (hS9.out _ hBn) (fun hHeld => ?_)
    clear hKK KK
    (try simp only [Act.put, List.getElem_toArray, List.getElem_cons_succ, List.getElem_cons_zero, List.setIfInBounds_toArray, List.set_cons_zero, List.set_cons_succ])
    exact st7_Ay hHeld _ (by kernel_rfl) (hB.trans (hb5.mono hB.size)) (OA.below hb5) (made1 W #[.bool r.b, .slice r.A r.m r.c, .bool r.b', .slice r.A' r.m' r.c'] 44) cx
  · go_simp
    have hb5 : Below W.heap.size W (W.alloc (.cells #[.int .i64 0, .slice none 0 0, .slice none 0 0, .slice none 0 0, .bool false, .slice none 0 0, .bool false, .slice none 0 0] 51)) := (Below.refl _ _).alloc (Nat.le_refl _) _
    have hBn := (hB.trans (hb5.mono hB.size))
    refine hKK.out _ _ (hS9.out _ hBn) (fun hHeld => ?_)
    clear hKK KK
    (try simp only [Act.put, List.getElem_toArray, List.getElem_cons_succ, List.getElem_cons_zero, List.setIfInBounds_toArray, List.set_cons_zero, List.set_cons_succ])
    exact st7_Az hHeld _ (by kernel_rfl) (hB.trans (hb5.mono hB.size)) (OA.below hb5) (made1 W #[.int .i64 0, .slice none 0 0, .slice none 0 0, .slice none 0 0, .bool false, .slice none 0 0, .bool false, .slice none 0 0] 51) hB.size cx

set_option maxRecDepth 100000 in
set_option maxHeartbeats 4000000 in
theorem st7_x (hHeld : SX7 gs gp gb m nb nc cA cB cC a0 B C r W) (ls : Array Bool) (hls : ls = #[true, true, false, true, true, false, true, true, false, true, false, false, false, true, true, false, false, false, false, false, false, false]) (hB : Below w9.heap.size w9 W) (La : Loc W ha 23 #[(.slice X nx cX)]) (cx : Cx7 w9 Q gs gp gb m nb nc cA cB cC a0 B C X nx cX r us f2 PF u0 u2 u4 u6 u8 u9 u12 u13 u14 u15 u16 u17 u18 u19 u20 u21 u22 u23 u24 u25 u26 u27 u28 u29 u30 u31 u32 u33 u34 u35 u36 u37 u38 u39 u40 u41 u42 u43 u44 u45 u46 u47 u48 u49 u50 u51 u52 u53 u54 u55 u56 u57 u58 u59 u60 u61 u62 u63 u64 u65 u66 u67 u68 u69 u70 u71 u72 u92 u93 u94 u95 u96 u97 u98 u99 u100 u101 u102 u103 u104 u105 u106 u107 u108 u109 u110 u111 u112 u113 u114 u115 u116 u117 u118 u119 u120 u121 u122 u123 u124 u125 u126 u127 u128 u129 u130 u131 u132 u133) :
    wpAnyH Tryz.prog .any ops7t (NoPanic Q) (SX7 gs gp gb m nb nc cA cB cC a0 B C r) 13 ls ⟨#[u0, (.slice X nx cX), u2, (.pointer (some ⟨gp, 0, none⟩)), u4, (.pointer (some ⟨gb, 0, none⟩)), u6, (.pointer (some ⟨gs, 0, none⟩)), u8, u9, u10, u11, u12, u13, u14, u15, u16, u17, u18, u19, u20, u21, u22, u23, u24, u25, u26, u27, u28, u29, u30, u31, u32, u33, u34, u35, u36, u37, u38, u39, u40, u41, u42, u43, u44, u45, u46, u47, u48, u49, u50, u51, u52, u53, u54, u55, u56, u57, u58, u59, u60, u61, u62, u63, u64, u65, u66, u67, u68, u69, u70, u71, u72, u73, (.pointer (some ⟨gs, 0, none⟩)), (.slice (some a0) m cA), u76, (.slice X nx cX), (.slice (some ⟨ha, 0, none⟩) 1 1), u79, (.pointer (some ⟨gs, 1, none⟩)), (.slice B nb cB), u82, (.agg #[.bool r.b, .slice r.A r.m r.c, .bool r.b', .slice r.A' r.m' r.c']), u84, u85, u86, (.pointer (some ⟨gp, 2, none⟩)), (.slice C nc cC), u89, u90, u91, u92, u93, u94, u95, u96, u97, u98, u99, u100, u101, u102, u103, u104, u105, u106, u107, u108, u109, u110, u111, u112, u113, u114, u115, u116, u117, u118, u119, u120, u121, u122, u123, u124, u125, u126, u127, u128, u129, u130, u131, u132, u133], []⟩ W := by
  subst hls
  have cx0 := cx
  obtain ⟨hS9, hUC, hUB, hUI, hul, hm, hBN, hnb, hRV, hMin, hOut⟩ := cx0
  refine wpAnyH_ready (rs := [2, 10, 19]) (by kernel_rfl) (by simp) ?_
  refine (AllReadyH.cons ops7t_2 (fun KK hKK => ?_) (AllReadyH.cons ops7t_10 (fun KK hKK => ?_) (AllReadyH.cons ops7t_19 (fun KK hKK => ?_) AllReadyH.nil)))
  · go_simp
    refine (cloneM_any _ a0 cA m us (hUC.out _ hB) (Nat.lt_of_lt_of_le hUB.out hB.size) hul.out hm.out.1 (by have := hm.out.2; omega) hUI.out).mono ?_
    rintro e W1 ⟨gA, cA2, rfl, hO, hb5⟩
    (try go_wp2_with fail)
    have hBn := (hB.trans (hb5.mono hB.size))
    refine hKK.out _ _ (hS9.out _ hBn) (fun hHeld => ?_)
    clear hKK KK
    (try simp only [Act.put, List.getElem_toArray, List.getElem_cons_succ, List.getElem_cons_zero, List.setIfInBounds_toArray, List.set_cons_zero, List.set_cons_succ])
    exact st7_Ax hHeld _ (by kernel_rfl) (hB.trans (hb5.mono hB.size)) (La.below hb5) (own_mono hO hB.size) cx
  · go_simp
    have hb5 : Below W.heap.size W (W.alloc (.cells #[.bool r.b, .slice r.A r.m r.c, .bool r.b', .slice r.A' r.m' r.c'] 44)) := (Below.refl _ _).alloc (Nat.le_refl _) _
    have hBn := (hB.trans (hb5.mono hB.size))
    refine hKK.out _ _ (hS9.out _ hBn) (fun hHeld => ?_)
    clear hKK KK
    (try simp only [Act.put, List.getElem_toArray, List.getElem_cons_succ, List.getElem_cons_zero, List.setIfInBounds_toArray, List.set_cons_zero, List.set_cons_succ])
    exact st7_xy hHeld _ (by kernel_rfl) (hB.trans (hb5.mono hB.size)) (La.below hb5) (made1 W #[.bool r.b, .slice r.A r.m r.c, .bool r.b', .slice r.A' r.m' r.c'] 44) cx
  · go_simp
    have hb5 : Below W.heap.size W (W.alloc (.cells #[.int .i64 0, .slice none 0 0, .slice none 0 0, .slice none 0 0, .bool false, .slice none 0 0, .bool false, .slice none 0 0] 51)) := (Below.refl _ _).alloc (Nat.le_refl _) _
    have hBn := (hB.trans (hb5.mono hB.size))
    refine hKK.out _ _ (hS9.out _ hBn) (fun hHeld => ?_)
    clear hKK KK
    (try simp only [Act.put, List.getElem_toArray, List.getElem_cons_succ, List.getElem_cons_zero, List.setIfInBounds_toArray, List.set_cons_zero, List.set_cons_succ])
    exact st7_xz hHeld _ (by kernel_rfl) (hB.trans (hb5.mono hB.size)) (La.below hb5) (made1 W #[.int .i64 0, .slice none 0 0, .slice none 0 0, .slice none 0 0, .bool false, .slice none 0 0, .bool false, .slice none 0 0] 51) hB.size cx

set_option maxRecDepth 100000 in
set_option maxHeartbeats 4000000 in
theorem st7_y (hHeld : SX7 gs gp gb m nb nc cA cB cC a0 B C r W) (ls : Array Bool) (hls : ls = #[true, true, false, true, false, false, true, true, false, true, true, false, false, true, true, false, false, false, false, false, false, false]) (hB : Below w9.heap.size w9 W) (Lb : Loc W hb 44 #[.bool r.b, .slice r.A r.m r.c, .bool r.b', .slice r.A' r.m' r.c']) (cx : Cx7 w9 Q gs gp gb m nb nc cA cB cC a0 B C X nx cX r us f2 PF u0 u2 u4 u6 u8 u9 u12 u13 u14 u15 u16 u17 u18 u19 u20 u21 u22 u23 u24 u25 u26 u27 u28 u29 u30 u31 u32 u33 u34 u35 u36 u37 u38 u39 u40 u41 u42 u43 u44 u45 u46 u47 u48 u49 u50 u51 u52 u53 u54 u55 u56 u57 u58 u59 u60 u61 u62 u63 u64 u65 u66 u67 u68 u69 u70 u71 u72 u92 u93 u94 u95 u96 u97 u98 u99 u100 u101 u102 u103 u104 u105 u106 u107 u108 u109 u110 u111 u112 u113 u114 u115 u116 u117 u118 u119 u120 u121 u122 u123 u124 u125 u126 u127 u128 u129 u130 u131 u132 u133) :
    wpAnyH Tryz.prog .any ops7t (NoPanic Q) (SX7 gs gp gb m nb nc cA cB cC a0 B C r) 13 ls ⟨#[u0, (.slice X nx cX), u2, (.pointer (some ⟨gp, 0, none⟩)), u4, (.pointer (some ⟨gb, 0, none⟩)), u6, (.pointer (some ⟨gs, 0, none⟩)), u8, u9, u10, u11, u12, u13, u14, u15, u16, u17, u18, u19, u20, u21, u22, u23, u24, u25, u26, u27, u28, u29, u30, u31, u32, u33, u34, u35, u36, u37, u38, u39, u40, u41, u42, u43, u44, u45, u46, u47, u48, u49, u50, u51, u52, u53, u54, u55, u56, u57, u58, u59, u60, u61, u62, u63, u64, u65, u66, u67, u68, u69, u70, u71, u72, u73, (.pointer (some ⟨gs, 0, none⟩)), (.slice (some a0) m cA), u76, (.slice X nx cX), u78, u79, (.pointer (some ⟨gs, 1, none⟩)), (.slice B nb cB), u82, (.agg #[.bool r.b, .slice r.A r.m r.c, .bool r.b', .slice r.A' r.m' r.c']), (.slice (some ⟨hb, 0, none⟩) 1 1), u85, u86, (.pointer (some ⟨gp, 2, none⟩)), (.slice C nc cC), u89, u90, u91, u92, u93, u94, u95, u96, u97, u98, u99, u100, u101, u102, u103, u104, u105, u106, u107, u108, u109, u110, u111, u112, u113, u114, u115, u116, u117, u118, u119, u120, u121, u122, u123, u124, u125, u126, u127, u128, u129, u130, u131, u132, u133], []⟩ W := by
  subst hls
  have cx0 := cx
  obtain ⟨hS9, hUC, hUB, hUI, hul, hm, hBN, hnb, hRV, hMin, hOut⟩ := cx0
  refine wpAnyH_ready (rs := [2, 4, 19]) (by kernel_rfl) (by simp) ?_
  refine (AllReadyH.cons ops7t_2 (fun KK hKK => ?_) (AllReadyH.cons ops7t_4 (fun KK hKK => ?_) (AllReadyH.cons ops7t_19 (fun KK hKK => ?_) AllReadyH.nil)))
  · go_simp
    refine (cloneM_any _ a0 cA m us (hUC.out _ hB) (Nat.lt_of_lt_of_le hUB.out hB.size) hul.out hm.out.1 (by have := hm.out.2; omega) hUI.out).mono ?_
    rintro e W1 ⟨gA, cA2, rfl, hO, hb5⟩
    (try go_wp2_with fail)
    have hBn := (hB.trans (hb5.mono hB.size))
    refine hKK.out _ _ (hS9.out _ hBn) (fun hHeld => ?_)
    clear hKK KK
    (try simp only [Act.put, List.getElem_toArray, List.getElem_cons_succ, List.getElem_cons_zero, List.setIfInBounds_toArray, List.set_cons_zero, List.set_cons_succ])
    exact st7_Ay hHeld _ (by kernel_rfl) (hB.trans (hb5.mono hB.size)) (own_mono hO hB.size) (Lb.below hb5) cx
  · go_simp
    have hb5 : Below W.heap.size W (W.alloc (.cells #[(.slice X nx cX)] 23)) := (Below.refl _ _).alloc (Nat.le_refl _) _
    have hBn := (hB.trans (hb5.mono hB.size))
    refine hKK.out _ _ (hS9.out _ hBn) (fun hHeld => ?_)
    clear hKK KK
    (try simp only [Act.put, List.getElem_toArray, List.getElem_cons_succ, List.getElem_cons_zero, List.setIfInBounds_toArray, List.set_cons_zero, List.set_cons_succ])
    exact st7_xy hHeld _ (by kernel_rfl) (hB.trans (hb5.mono hB.size)) (made1 W #[(.slice X nx cX)] 23) (Lb.below hb5) cx
  · go_simp
    have hb5 : Below W.heap.size W (W.alloc (.cells #[.int .i64 0, .slice none 0 0, .slice none 0 0, .slice none 0 0, .bool false, .slice none 0 0, .bool false, .slice none 0 0] 51)) := (Below.refl _ _).alloc (Nat.le_refl _) _
    have hBn := (hB.trans (hb5.mono hB.size))
    refine hKK.out _ _ (hS9.out _ hBn) (fun hHeld => ?_)
    clear hKK KK
    (try simp only [Act.put, List.getElem_toArray, List.getElem_cons_succ, List.getElem_cons_zero, List.setIfInBounds_toArray, List.set_cons_zero, List.set_cons_succ])
    exact st7_yz hHeld _ (by kernel_rfl) (hB.trans (hb5.mono hB.size)) (Lb.below hb5) (made1 W #[.int .i64 0, .slice none 0 0, .slice none 0 0, .slice none 0 0, .bool false, .slice none 0 0, .bool false, .slice none 0 0] 51) hB.size cx

set_option maxRecDepth 100000 in
set_option maxHeartbeats 4000000 in
theorem st7_z (hHeld : SX7 gs gp gb m nb nc cA cB cC a0 B C r W) (ls : Array Bool) (hls : ls = #[true, true, false, true, false, false, true, true, false, true, false, false, false, true, true, false, false, false, false, true, false, false]) (hB : Below w9.heap.size w9 W) (Ld : Loc W hd 51 #[.int .i64 0, .slice none 0 0, .slice none 0 0, .slice none 0 0, .bool false, .slice none 0 0, .bool false, .slice none 0 0]) (hld : w9.heap.size ≤ hd) (cx : Cx7 w9 Q gs gp gb m nb nc cA cB cC a0 B C X nx cX r us f2 PF u0 u2 u4 u6 u8 u9 u12 u13 u14 u15 u16 u17 u18 u19 u20 u21 u22 u23 u24 u25 u26 u27 u28 u29 u30 u31 u32 u33 u34 u35 u36 u37 u38 u39 u40 u41 u42 u43 u44 u45 u46 u47 u48 u49 u50 u51 u52 u53 u54 u55 u56 u57 u58 u59 u60 u61 u62 u63 u64 u65 u66 u67 u68 u69 u70 u71 u72 u92 u93 u94 u95 u96 u97 u98 u99 u100 u101 u102 u103 u104 u105 u106 u107 u108 u109 u110 u111 u112 u113 u114 u115 u116 u117 u118 u119 u120 u121 u122 u123 u124 u125 u126 u127 u128 u129 u130 u131 u132 u133) :
    wpAnyH Tryz.prog .any ops7t (NoPanic Q) (SX7 gs gp gb m nb nc cA cB cC a0 B C r) 13 ls ⟨#[u0, (.slice X nx cX), u2, (.pointer (some ⟨gp, 0, none⟩)), u4, (.pointer (some ⟨gb, 0, none⟩)), u6, (.pointer (some ⟨gs, 0, none⟩)), u8, u9, (.pointer (some ⟨hd, 0, none⟩)), u11, u12, u13, u14, u15, u16, u17, u18, u19, u20, u21, u22, u23, u24, u25, u26, u27, u28, u29, u30, u31, u32, u33, u34, u35, u36, u37, u38, u39, u40, u41, u42, u43, u44, u45, u46, u47, u48, u49, u50, u51, u52, u53, u54, u55, u56, u57, u58, u59, u60, u61, u62, u63, u64, u65, u66, u67, u68, u69, u70, u71, u72, u73, (.pointer (some ⟨gs, 0, none⟩)), (.slice (some a0) m cA), u76, (.slice X nx cX), u78, u79, (.pointer (some ⟨gs, 1, none⟩)), (.slice B nb cB), u82, (.agg #[.bool r.b, .slice r.A r.m r.c, .bool r.b', .slice r.A' r.m' r.c']), u84, u85, u86, (.pointer (some ⟨gp, 2, none⟩)), (.slice C nc cC), u89, u90, u91, u92, u93, u94, u95, u96, u97, u98, u99, u100, u101, u102, u103, u104, u105, u106, u107, u108, u109, u110, u111, u112, u113, u114, u115, u116, u117, u118, u119, u120, u121, u122, u123, u124, u125, u126, u127, u128, u129, u130, u131, u132, u133], []⟩ W := by
  subst hls
  have cx0 := cx
  obtain ⟨hS9, hUC, hUB, hUI, hul, hm, hBN, hnb, hRV, hMin, hOut⟩ := cx0
  refine wpAnyH_ready (rs := [2, 4, 10]) (by kernel_rfl) (by simp) ?_
  refine (AllReadyH.cons ops7t_2 (fun KK hKK => ?_) (AllReadyH.cons ops7t_4 (fun KK hKK => ?_) (AllReadyH.cons ops7t_10 (fun KK hKK => ?_) AllReadyH.nil)))
  · go_simp
    refine (cloneM_any _ a0 cA m us (hUC.out _ hB) (Nat.lt_of_lt_of_le hUB.out hB.size) hul.out hm.out.1 (by have := hm.out.2; omega) hUI.out).mono ?_
    rintro e W1 ⟨gA, cA2, rfl, hO, hb5⟩
    (try go_wp2_with fail)
    have hBn := (hB.trans (hb5.mono hB.size))
    refine hKK.out _ _ (hS9.out _ hBn) (fun hHeld => ?_)
    clear hKK KK
    (try simp only [Act.put, List.getElem_toArray, List.getElem_cons_succ, List.getElem_cons_zero, List.setIfInBounds_toArray, List.set_cons_zero, List.set_cons_succ])
    exact st7_Az hHeld _ (by kernel_rfl) (hB.trans (hb5.mono hB.size)) (own_mono hO hB.size) (Ld.below hb5) hld cx
  · go_simp
    have hb5 : Below W.heap.size W (W.alloc (.cells #[(.slice X nx cX)] 23)) := (Below.refl _ _).alloc (Nat.le_refl _) _
    have hBn := (hB.trans (hb5.mono hB.size))
    refine hKK.out _ _ (hS9.out _ hBn) (fun hHeld => ?_)
    clear hKK KK
    (try simp only [Act.put, List.getElem_toArray, List.getElem_cons_succ, List.getElem_cons_zero, List.setIfInBounds_toArray, List.set_cons_zero, List.set_cons_succ])
    exact st7_xz hHeld _ (by kernel_rfl) (hB.trans (hb5.mono hB.size)) (made1 W #[(.slice X nx cX)] 23) (Ld.below hb5) hld cx
  · go_simp
    have hb5 : Below W.heap.size W (W.alloc (.cells #[.bool r.b, .slice r.A r.m r.c, .bool r.b', .slice r.A' r.m' r.c'] 44)) := (Below.refl _ _).alloc (Nat.le_refl _) _
    have hBn := (hB.trans (hb5.mono hB.size))
    refine hKK.out _ _ (hS9.out _ hBn) (fun hHeld => ?_)
    clear hKK KK
    (try simp only [Act.put, List.getElem_toArray, List.getElem_cons_succ, List.getElem_cons_zero, List.setIfInBounds_toArray, List.set_cons_zero, List.set_cons_succ])
    exact st7_yz hHeld _ (by kernel_rfl) (hB.trans (hb5.mono hB.size)) (made1 W #[.bool r.b, .slice r.A r.m r.c, .bool r.b', .slice r.A' r.m' r.c'] 44) (Ld.below hb5) hld cx

set_option maxRecDepth 100000 in
set_option maxHeartbeats 4000000 in
theorem st7_O (hHeld : SX7 gs gp gb m nb nc cA cB cC a0 B C r W) (ls : Array Bool) (hls : ls = #[true, true, false, true, false, false, true, true, false, true, false, false, false, true, true, false, false, false, false, false, false, false]) (hB : Below w9.heap.size w9 W) (cx : Cx7 w9 Q gs gp gb m nb nc cA cB cC a0 B C X nx cX r us f2 PF u0 u2 u4 u6 u8 u9 u12 u13 u14 u15 u16 u17 u18 u19 u20 u21 u22 u23 u24 u25 u26 u27 u28 u29 u30 u31 u32 u33 u34 u35 u36 u37 u38 u39 u40 u41 u42 u43 u44 u45 u46 u47 u48 u49 u50 u51 u52 u53 u54 u55 u56 u57 u58 u59 u60 u61 u62 u63 u64 u65 u66 u67 u68 u69 u70 u71 u72 u92 u93 u94 u95 u96 u97 u98 u99 u100 u101 u102 u103 u104 u105 u106 u107 u108 u109 u110 u111 u112 u113 u114 u115 u116 u117 u118 u119 u120 u121 u122 u123 u124 u125 u126 u127 u128 u129 u130 u131 u132 u133) :
    wpAnyH Tryz.prog .any ops7t (NoPanic Q) (SX7 gs gp gb m nb nc cA cB cC a0 B C r) 14 ls ⟨#[u0, (.slice X nx cX), u2, (.pointer (some ⟨gp, 0, none⟩)), u4, (.pointer (some ⟨gb, 0, none⟩)), u6, (.pointer (some ⟨gs, 0, none⟩)), u8, u9, u10, u11, u12, u13, u14, u15, u16, u17, u18, u19, u20, u21, u22, u23, u24, u25, u26, u27, u28, u29, u30, u31, u32, u33, u34, u35, u36, u37, u38, u39, u40, u41, u42, u43, u44, u45, u46, u47, u48, u49, u50, u51, u52, u53, u54, u55, u56, u57, u58, u59, u60, u61, u62, u63, u64, u65, u66, u67, u68, u69, u70, u71, u72, u73, (.pointer (some ⟨gs, 0, none⟩)), (.slice (some a0) m cA), u76, (.slice X nx cX), u78, u79, (.pointer (some ⟨gs, 1, none⟩)), (.slice B nb cB), u82, (.agg #[.bool r.b, .slice r.A r.m r.c, .bool r.b', .slice r.A' r.m' r.c']), u84, u85, u86, (.pointer (some ⟨gp, 2, none⟩)), (.slice C nc cC), u89, u90, u91, u92, u93, u94, u95, u96, u97, u98, u99, u100, u101, u102, u103, u104, u105, u106, u107, u108, u109, u110, u111, u112, u113, u114, u115, u116, u117, u118, u119, u120, u121, u122, u123, u124, u125, u126, u127, u128, u129, u130, u131, u132, u133], []⟩ W := by
  subst hls
  have cx0 := cx
  obtain ⟨hS9, hUC, hUB, hUI, hul, hm, hBN, hnb, hRV, hMin, hOut⟩ := cx0
  refine wpAnyH_ready (rs := [2, 4, 10, 19]) (by kernel_rfl) (by simp) ?_
  refine (AllReadyH.cons ops7t_2 (fun KK hKK => ?_) (AllReadyH.cons ops7t_4 (fun KK hKK => ?_) (AllReadyH.cons ops7t_10 (fun KK hKK => ?_) (AllReadyH.cons ops7t_19 (fun KK hKK => ?_) AllReadyH.nil))))
  · go_simp
    refine (cloneM_any _ a0 cA m us (hUC.out _ hB) (Nat.lt_of_lt_of_le hUB.out hB.size) hul.out hm.out.1 (by have := hm.out.2; omega) hUI.out).mono ?_
    rintro e W1 ⟨gA, cA2, rfl, hO, hb5⟩
    (try go_wp2_with fail)
    have hBn := (hB.trans (hb5.mono hB.size))
    refine hKK.out _ _ (hS9.out _ hBn) (fun hHeld => ?_)
    clear hKK KK
    (try simp only [Act.put, List.getElem_toArray, List.getElem_cons_succ, List.getElem_cons_zero, List.setIfInBounds_toArray, List.set_cons_zero, List.set_cons_succ])
    exact st7_A hHeld _ (by kernel_rfl) (hB.trans (hb5.mono hB.size)) (own_mono hO hB.size) cx
  · go_simp
    have hb5 : Below W.heap.size W (W.alloc (.cells #[(.slice X nx cX)] 23)) := (Below.refl _ _).alloc (Nat.le_refl _) _
    have hBn := (hB.trans (hb5.mono hB.size))
    refine hKK.out _ _ (hS9.out _ hBn) (fun hHeld => ?_)
    clear hKK KK
    (try simp only [Act.put, List.getElem_toArray, List.getElem_cons_succ, List.getElem_cons_zero, List.setIfInBounds_toArray, List.set_cons_zero, List.set_cons_succ])
    exact st7_x hHeld _ (by kernel_rfl) (hB.trans (hb5.mono hB.size)) (made1 W #[(.slice X nx cX)] 23) cx
  · go_simp
    have hb5 : Below W.heap.size W (W.alloc (.cells #[.bool r.b, .slice r.A r.m r.c, .bool r.b', .slice r.A' r.m' r.c'] 44)) := (Below.refl _ _).alloc (Nat.le_refl _) _
    have hBn := (hB.trans (hb5.mono hB.size))
    refine hKK.out _ _ (hS9.out _ hBn) (fun hHeld => ?_)
    clear hKK KK
    (try simp only [Act.put, List.getElem_toArray, List.getElem_cons_succ, List.getElem_cons_zero, List.setIfInBounds_toArray, List.set_cons_zero, List.set_cons_succ])
    exact st7_y hHeld _ (by kernel_rfl) (hB.trans (hb5.mono hB.size)) (made1 W #[.bool r.b, .slice r.A r.m r.c, .bool r.b', .slice r.A' r.m' r.c'] 44) cx
  · go_simp
    have hb5 : Below W.heap.size W (W.alloc (.cells #[.int .i64 0, .slice none 0 0, .slice none 0 0, .slice none 0 0, .bool false, .slice none 0 0, .bool false, .slice none 0 0] 51)) := (Below.refl _ _).alloc (Nat.le_refl _) _
    have hBn := (hB.trans (hb5.mono hB.size))
    refine hKK.out _ _ (hS9.out _ hBn) (fun hHeld => ?_)
    clear hKK KK
    (try simp only [Act.put, List.getElem_toArray, List.getElem_cons_succ, List.getElem_cons_zero, List.setIfInBounds_toArray, List.set_cons_zero, List.set_cons_succ])
    exact st7_z hHeld _ (by kernel_rfl) (hB.trans (hb5.mono hB.size)) (made1 W #[.int .i64 0, .slice none 0 0, .slice none 0 0, .slice none 0 0, .bool false, .slice none 0 0, .bool false, .slice none 0 0] 51) hB.size cx

set_option maxRecDepth 100000 in
set_option maxHeartbeats 8000000 in
theorem reg7t (hS9 : Hid (∀ W, Below w9.heap.size w9 W → SX7 gs gp gb m nb nc cA cB cC a0 B C r W)) (hUC : Hid (∀ W, Below w9.heap.size w9 W → ∀ i u, us[i]? = some u → W.cell? (a0.add i) = some u)) (hUB : Hid (a0.block < w9.heap.size)) (hUI : Hid (∀ u ∈ us, isL u)) (hul : Hid (us.length = m)) (hm : Hid (0 < m ∧ m ≤ 100)) (hBN : Hid (∀ W, Below w9.heap.size w9 W → Nums 2 W (fun b => w9.heap.size ≤ b) (.slice B nb cB) nb f2)) (hnb : Hid (0 < nb ∧ nb ≤ 100)) (hRV : Hid (∀ W, Below w9.heap.size w9 W → RatL 2 W (fun b => w9.heap.size ≤ b) (.agg #[.bool r.b, .slice r.A r.m r.c, .bool r.b', .slice r.A' r.m' r.c']) (f2 nb))) (hMin : Hid (Min7 w9 m nb nc cC C us (.slice X nx cX) PF f2)) (hOut : Out7 w9 Q gs gp gb C nc cC X nx cX PF u0 u2 u4 u6 u8 u9 u12 u13 u14 u15 u16 u17 u18 u19 u20 u21 u22 u23 u24 u25 u26 u27 u28 u29 u30 u31 u32 u33 u34 u35 u36 u37 u38 u39 u40 u41 u42 u43 u44 u45 u46 u47 u48 u49 u50 u51 u52 u53 u54 u55 u56 u57 u58 u59 u60 u61 u62 u63 u64 u65 u66 u67 u68 u69 u70 u71 u72 u92 u93 u94 u95 u96 u97 u98 u99 u100 u101 u102 u103 u104 u105 u106 u107 u108 u109 u110 u111 u112 u113 u114 u115 u116 u117 u118 u119 u120 u121 u122 u123 u124 u125 u126 u127 u128 u129 u130 u131 u132 u133) :
    (Code.region 7 ops7t true).wp Tryz.prog Q ⟨#[u0, (.slice X nx cX), u2, (.pointer (some ⟨gp, 0, none⟩)), u4, (.pointer (some ⟨gb, 0, none⟩)), u6, (.pointer (some ⟨gs, 0, none⟩)), u8, u9, u10, u11, u12, u13, u14, u15, u16, u17, u18, u19, u20, u21, u22, u23, u24, u25, u26, u27, u28, u29, u30, u31, u32, u33, u34, u35, u36, u37, u38, u39, u40, u41, u42, u43, u44, u45, u46, u47, u48, u49, u50, u51, u52, u53, u54, u55, u56, u57, u58, u59, u60, u61, u62, u63, u64, u65, u66, u67, u68, u69, u70, u71, u72, u73, u74, u75, u76, u77, u78, u79, u80, u81, u82, u83, u84, u85, u86, u87, u88, u89, u90, u91, u92, u93, u94, u95, u96, u97, u98, u99, u100, u101, u102, u103, u104, u105, u106, u107, u108, u109, u110, u111, u112, u113, u114, u115, u116, u117, u118, u119, u120, u121, u122, u123, u124, u125, u126, u127, u128, u129, u130, u131, u132, u133], []⟩ w9 := by
  refine wp_region_noPanic ?_
  refine wp_region_held_drew (S := (SX7 gs gp gb m nb nc cA cB cC a0 B C r)) (by kernel_rfl) ?_ (fun hHeld => ?_)
  · exact hS9.out _ (Below.refl _ _).drew
  rw [ops7t_size]
  refine wpAnyH_take (i := 0) (v := ?_) ops7t_0 (by kernel_rfl) (by kernel_rfl) (by kernel_rfl) (fun _ _ _ h => h) (Or.inl ⟨by kernel_rfl, ?_⟩) hHeld ?_
  rotate_left 1
  · (intro w hSw; unfold SX7 at hSw; (try dsimp only at hSw); first | (go_simp; done) | (go_simp; with_reducible rfl))
  (try simp only [Act.put, List.getElem_toArray, List.getElem_cons_succ, List.getElem_cons_zero, List.setIfInBounds_toArray, List.set_cons_zero, List.set_cons_succ])
  refine wpAnyH_take (i := 1) (v := ?_) ops7t_1 (by kernel_rfl) (by kernel_rfl) (by kernel_rfl) (fun _ _ _ h => h) (Or.inl ⟨by kernel_rfl, ?_⟩) hHeld ?_
  rotate_left 1
  · (intro w hSw; unfold SX7 at hSw; (try dsimp only at hSw); first | (go_simp; done) | (go_simp; with_reducible rfl))
  (try simp only [Act.put, List.getElem_toArray, List.getElem_cons_succ, List.getElem_cons_zero, List.setIfInBounds_toArray, List.set_cons_zero, List.set_cons_succ])
  refine wpAnyH_take (i := 3) (v := ?_) ops7t_3 (by kernel_rfl) (by kernel_rfl) (by kernel_rfl) (fun _ _ _ h => h) (Or.inl ⟨by kernel_rfl, ?_⟩) hHeld ?_
  rotate_left 1
  · (intro w hSw; unfold SX7 at hSw; (try dsimp only at hSw); first | (go_simp; done) | (go_simp; with_reducible rfl))
  (try simp only [Act.put, List.getElem_toArray, List.getElem_cons_succ, List.getElem_cons_zero, List.setIfInBounds_toArray, List.set_cons_zero, List.set_cons_succ])
  refine wpAnyH_take (i := 6) (v := ?_) ops7t_6 (by kernel_rfl) (by kernel_rfl) (by kernel_rfl) (fun _ _ _ h => h) (Or.inl ⟨by kernel_rfl, ?_⟩) hHeld ?_
  rotate_left 1
  · (intro w hSw; unfold SX7 at hSw; (try dsimp only at hSw); first | (go_simp; done) | (go_simp; with_reducible rfl))
  (try simp only [Act.put, List.getElem_toArray, List.getElem_cons_succ, List.getElem_cons_zero, List.setIfInBounds_toArray, List.set_cons_zero, List.set_cons_succ])
  refine wpAnyH_take (i := 7) (v := ?_) ops7t_7 (by kernel_rfl) (by kernel_rfl) (by kernel_rfl) (fun _ _ _ h => h) (Or.inl ⟨by kernel_rfl, ?_⟩) hHeld ?_
  rotate_left 1
  · (intro w hSw; unfold SX7 at hSw; (try dsimp only at hSw); first | (go_simp; done) | (go_simp; with_reducible rfl))
  (try simp only [Act.put, List.getElem_toArray, List.getElem_cons_succ, List.getElem_cons_zero, List.setIfInBounds_toArray, List.set_cons_zero, List.set_cons_succ])
  refine wpAnyH_take (i := 9) (v := ?_) ops7t_9 (by kernel_rfl) (by kernel_rfl) (by kernel_rfl) (fun _ _ _ h => h) (Or.inl ⟨by kernel_rfl, ?_⟩) hHeld ?_
  rotate_left 1
  · (intro w hSw; unfold SX7 at hSw; (try dsimp only at hSw); first | (go_simp; done) | (go_simp; with_reducible rfl))
  (try simp only [Act.put, List.getElem_toArray, List.getElem_cons_succ, List.getElem_cons_zero, List.setIfInBounds_toArray, List.set_cons_zero, List.set_cons_succ])
  refine wpAnyH_take (i := 13) (v := ?_) ops7t_13 (by kernel_rfl) (by kernel_rfl) (by kernel_rfl) (fun _ _ _ h => h) (Or.inl ⟨by kernel_rfl, ?_⟩) hHeld ?_
  rotate_left 1
  · (intro w hSw; unfold SX7 at hSw; (try dsimp only at hSw); first | (go_simp; done) | (go_simp; with_reducible rfl))
  (try simp only [Act.put, List.getElem_toArray, List.getElem_cons_succ, List.getElem_cons_zero, List.setIfInBounds_toArray, List.set_cons_zero, List.set_cons_succ])
  refine wpAnyH_take (i := 14) (v := ?_) ops7t_14 (by kernel_rfl) (by kernel_rfl) (by kernel_rfl) (fun _ _ _ h => h) (Or.inl ⟨by kernel_rfl, ?_⟩) hHeld ?_
  rotate_left 1
  · (intro w hSw; unfold SX7 at hSw; (try dsimp only at hSw); first | (go_simp; done) | (go_simp; with_reducible rfl))
  (try simp only [Act.put, List.getElem_toArray, List.getElem_cons_succ, List.getElem_cons_zero, List.setIfInBounds_toArray, List.set_cons_zero, List.set_cons_succ])
  exact st7_O hHeld _ (by kernel_rfl) ((Below.refl _ _).drew) ⟨hS9, hUC, hUB, hUI, hul, hm, hBN, hnb, hRV, hMin, hOut⟩
end
end Reg7t
end Go.Proofs.YtpeglenapmkdfaaGreat

