/- Contracts of the functions that the statements reach, part 42. -/
import Derived.Test.YtdambnieminnfaaGreatRows
import Derived.Test.YtdambnieminnfaaGreatY26
import Derived.Test.YtdambnieminnfaaGreatY41
set_option linter.unusedSimpArgs false
set_option linter.unusedVariables false

/- The drawn region of keyholelaw40.witness that makes the boxes of the two totals. Printed by gen40two.py. -/
namespace Go.Proofs.YtdambnieminnfaaGreat
open Go.RowKit
attribute [local go_sem ↓] Go.wp_at_zero Go.wp_at_succ
namespace Reg40w
/-- The operations of a region, by its number. -/
def findReg (n : Nat) : Code → Option (Array Oper)
 | .seq a b => match findReg n a with
   | some c => some c
   | none => findReg n b
 | .loop c => findReg n c
 | .block _ c => findReg n c
 | .scope c => findReg n c
 | .cond _ a b => match findReg n a with
   | some c => some c
   | none => findReg n b
 | .region k ops _ => if k = n then some ops else none
 | _ => none

noncomputable def opsT : Array Oper := (Tryz.f17.body.bind (findReg 3)).getD #[]
theorem opsT_size : opsT.size = 16 := by kernel_rfl
theorem opsT_0 : opsT[0]? = some { dst := some 44, op := Op.fieldAddr 24 (Operand.tmp 3) 0, type := 0, pos := (opsT[0]'(by rw [opsT_size]; decide)).pos, after := (opsT[0]'(by rw [opsT_size]; decide)).after, guard := none } := by kernel_rfl
theorem opsT_1 : opsT[1]? = some { dst := some 45, op := Op.load 22 (Operand.tmp 44), type := 22, pos := (opsT[1]'(by rw [opsT_size]; decide)).pos, after := (opsT[1]'(by rw [opsT_size]; decide)).after, guard := none } := by kernel_rfl
theorem opsT_2 : opsT[2]? = some { dst := some 46, op := Op.indexAddr 22 (Operand.tmp 45) (Operand.const (Value.int IntKind.i64 0)), type := 0, pos := (opsT[2]'(by rw [opsT_size]; decide)).pos, after := (opsT[2]'(by rw [opsT_size]; decide)).after, guard := none } := by kernel_rfl
theorem opsT_3 : opsT[3]? = some { dst := some 47, op := Op.load 38 (Operand.tmp 46), type := 38, pos := (opsT[3]'(by rw [opsT_size]; decide)).pos, after := (opsT[3]'(by rw [opsT_size]; decide)).after, guard := none } := by kernel_rfl
theorem opsT_4 : opsT[4]? = some { dst := some 48, op := Op.call { callee := Callee.value (Operand.func 29), args := #[Operand.tmp 47], argTypes := #[38] }, type := 3, pos := (opsT[4]'(by rw [opsT_size]; decide)).pos, after := (opsT[4]'(by rw [opsT_size]; decide)).after, guard := none } := by kernel_rfl
theorem opsT_5 : opsT[5]? = some { dst := some 49, op := Op.call { callee := Callee.value (Operand.func 55), args := #[Operand.tmp 48], argTypes := #[3] }, type := 60, pos := (opsT[5]'(by rw [opsT_size]; decide)).pos, after := (opsT[5]'(by rw [opsT_size]; decide)).after, guard := none } := by kernel_rfl
theorem opsT_6 : opsT[6]? = some { dst := some 50, op := Op.fieldAddr 24 (Operand.tmp 4) 0, type := 0, pos := (opsT[6]'(by rw [opsT_size]; decide)).pos, after := (opsT[6]'(by rw [opsT_size]; decide)).after, guard := none } := by kernel_rfl
theorem opsT_7 : opsT[7]? = some { dst := some 51, op := Op.load 22 (Operand.tmp 50), type := 22, pos := (opsT[7]'(by rw [opsT_size]; decide)).pos, after := (opsT[7]'(by rw [opsT_size]; decide)).after, guard := none } := by kernel_rfl
theorem opsT_8 : opsT[8]? = some { dst := some 52, op := Op.indexAddr 22 (Operand.tmp 51) (Operand.const (Value.int IntKind.i64 0)), type := 0, pos := (opsT[8]'(by rw [opsT_size]; decide)).pos, after := (opsT[8]'(by rw [opsT_size]; decide)).after, guard := none } := by kernel_rfl
theorem opsT_9 : opsT[9]? = some { dst := some 53, op := Op.load 38 (Operand.tmp 52), type := 38, pos := (opsT[9]'(by rw [opsT_size]; decide)).pos, after := (opsT[9]'(by rw [opsT_size]; decide)).after, guard := none } := by kernel_rfl
theorem opsT_10 : opsT[10]? = some { dst := some 54, op := Op.call { callee := Callee.value (Operand.func 29), args := #[Operand.tmp 53], argTypes := #[38] }, type := 3, pos := (opsT[10]'(by rw [opsT_size]; decide)).pos, after := (opsT[10]'(by rw [opsT_size]; decide)).after, guard := none } := by kernel_rfl
theorem opsT_11 : opsT[11]? = some { dst := some 55, op := Op.call { callee := Callee.value (Operand.func 55), args := #[Operand.tmp 54], argTypes := #[3] }, type := 60, pos := (opsT[11]'(by rw [opsT_size]; decide)).pos, after := (opsT[11]'(by rw [opsT_size]; decide)).after, guard := none } := by kernel_rfl
theorem opsT_12 : opsT[12]? = some { dst := some 7, op := Op.alloc 60, type := 0, pos := (opsT[12]'(by rw [opsT_size]; decide)).pos, after := (opsT[12]'(by rw [opsT_size]; decide)).after, guard := none } := by kernel_rfl
theorem opsT_13 : opsT[13]? = some { dst := some 8, op := Op.alloc 60, type := 0, pos := (opsT[13]'(by rw [opsT_size]; decide)).pos, after := (opsT[13]'(by rw [opsT_size]; decide)).after, guard := none } := by kernel_rfl
theorem opsT_14 : opsT[14]? = some { dst := none, op := Op.store 60 (Operand.tmp 7) (Operand.tmp 49), type := 0, pos := (opsT[14]'(by rw [opsT_size]; decide)).pos, after := (opsT[14]'(by rw [opsT_size]; decide)).after, guard := none } := by kernel_rfl
theorem opsT_15 : opsT[15]? = some { dst := none, op := Op.store 60 (Operand.tmp 8) (Operand.tmp 55), type := 0, pos := (opsT[15]'(by rw [opsT_size]; decide)).pos, after := (opsT[15]'(by rw [opsT_size]; decide)).after, guard := none } := by kernel_rfl

theorem z4_noW : ∀ u ∈ (#[.bool false, .slice none 0 0, .bool false, .slice none 0 0] : Array Value), noW u := by
 intro u hu
 simp at hu
 rcases hu with rfl | rfl | rfl | rfl <;> first | exact noW_bool _ | exact noW_slice _ _ _

def SXT (g1 g2 x1 c1 x2 c2 y1 m1' y2 m2' : Nat) (a1 a2 : Addr) (D1 D2 : Option Addr) : World → Prop := fun W => (W.cell? ⟨g1, 0, none⟩ = some (.slice (some a1) x1 c1) ∧ W.cell? ⟨g2, 0, none⟩ = some (.slice (some a2) x2 c2)) ∧ W.cell? a1 = some (.slice D1 y1 m1') ∧ W.cell? a2 = some (.slice D2 y2 m2')
/-- What the region leaves. -/
def OutT (w9 : World) (Q : Exit → Act → World → Prop) (g1 g2 : Nat) (p1 p2 : Int) (u0 u1 u2 u5 u6 u9 u10 u11 u12 u13 u14 u15 u16 u17 u18 u19 u20 u21 u22 u23 u24 u25 u26 u27 u28 u29 u30 u31 u32 u33 u34 u35 u36 u37 u38 u39 u40 u41 u42 u43 u56 u57 u58 u59 u60 u61 u62 u63 u64 u65 u66 u67 u68 u69 u70 u71 u72 u73 u74 u75 u76 u77 u78 u79 u80 u81 u82 u83 u84 u85 u86 u87 u88 u89 u90 u91 u92 u93 u94 u95 u96 u97 u98 u99 u100 u101 u102 u103 u104 u105 u106 u107 u108 u109 u110 u111 u112 u113 u114 u115 u116 : Value) : Prop :=
 ∀ (W : World) (ga gb : Nat) (b1 d1 b2 d2 : Bool) (E1 G1 E2 G2 : Option Addr) (m1 k1 n1 l1 m2 k2 n2 l2 : Nat) (v44 v45 v46 v47 v48 v49 v50 v51 v52 v53 v54 v55 : Value), ga ≠ gb → w9.heap.size ≤ ga → w9.heap.size ≤ gb → Loc W ga 60 #[.bool b1, .slice E1 m1 k1, .bool d1, .slice G1 n1 l1] → Loc W gb 60 #[.bool b2, .slice E2 m2 k2, .bool d2, .slice G2 n2 l2] → RatL 2 W (fun _ => False) (.agg #[.bool b1, .slice E1 m1 k1, .bool d1, .slice G1 n1 l1]) (p1 : Rat) → RatL 2 W (fun _ => False) (.agg #[.bool b2, .slice E2 m2 k2, .bool d2, .slice G2 n2 l2]) (p2 : Rat) → Below w9.heap.size w9 W → Q .normal ⟨#[u0, u1, u2, (.pointer (some ⟨g1, 0, none⟩)), (.pointer (some ⟨g2, 0, none⟩)), u5, u6, (.pointer (some ⟨ga, 0, none⟩)), (.pointer (some ⟨gb, 0, none⟩)), u9, u10, u11, u12, u13, u14, u15, u16, u17, u18, u19, u20, u21, u22, u23, u24, u25, u26, u27, u28, u29, u30, u31, u32, u33, u34, u35, u36, u37, u38, u39, u40, u41, u42, u43, v44, v45, v46, v47, v48, v49, v50, v51, v52, v53, v54, v55, u56, u57, u58, u59, u60, u61, u62, u63, u64, u65, u66, u67, u68, u69, u70, u71, u72, u73, u74, u75, u76, u77, u78, u79, u80, u81, u82, u83, u84, u85, u86, u87, u88, u89, u90, u91, u92, u93, u94, u95, u96, u97, u98, u99, u100, u101, u102, u103, u104, u105, u106, u107, u108, u109, u110, u111, u112, u113, u114, u115, u116], []⟩ W

section
variable {Q : Exit → Act → World → Prop} {w9 W : World} {g1 g2 m1' m2' x1 x2 y1 y2 ga gb : Nat} {a1 a2 : Addr} {D1 D2 : Option Addr} {c1 c2 : Nat} {z1 z2 : List Int} {p1 p2 : Int} {b1 d1 b2 d2 : Bool} {E1 G1 E2 G2 : Option Addr} {m1 k1 n1 l1 m2 k2 n2 l2 : Nat} {u0 u1 u2 u5 u6 u7 u8 u9 u10 u11 u12 u13 u14 u15 u16 u17 u18 u19 u20 u21 u22 u23 u24 u25 u26 u27 u28 u29 u30 u31 u32 u33 u34 u35 u36 u37 u38 u39 u40 u41 u42 u43 u44 u45 u46 u47 u48 u49 u50 u51 u52 u53 u54 u55 u56 u57 u58 u59 u60 u61 u62 u63 u64 u65 u66 u67 u68 u69 u70 u71 u72 u73 u74 u75 u76 u77 u78 u79 u80 u81 u82 u83 u84 u85 u86 u87 u88 u89 u90 u91 u92 u93 u94 u95 u96 u97 u98 u99 u100 u101 u102 u103 u104 u105 u106 u107 u108 u109 u110 u111 u112 u113 u114 u115 u116 : Value}
structure US_Reg40w where
 (u0 u1 u2 u5 u6 u9 u10 u11 u12 u13 u14 u15 u16 u17 u18 u19 u20 u21 u22 u23 u24 u25 u26 u27 u28 u29 u30 u31 u32 u33 u34 u35 u36 u37 u38 u39 u40 u41 u42 u43 u56 u57 u58 u59 u60 u61 u62 u63 u64 u65 u66 u67 u68 u69 u70 u71 u72 u73 u74 u75 u76 u77 u78 u79 u80 u81 u82 u83 u84 u85 u86 u87 u88 u89 u90 u91 u92 u93 u94 u95 u96 u97 u98 u99 u100 u101 u102 u103 u104 u105 u106 u107 u108 u109 u110 u111 u112 u113 u114 u115 u116 : Value)
def FR_Reg40w (s : US_Reg40w) (g1 : Nat) (g2 : Nat) (a1 : Addr) (x1 : Nat) (c1 : Nat) (D1 : Option Addr) (y1 : Nat) (m1' : Nat) (a2 : Addr) (x2 : Nat) (c2 : Nat) (D2 : Option Addr) (y2 : Nat) (m2' : Nat) (x7 x8 x48 x49 x54 x55 : Value) : Act := ⟨#[s.u0, s.u1, s.u2, (.pointer (some ⟨g1, 0, none⟩)), (.pointer (some ⟨g2, 0, none⟩)), s.u5, s.u6, x7, x8, s.u9, s.u10, s.u11, s.u12, s.u13, s.u14, s.u15, s.u16, s.u17, s.u18, s.u19, s.u20, s.u21, s.u22, s.u23, s.u24, s.u25, s.u26, s.u27, s.u28, s.u29, s.u30, s.u31, s.u32, s.u33, s.u34, s.u35, s.u36, s.u37, s.u38, s.u39, s.u40, s.u41, s.u42, s.u43, (.pointer (some ⟨g1, 0, none⟩)), (.slice (some a1) x1 c1), (.pointer (some a1)), (.slice D1 y1 m1'), x48, x49, (.pointer (some ⟨g2, 0, none⟩)), (.slice (some a2) x2 c2), (.pointer (some a2)), (.slice D2 y2 m2'), x54, x55, s.u56, s.u57, s.u58, s.u59, s.u60, s.u61, s.u62, s.u63, s.u64, s.u65, s.u66, s.u67, s.u68, s.u69, s.u70, s.u71, s.u72, s.u73, s.u74, s.u75, s.u76, s.u77, s.u78, s.u79, s.u80, s.u81, s.u82, s.u83, s.u84, s.u85, s.u86, s.u87, s.u88, s.u89, s.u90, s.u91, s.u92, s.u93, s.u94, s.u95, s.u96, s.u97, s.u98, s.u99, s.u100, s.u101, s.u102, s.u103, s.u104, s.u105, s.u106, s.u107, s.u108, s.u109, s.u110, s.u111, s.u112, s.u113, s.u114, s.u115, s.u116], []⟩
structure CX_Reg40w (s : US_Reg40w) (w9 : World) (g1 : Nat) (g2 : Nat) (x1 : Nat) (c1 : Nat) (x2 : Nat) (c2 : Nat) (y1 : Nat) (m1' : Nat) (y2 : Nat) (m2' : Nat) (a1 : Addr) (a2 : Addr) (D1 : Option Addr) (D2 : Option Addr) (z1 : List Int) (z2 : List Int) (p1 : Int) (p2 : Int) (Q : Exit → Act → World → Prop) : Prop where
 hS9 : Hid (∀ W, Below w9.heap.size w9 W → SXT g1 g2 x1 c1 x2 c2 y1 m1' y2 m2' a1 a2 D1 D2 W)
 hI1 : Hid (∀ W, Below w9.heap.size w9 W → IntsV W (.slice D1 y1 m1') z1)
 hI2 : Hid (∀ W, Below w9.heap.size w9 W → IntsV W (.slice D2 y2 m2') z2)
 hR1 : Hid (rsumA 0 z1 = p1)
 hR2 : Hid (rsumA 0 z2 = p2)
 hp1 : Hid (1 ≤ p1 ∧ p1 ≤ 1048576)
 hp2 : Hid (1 ≤ p2 ∧ p2 ≤ 1048576)
 hOut : OutT w9 Q g1 g2 p1 p2 s.u0 s.u1 s.u2 s.u5 s.u6 s.u9 s.u10 s.u11 s.u12 s.u13 s.u14 s.u15 s.u16 s.u17 s.u18 s.u19 s.u20 s.u21 s.u22 s.u23 s.u24 s.u25 s.u26 s.u27 s.u28 s.u29 s.u30 s.u31 s.u32 s.u33 s.u34 s.u35 s.u36 s.u37 s.u38 s.u39 s.u40 s.u41 s.u42 s.u43 s.u56 s.u57 s.u58 s.u59 s.u60 s.u61 s.u62 s.u63 s.u64 s.u65 s.u66 s.u67 s.u68 s.u69 s.u70 s.u71 s.u72 s.u73 s.u74 s.u75 s.u76 s.u77 s.u78 s.u79 s.u80 s.u81 s.u82 s.u83 s.u84 s.u85 s.u86 s.u87 s.u88 s.u89 s.u90 s.u91 s.u92 s.u93 s.u94 s.u95 s.u96 s.u97 s.u98 s.u99 s.u100 s.u101 s.u102 s.u103 s.u104 s.u105 s.u106 s.u107 s.u108 s.u109 s.u110 s.u111 s.u112 s.u113 s.u114 s.u115 s.u116
variable {s : US_Reg40w}
set_option maxRecDepth 100000 in
set_option maxHeartbeats 8000000 in
theorem st_c1_h1_c2_h2_a_b_s_t (hHeld : SXT g1 g2 x1 c1 x2 c2 y1 m1' y2 m2' a1 a2 D1 D2 W) (ls : Array Bool) (hls : ls = #[true, true, true, true, true, true, true, true, true, true, true, true, true, true, true, true]) (hB : Below w9.heap.size w9 W) (V1 : RatL 2 W (fun _ => False) (.agg #[.bool b1, .slice E1 m1 k1, .bool d1, .slice G1 n1 l1]) (p1 : Rat)) (V2 : RatL 2 W (fun _ => False) (.agg #[.bool b2, .slice E2 m2 k2, .bool d2, .slice G2 n2 l2]) (p2 : Rat)) (La : Loc W ga 60 #[.bool b1, .slice E1 m1 k1, .bool d1, .slice G1 n1 l1]) (hla : w9.heap.size ≤ ga) (Lb : Loc W gb 60 #[.bool b2, .slice E2 m2 k2, .bool d2, .slice G2 n2 l2]) (hlb : w9.heap.size ≤ gb) (hab : ga ≠ gb) (C : CX_Reg40w s w9 g1 g2 x1 c1 x2 c2 y1 m1' y2 m2' a1 a2 D1 D2 z1 z2 p1 p2 Q) :
 wpAnyH Tryz.prog .any opsT (NoPanic Q) (SXT g1 g2 x1 c1 x2 c2 y1 m1' y2 m2' a1 a2 D1 D2) 0 ls (FR_Reg40w s g1 g2 a1 x1 c1 D1 y1 m1' a2 x2 c2 D2 y2 m2' (.pointer (some ⟨ga, 0, none⟩)) (.pointer (some ⟨gb, 0, none⟩)) (.int .i64 p1) (.agg #[.bool b1, .slice E1 m1 k1, .bool d1, .slice G1 n1 l1]) (.int .i64 p2) (.agg #[.bool b2, .slice E2 m2 k2, .bool d2, .slice G2 n2 l2])) W := by
 subst hls
 unfold FR_Reg40w
 obtain ⟨hS9, hI1, hI2, hR1, hR2, hp1, hp2, hOut⟩ := id C
 refine wpAnyH_done (by kernel_rfl) ?_ _
 refine NoPanic.normal ?_
 exact hOut W _ _ _ _ _ _ _ _ _ _ _ _ _ _ _ _ _ _ _ _ _ _ _ _ _ _ _ _ _ _ hab hla hlb La Lb V1 V2 hB

set_option maxRecDepth 100000 in
set_option maxHeartbeats 8000000 in
theorem st_c1_h1_c2_h2_a_b_s (hHeld : SXT g1 g2 x1 c1 x2 c2 y1 m1' y2 m2' a1 a2 D1 D2 W) (ls : Array Bool) (hls : ls = #[true, true, true, true, true, true, true, true, true, true, true, true, true, true, true, false]) (hB : Below w9.heap.size w9 W) (V1 : RatL 2 W (fun _ => False) (.agg #[.bool b1, .slice E1 m1 k1, .bool d1, .slice G1 n1 l1]) (p1 : Rat)) (V2 : RatL 2 W (fun _ => False) (.agg #[.bool b2, .slice E2 m2 k2, .bool d2, .slice G2 n2 l2]) (p2 : Rat)) (La : Loc W ga 60 #[.bool b1, .slice E1 m1 k1, .bool d1, .slice G1 n1 l1]) (hla : w9.heap.size ≤ ga) (Lb : Loc W gb 60 #[.bool false, .slice none 0 0, .bool false, .slice none 0 0]) (hlb : w9.heap.size ≤ gb) (hab : ga ≠ gb) (C : CX_Reg40w s w9 g1 g2 x1 c1 x2 c2 y1 m1' y2 m2' a1 a2 D1 D2 z1 z2 p1 p2 Q) :
 wpAnyH Tryz.prog .any opsT (NoPanic Q) (SXT g1 g2 x1 c1 x2 c2 y1 m1' y2 m2' a1 a2 D1 D2) 1 ls (FR_Reg40w s g1 g2 a1 x1 c1 D1 y1 m1' a2 x2 c2 D2 y2 m2' (.pointer (some ⟨ga, 0, none⟩)) (.pointer (some ⟨gb, 0, none⟩)) (.int .i64 p1) (.agg #[.bool b1, .slice E1 m1 k1, .bool d1, .slice G1 n1 l1]) (.int .i64 p2) (.agg #[.bool b2, .slice E2 m2 k2, .bool d2, .slice G2 n2 l2])) W := by
 subst hls
 unfold FR_Reg40w
 obtain ⟨hS9, hI1, hI2, hR1, hR2, hp1, hp2, hOut⟩ := id C
 refine wpAnyH_ready (rs := [15]) (by kernel_rfl) (by simp) ?_
 refine (AllReadyH.cons opsT_15 (fun KK hKK => ?_) AllReadyH.nil)
 ·obtain ⟨e7, g7, l7⟩ := Lb.all (w' := W)
  go_simp
  have hBn : Below w9.heap.size w9 _ := (bel : Below w9.heap.size w9 ((((W.setCell ⟨gb, 0, none⟩ (.bool b2)).setCell ⟨gb, 1, none⟩ (.slice E2 m2 k2)).setCell ⟨gb, 2, none⟩ (.bool d2)).setCell ⟨gb, 3, none⟩ (.slice G2 n2 l2)))
  refine hKK.out _ _ (hS9.out _ hBn) (fun hHeld => ?_)
  clear hKK KK
  (try simp only [Act.put, ly])
  exact st_c1_h1_c2_h2_a_b_s_t hHeld _ (by kernel_rfl) (bel : Below w9.heap.size w9 ((((W.setCell ⟨gb, 0, none⟩ (.bool b2)).setCell ⟨gb, 1, none⟩ (.slice E2 m2 k2)).setCell ⟨gb, 2, none⟩ (.bool d2)).setCell ⟨gb, 3, none⟩ (.slice G2 n2 l2))) (V1.past Lb z4_noW kp) (V2.past Lb z4_noW kp) (La.keep (X := fun b => b = gb) kp (by first | exact hab | exact hab.symm)) hla (Loc.fill4 Lb) hlb hab C

set_option maxRecDepth 100000 in
set_option maxHeartbeats 8000000 in
theorem st_c1_h1_c2_h2_a_b (hHeld : SXT g1 g2 x1 c1 x2 c2 y1 m1' y2 m2' a1 a2 D1 D2 W) (ls : Array Bool) (hls : ls = #[true, true, true, true, true, true, true, true, true, true, true, true, true, true, false, false]) (hB : Below w9.heap.size w9 W) (V1 : RatL 2 W (fun _ => False) (.agg #[.bool b1, .slice E1 m1 k1, .bool d1, .slice G1 n1 l1]) (p1 : Rat)) (V2 : RatL 2 W (fun _ => False) (.agg #[.bool b2, .slice E2 m2 k2, .bool d2, .slice G2 n2 l2]) (p2 : Rat)) (La : Loc W ga 60 #[.bool false, .slice none 0 0, .bool false, .slice none 0 0]) (hla : w9.heap.size ≤ ga) (Lb : Loc W gb 60 #[.bool false, .slice none 0 0, .bool false, .slice none 0 0]) (hlb : w9.heap.size ≤ gb) (hab : ga ≠ gb) (C : CX_Reg40w s w9 g1 g2 x1 c1 x2 c2 y1 m1' y2 m2' a1 a2 D1 D2 z1 z2 p1 p2 Q) :
 wpAnyH Tryz.prog .any opsT (NoPanic Q) (SXT g1 g2 x1 c1 x2 c2 y1 m1' y2 m2' a1 a2 D1 D2) 2 ls (FR_Reg40w s g1 g2 a1 x1 c1 D1 y1 m1' a2 x2 c2 D2 y2 m2' (.pointer (some ⟨ga, 0, none⟩)) (.pointer (some ⟨gb, 0, none⟩)) (.int .i64 p1) (.agg #[.bool b1, .slice E1 m1 k1, .bool d1, .slice G1 n1 l1]) (.int .i64 p2) (.agg #[.bool b2, .slice E2 m2 k2, .bool d2, .slice G2 n2 l2])) W := by
 subst hls
 unfold FR_Reg40w
 obtain ⟨hS9, hI1, hI2, hR1, hR2, hp1, hp2, hOut⟩ := id C
 refine wpAnyH_ready (rs := [14]) (by kernel_rfl) (by simp) ?_
 refine (AllReadyH.cons opsT_14 (fun KK hKK => ?_) AllReadyH.nil)
 ·obtain ⟨e7, g7, l7⟩ := La.all (w' := W)
  go_simp
  have hBn : Below w9.heap.size w9 _ := (bel : Below w9.heap.size w9 ((((W.setCell ⟨ga, 0, none⟩ (.bool b1)).setCell ⟨ga, 1, none⟩ (.slice E1 m1 k1)).setCell ⟨ga, 2, none⟩ (.bool d1)).setCell ⟨ga, 3, none⟩ (.slice G1 n1 l1)))
  refine hKK.out _ _ (hS9.out _ hBn) (fun hHeld => ?_)
  clear hKK KK
  (try simp only [Act.put, ly])
  exact st_c1_h1_c2_h2_a_b_s hHeld _ (by kernel_rfl) (bel : Below w9.heap.size w9 ((((W.setCell ⟨ga, 0, none⟩ (.bool b1)).setCell ⟨ga, 1, none⟩ (.slice E1 m1 k1)).setCell ⟨ga, 2, none⟩ (.bool d1)).setCell ⟨ga, 3, none⟩ (.slice G1 n1 l1))) (V1.past La z4_noW kp) (V2.past La z4_noW kp) (Loc.fill4 La) hla (Lb.keep (X := fun b => b = ga) kp (by first | exact hab | exact hab.symm)) hlb hab C

set_option maxRecDepth 100000 in
set_option maxHeartbeats 8000000 in
theorem st_c1_h1_c2_h2_a (hHeld : SXT g1 g2 x1 c1 x2 c2 y1 m1' y2 m2' a1 a2 D1 D2 W) (ls : Array Bool) (hls : ls = #[true, true, true, true, true, true, true, true, true, true, true, true, true, false, false, false]) (hB : Below w9.heap.size w9 W) (V1 : RatL 2 W (fun _ => False) (.agg #[.bool b1, .slice E1 m1 k1, .bool d1, .slice G1 n1 l1]) (p1 : Rat)) (V2 : RatL 2 W (fun _ => False) (.agg #[.bool b2, .slice E2 m2 k2, .bool d2, .slice G2 n2 l2]) (p2 : Rat)) (La : Loc W ga 60 #[.bool false, .slice none 0 0, .bool false, .slice none 0 0]) (hla : w9.heap.size ≤ ga) (C : CX_Reg40w s w9 g1 g2 x1 c1 x2 c2 y1 m1' y2 m2' a1 a2 D1 D2 z1 z2 p1 p2 Q) :
 wpAnyH Tryz.prog .any opsT (NoPanic Q) (SXT g1 g2 x1 c1 x2 c2 y1 m1' y2 m2' a1 a2 D1 D2) 3 ls (FR_Reg40w s g1 g2 a1 x1 c1 D1 y1 m1' a2 x2 c2 D2 y2 m2' (.pointer (some ⟨ga, 0, none⟩)) u8 (.int .i64 p1) (.agg #[.bool b1, .slice E1 m1 k1, .bool d1, .slice G1 n1 l1]) (.int .i64 p2) (.agg #[.bool b2, .slice E2 m2 k2, .bool d2, .slice G2 n2 l2])) W := by
 subst hls
 unfold FR_Reg40w
 obtain ⟨hS9, hI1, hI2, hR1, hR2, hp1, hp2, hOut⟩ := id C
 refine wpAnyH_ready (rs := [13]) (by kernel_rfl) (by simp) ?_
 refine (AllReadyH.cons opsT_13 (fun KK hKK => ?_) AllReadyH.nil)
 ·go_simp
  have hb5 : Below W.heap.size W (W.alloc (.cells #[.bool false, .slice none 0 0, .bool false, .slice none 0 0] 60)) := (Below.refl _ _).alloc (Nat.le_refl _) _
  have hBn : Below w9.heap.size w9 _ := (hB.trans (hb5.mono hB.size))
  refine hKK.out _ _ (hS9.out _ hBn) (fun hHeld => ?_)
  clear hKK KK
  (try simp only [Act.put, ly])
  exact st_c1_h1_c2_h2_a_b hHeld _ (by kernel_rfl) (hB.trans (hb5.mono hB.size)) (V1.keep (.of_below hb5)) (V2.keep (.of_below hb5)) (La.below hb5) hla (made1 W #[.bool false, .slice none 0 0, .bool false, .slice none 0 0] 60) hB.size (Nat.ne_of_lt La.lt) C

set_option maxRecDepth 100000 in
set_option maxHeartbeats 8000000 in
theorem st_c1_h1_c2_h2_b (hHeld : SXT g1 g2 x1 c1 x2 c2 y1 m1' y2 m2' a1 a2 D1 D2 W) (ls : Array Bool) (hls : ls = #[true, true, true, true, true, true, true, true, true, true, true, true, false, true, false, false]) (hB : Below w9.heap.size w9 W) (V1 : RatL 2 W (fun _ => False) (.agg #[.bool b1, .slice E1 m1 k1, .bool d1, .slice G1 n1 l1]) (p1 : Rat)) (V2 : RatL 2 W (fun _ => False) (.agg #[.bool b2, .slice E2 m2 k2, .bool d2, .slice G2 n2 l2]) (p2 : Rat)) (Lb : Loc W gb 60 #[.bool false, .slice none 0 0, .bool false, .slice none 0 0]) (hlb : w9.heap.size ≤ gb) (C : CX_Reg40w s w9 g1 g2 x1 c1 x2 c2 y1 m1' y2 m2' a1 a2 D1 D2 z1 z2 p1 p2 Q) :
 wpAnyH Tryz.prog .any opsT (NoPanic Q) (SXT g1 g2 x1 c1 x2 c2 y1 m1' y2 m2' a1 a2 D1 D2) 3 ls (FR_Reg40w s g1 g2 a1 x1 c1 D1 y1 m1' a2 x2 c2 D2 y2 m2' u7 (.pointer (some ⟨gb, 0, none⟩)) (.int .i64 p1) (.agg #[.bool b1, .slice E1 m1 k1, .bool d1, .slice G1 n1 l1]) (.int .i64 p2) (.agg #[.bool b2, .slice E2 m2 k2, .bool d2, .slice G2 n2 l2])) W := by
 subst hls
 unfold FR_Reg40w
 obtain ⟨hS9, hI1, hI2, hR1, hR2, hp1, hp2, hOut⟩ := id C
 refine wpAnyH_ready (rs := [12]) (by kernel_rfl) (by simp) ?_
 refine (AllReadyH.cons opsT_12 (fun KK hKK => ?_) AllReadyH.nil)
 ·go_simp
  have hb5 : Below W.heap.size W (W.alloc (.cells #[.bool false, .slice none 0 0, .bool false, .slice none 0 0] 60)) := (Below.refl _ _).alloc (Nat.le_refl _) _
  have hBn : Below w9.heap.size w9 _ := (hB.trans (hb5.mono hB.size))
  refine hKK.out _ _ (hS9.out _ hBn) (fun hHeld => ?_)
  clear hKK KK
  (try simp only [Act.put, ly])
  exact st_c1_h1_c2_h2_a_b hHeld _ (by kernel_rfl) (hB.trans (hb5.mono hB.size)) (V1.keep (.of_below hb5)) (V2.keep (.of_below hb5)) (made1 W #[.bool false, .slice none 0 0, .bool false, .slice none 0 0] 60) hB.size (Lb.below hb5) hlb (Ne.symm (Nat.ne_of_lt Lb.lt)) C

set_option maxRecDepth 100000 in
set_option maxHeartbeats 8000000 in
theorem st_c1_h1_c2_a_b (hHeld : SXT g1 g2 x1 c1 x2 c2 y1 m1' y2 m2' a1 a2 D1 D2 W) (ls : Array Bool) (hls : ls = #[true, true, true, true, true, true, true, true, true, true, true, false, true, true, false, false]) (hB : Below w9.heap.size w9 W) (V1 : RatL 2 W (fun _ => False) (.agg #[.bool b1, .slice E1 m1 k1, .bool d1, .slice G1 n1 l1]) (p1 : Rat)) (La : Loc W ga 60 #[.bool false, .slice none 0 0, .bool false, .slice none 0 0]) (hla : w9.heap.size ≤ ga) (Lb : Loc W gb 60 #[.bool false, .slice none 0 0, .bool false, .slice none 0 0]) (hlb : w9.heap.size ≤ gb) (hab : ga ≠ gb) (C : CX_Reg40w s w9 g1 g2 x1 c1 x2 c2 y1 m1' y2 m2' a1 a2 D1 D2 z1 z2 p1 p2 Q) :
 wpAnyH Tryz.prog .any opsT (NoPanic Q) (SXT g1 g2 x1 c1 x2 c2 y1 m1' y2 m2' a1 a2 D1 D2) 3 ls (FR_Reg40w s g1 g2 a1 x1 c1 D1 y1 m1' a2 x2 c2 D2 y2 m2' (.pointer (some ⟨ga, 0, none⟩)) (.pointer (some ⟨gb, 0, none⟩)) (.int .i64 p1) (.agg #[.bool b1, .slice E1 m1 k1, .bool d1, .slice G1 n1 l1]) (.int .i64 p2) u55) W := by
 subst hls
 unfold FR_Reg40w
 obtain ⟨hS9, hI1, hI2, hR1, hR2, hp1, hp2, hOut⟩ := id C
 refine wpAnyH_ready (rs := [11]) (by kernel_rfl) (by simp) ?_
 refine (AllReadyH.cons opsT_11 (fun KK hKK => ?_) AllReadyH.nil)
 ·go_simp
  refine (lwhole_any _ p2 (by have := hp2.out; omega) (by have := hp2.out; omega)).mono ?_
  rintro e W1 ⟨v2, rfl, i2, hb5⟩
  obtain ⟨b2, E2, m2, k2, d2, G2, n2, l2, rfl, i2, -, -⟩ := i2.op
  (try go_wp2_with fail)
  have hBn : Below w9.heap.size w9 _ := (hB.trans (hb5.mono hB.size))
  refine hKK.out _ _ (hS9.out _ hBn) (fun hHeld => ?_)
  clear hKK KK
  (try simp only [Act.put, ly])
  exact st_c1_h1_c2_h2_a_b hHeld _ (by kernel_rfl) (hB.trans (hb5.mono hB.size)) (V1.keep (.of_below hb5)) (RatL.to (i2.len (rsz_int (by have := hp2.out; omega) (by have := hp2.out; omega)))) (La.below hb5) hla (Lb.below hb5) hlb hab C

set_option maxRecDepth 100000 in
set_option maxHeartbeats 8000000 in
theorem st_c1_h1_c2_h2 (hHeld : SXT g1 g2 x1 c1 x2 c2 y1 m1' y2 m2' a1 a2 D1 D2 W) (ls : Array Bool) (hls : ls = #[true, true, true, true, true, true, true, true, true, true, true, true, false, false, false, false]) (hB : Below w9.heap.size w9 W) (V1 : RatL 2 W (fun _ => False) (.agg #[.bool b1, .slice E1 m1 k1, .bool d1, .slice G1 n1 l1]) (p1 : Rat)) (V2 : RatL 2 W (fun _ => False) (.agg #[.bool b2, .slice E2 m2 k2, .bool d2, .slice G2 n2 l2]) (p2 : Rat)) (C : CX_Reg40w s w9 g1 g2 x1 c1 x2 c2 y1 m1' y2 m2' a1 a2 D1 D2 z1 z2 p1 p2 Q) :
 wpAnyH Tryz.prog .any opsT (NoPanic Q) (SXT g1 g2 x1 c1 x2 c2 y1 m1' y2 m2' a1 a2 D1 D2) 4 ls (FR_Reg40w s g1 g2 a1 x1 c1 D1 y1 m1' a2 x2 c2 D2 y2 m2' u7 u8 (.int .i64 p1) (.agg #[.bool b1, .slice E1 m1 k1, .bool d1, .slice G1 n1 l1]) (.int .i64 p2) (.agg #[.bool b2, .slice E2 m2 k2, .bool d2, .slice G2 n2 l2])) W := by
 subst hls
 unfold FR_Reg40w
 obtain ⟨hS9, hI1, hI2, hR1, hR2, hp1, hp2, hOut⟩ := id C
 refine wpAnyH_ready (rs := [12, 13]) (by kernel_rfl) (by simp) ?_
 refine (AllReadyH.cons opsT_12 (fun KK hKK => ?_) (AllReadyH.cons opsT_13 (fun KK hKK => ?_) AllReadyH.nil))
 ·go_simp
  have hb5 : Below W.heap.size W (W.alloc (.cells #[.bool false, .slice none 0 0, .bool false, .slice none 0 0] 60)) := (Below.refl _ _).alloc (Nat.le_refl _) _
  have hBn : Below w9.heap.size w9 _ := (hB.trans (hb5.mono hB.size))
  refine hKK.out _ _ (hS9.out _ hBn) (fun hHeld => ?_)
  clear hKK KK
  (try simp only [Act.put, ly])
  exact st_c1_h1_c2_h2_a hHeld _ (by kernel_rfl) (hB.trans (hb5.mono hB.size)) (V1.keep (.of_below hb5)) (V2.keep (.of_below hb5)) (made1 W #[.bool false, .slice none 0 0, .bool false, .slice none 0 0] 60) hB.size C
 ·go_simp
  have hb5 : Below W.heap.size W (W.alloc (.cells #[.bool false, .slice none 0 0, .bool false, .slice none 0 0] 60)) := (Below.refl _ _).alloc (Nat.le_refl _) _
  have hBn : Below w9.heap.size w9 _ := (hB.trans (hb5.mono hB.size))
  refine hKK.out _ _ (hS9.out _ hBn) (fun hHeld => ?_)
  clear hKK KK
  (try simp only [Act.put, ly])
  exact st_c1_h1_c2_h2_b hHeld _ (by kernel_rfl) (hB.trans (hb5.mono hB.size)) (V1.keep (.of_below hb5)) (V2.keep (.of_below hb5)) (made1 W #[.bool false, .slice none 0 0, .bool false, .slice none 0 0] 60) hB.size C

set_option maxRecDepth 100000 in
set_option maxHeartbeats 8000000 in
theorem st_c1_h1_c2_a (hHeld : SXT g1 g2 x1 c1 x2 c2 y1 m1' y2 m2' a1 a2 D1 D2 W) (ls : Array Bool) (hls : ls = #[true, true, true, true, true, true, true, true, true, true, true, false, true, false, false, false]) (hB : Below w9.heap.size w9 W) (V1 : RatL 2 W (fun _ => False) (.agg #[.bool b1, .slice E1 m1 k1, .bool d1, .slice G1 n1 l1]) (p1 : Rat)) (La : Loc W ga 60 #[.bool false, .slice none 0 0, .bool false, .slice none 0 0]) (hla : w9.heap.size ≤ ga) (C : CX_Reg40w s w9 g1 g2 x1 c1 x2 c2 y1 m1' y2 m2' a1 a2 D1 D2 z1 z2 p1 p2 Q) :
 wpAnyH Tryz.prog .any opsT (NoPanic Q) (SXT g1 g2 x1 c1 x2 c2 y1 m1' y2 m2' a1 a2 D1 D2) 4 ls (FR_Reg40w s g1 g2 a1 x1 c1 D1 y1 m1' a2 x2 c2 D2 y2 m2' (.pointer (some ⟨ga, 0, none⟩)) u8 (.int .i64 p1) (.agg #[.bool b1, .slice E1 m1 k1, .bool d1, .slice G1 n1 l1]) (.int .i64 p2) u55) W := by
 subst hls
 unfold FR_Reg40w
 obtain ⟨hS9, hI1, hI2, hR1, hR2, hp1, hp2, hOut⟩ := id C
 refine wpAnyH_ready (rs := [11, 13]) (by kernel_rfl) (by simp) ?_
 refine (AllReadyH.cons opsT_11 (fun KK hKK => ?_) (AllReadyH.cons opsT_13 (fun KK hKK => ?_) AllReadyH.nil))
 ·go_simp
  refine (lwhole_any _ p2 (by have := hp2.out; omega) (by have := hp2.out; omega)).mono ?_
  rintro e W1 ⟨v2, rfl, i2, hb5⟩
  obtain ⟨b2, E2, m2, k2, d2, G2, n2, l2, rfl, i2, -, -⟩ := i2.op
  (try go_wp2_with fail)
  have hBn : Below w9.heap.size w9 _ := (hB.trans (hb5.mono hB.size))
  refine hKK.out _ _ (hS9.out _ hBn) (fun hHeld => ?_)
  clear hKK KK
  (try simp only [Act.put, ly])
  exact st_c1_h1_c2_h2_a hHeld _ (by kernel_rfl) (hB.trans (hb5.mono hB.size)) (V1.keep (.of_below hb5)) (RatL.to (i2.len (rsz_int (by have := hp2.out; omega) (by have := hp2.out; omega)))) (La.below hb5) hla C
 ·go_simp
  have hb5 : Below W.heap.size W (W.alloc (.cells #[.bool false, .slice none 0 0, .bool false, .slice none 0 0] 60)) := (Below.refl _ _).alloc (Nat.le_refl _) _
  have hBn : Below w9.heap.size w9 _ := (hB.trans (hb5.mono hB.size))
  refine hKK.out _ _ (hS9.out _ hBn) (fun hHeld => ?_)
  clear hKK KK
  (try simp only [Act.put, ly])
  exact st_c1_h1_c2_a_b hHeld _ (by kernel_rfl) (hB.trans (hb5.mono hB.size)) (V1.keep (.of_below hb5)) (La.below hb5) hla (made1 W #[.bool false, .slice none 0 0, .bool false, .slice none 0 0] 60) hB.size (Nat.ne_of_lt La.lt) C

set_option maxRecDepth 100000 in
set_option maxHeartbeats 8000000 in
theorem st_c1_h1_c2_b (hHeld : SXT g1 g2 x1 c1 x2 c2 y1 m1' y2 m2' a1 a2 D1 D2 W) (ls : Array Bool) (hls : ls = #[true, true, true, true, true, true, true, true, true, true, true, false, false, true, false, false]) (hB : Below w9.heap.size w9 W) (V1 : RatL 2 W (fun _ => False) (.agg #[.bool b1, .slice E1 m1 k1, .bool d1, .slice G1 n1 l1]) (p1 : Rat)) (Lb : Loc W gb 60 #[.bool false, .slice none 0 0, .bool false, .slice none 0 0]) (hlb : w9.heap.size ≤ gb) (C : CX_Reg40w s w9 g1 g2 x1 c1 x2 c2 y1 m1' y2 m2' a1 a2 D1 D2 z1 z2 p1 p2 Q) :
 wpAnyH Tryz.prog .any opsT (NoPanic Q) (SXT g1 g2 x1 c1 x2 c2 y1 m1' y2 m2' a1 a2 D1 D2) 4 ls (FR_Reg40w s g1 g2 a1 x1 c1 D1 y1 m1' a2 x2 c2 D2 y2 m2' u7 (.pointer (some ⟨gb, 0, none⟩)) (.int .i64 p1) (.agg #[.bool b1, .slice E1 m1 k1, .bool d1, .slice G1 n1 l1]) (.int .i64 p2) u55) W := by
 subst hls
 unfold FR_Reg40w
 obtain ⟨hS9, hI1, hI2, hR1, hR2, hp1, hp2, hOut⟩ := id C
 refine wpAnyH_ready (rs := [11, 12]) (by kernel_rfl) (by simp) ?_
 refine (AllReadyH.cons opsT_11 (fun KK hKK => ?_) (AllReadyH.cons opsT_12 (fun KK hKK => ?_) AllReadyH.nil))
 ·go_simp
  refine (lwhole_any _ p2 (by have := hp2.out; omega) (by have := hp2.out; omega)).mono ?_
  rintro e W1 ⟨v2, rfl, i2, hb5⟩
  obtain ⟨b2, E2, m2, k2, d2, G2, n2, l2, rfl, i2, -, -⟩ := i2.op
  (try go_wp2_with fail)
  have hBn : Below w9.heap.size w9 _ := (hB.trans (hb5.mono hB.size))
  refine hKK.out _ _ (hS9.out _ hBn) (fun hHeld => ?_)
  clear hKK KK
  (try simp only [Act.put, ly])
  exact st_c1_h1_c2_h2_b hHeld _ (by kernel_rfl) (hB.trans (hb5.mono hB.size)) (V1.keep (.of_below hb5)) (RatL.to (i2.len (rsz_int (by have := hp2.out; omega) (by have := hp2.out; omega)))) (Lb.below hb5) hlb C
 ·go_simp
  have hb5 : Below W.heap.size W (W.alloc (.cells #[.bool false, .slice none 0 0, .bool false, .slice none 0 0] 60)) := (Below.refl _ _).alloc (Nat.le_refl _) _
  have hBn : Below w9.heap.size w9 _ := (hB.trans (hb5.mono hB.size))
  refine hKK.out _ _ (hS9.out _ hBn) (fun hHeld => ?_)
  clear hKK KK
  (try simp only [Act.put, ly])
  exact st_c1_h1_c2_a_b hHeld _ (by kernel_rfl) (hB.trans (hb5.mono hB.size)) (V1.keep (.of_below hb5)) (made1 W #[.bool false, .slice none 0 0, .bool false, .slice none 0 0] 60) hB.size (Lb.below hb5) hlb (Ne.symm (Nat.ne_of_lt Lb.lt)) C

set_option maxRecDepth 100000 in
set_option maxHeartbeats 8000000 in
theorem st_c1_h1_a_b (hHeld : SXT g1 g2 x1 c1 x2 c2 y1 m1' y2 m2' a1 a2 D1 D2 W) (ls : Array Bool) (hls : ls = #[true, true, true, true, true, true, true, true, true, true, false, false, true, true, false, false]) (hB : Below w9.heap.size w9 W) (V1 : RatL 2 W (fun _ => False) (.agg #[.bool b1, .slice E1 m1 k1, .bool d1, .slice G1 n1 l1]) (p1 : Rat)) (La : Loc W ga 60 #[.bool false, .slice none 0 0, .bool false, .slice none 0 0]) (hla : w9.heap.size ≤ ga) (Lb : Loc W gb 60 #[.bool false, .slice none 0 0, .bool false, .slice none 0 0]) (hlb : w9.heap.size ≤ gb) (hab : ga ≠ gb) (C : CX_Reg40w s w9 g1 g2 x1 c1 x2 c2 y1 m1' y2 m2' a1 a2 D1 D2 z1 z2 p1 p2 Q) :
 wpAnyH Tryz.prog .any opsT (NoPanic Q) (SXT g1 g2 x1 c1 x2 c2 y1 m1' y2 m2' a1 a2 D1 D2) 4 ls (FR_Reg40w s g1 g2 a1 x1 c1 D1 y1 m1' a2 x2 c2 D2 y2 m2' (.pointer (some ⟨ga, 0, none⟩)) (.pointer (some ⟨gb, 0, none⟩)) (.int .i64 p1) (.agg #[.bool b1, .slice E1 m1 k1, .bool d1, .slice G1 n1 l1]) u54 u55) W := by
 subst hls
 unfold FR_Reg40w
 obtain ⟨hS9, hI1, hI2, hR1, hR2, hp1, hp2, hOut⟩ := id C
 refine wpAnyH_ready (rs := [10]) (by kernel_rfl) (by simp) ?_
 refine (AllReadyH.cons opsT_10 (fun KK hKK => ?_) AllReadyH.nil)
 ·go_simp
  refine (rowSum_any _ _ z2 (hI2.out _ hB)).mono ?_
  rintro e W1 ⟨he, hb5⟩
  rw [hR2.out] at he
  subst he
  (try go_wp2_with fail)
  have hBn : Below w9.heap.size w9 _ := (hB.trans (hb5.mono hB.size))
  refine hKK.out _ _ (hS9.out _ hBn) (fun hHeld => ?_)
  clear hKK KK
  (try simp only [Act.put, ly])
  exact st_c1_h1_c2_a_b hHeld _ (by kernel_rfl) (hB.trans (hb5.mono hB.size)) (V1.keep (.of_below hb5)) (La.below hb5) hla (Lb.below hb5) hlb hab C

set_option maxRecDepth 100000 in
set_option maxHeartbeats 8000000 in
theorem st_c1_h1_c2 (hHeld : SXT g1 g2 x1 c1 x2 c2 y1 m1' y2 m2' a1 a2 D1 D2 W) (ls : Array Bool) (hls : ls = #[true, true, true, true, true, true, true, true, true, true, true, false, false, false, false, false]) (hB : Below w9.heap.size w9 W) (V1 : RatL 2 W (fun _ => False) (.agg #[.bool b1, .slice E1 m1 k1, .bool d1, .slice G1 n1 l1]) (p1 : Rat)) (C : CX_Reg40w s w9 g1 g2 x1 c1 x2 c2 y1 m1' y2 m2' a1 a2 D1 D2 z1 z2 p1 p2 Q) :
 wpAnyH Tryz.prog .any opsT (NoPanic Q) (SXT g1 g2 x1 c1 x2 c2 y1 m1' y2 m2' a1 a2 D1 D2) 5 ls (FR_Reg40w s g1 g2 a1 x1 c1 D1 y1 m1' a2 x2 c2 D2 y2 m2' u7 u8 (.int .i64 p1) (.agg #[.bool b1, .slice E1 m1 k1, .bool d1, .slice G1 n1 l1]) (.int .i64 p2) u55) W := by
 subst hls
 unfold FR_Reg40w
 obtain ⟨hS9, hI1, hI2, hR1, hR2, hp1, hp2, hOut⟩ := id C
 refine wpAnyH_ready (rs := [11, 12, 13]) (by kernel_rfl) (by simp) ?_
 refine (AllReadyH.cons opsT_11 (fun KK hKK => ?_) (AllReadyH.cons opsT_12 (fun KK hKK => ?_) (AllReadyH.cons opsT_13 (fun KK hKK => ?_) AllReadyH.nil)))
 ·go_simp
  refine (lwhole_any _ p2 (by have := hp2.out; omega) (by have := hp2.out; omega)).mono ?_
  rintro e W1 ⟨v2, rfl, i2, hb5⟩
  obtain ⟨b2, E2, m2, k2, d2, G2, n2, l2, rfl, i2, -, -⟩ := i2.op
  (try go_wp2_with fail)
  have hBn : Below w9.heap.size w9 _ := (hB.trans (hb5.mono hB.size))
  refine hKK.out _ _ (hS9.out _ hBn) (fun hHeld => ?_)
  clear hKK KK
  (try simp only [Act.put, ly])
  exact st_c1_h1_c2_h2 hHeld _ (by kernel_rfl) (hB.trans (hb5.mono hB.size)) (V1.keep (.of_below hb5)) (RatL.to (i2.len (rsz_int (by have := hp2.out; omega) (by have := hp2.out; omega)))) C
 ·go_simp
  have hb5 : Below W.heap.size W (W.alloc (.cells #[.bool false, .slice none 0 0, .bool false, .slice none 0 0] 60)) := (Below.refl _ _).alloc (Nat.le_refl _) _
  have hBn : Below w9.heap.size w9 _ := (hB.trans (hb5.mono hB.size))
  refine hKK.out _ _ (hS9.out _ hBn) (fun hHeld => ?_)
  clear hKK KK
  (try simp only [Act.put, ly])
  exact st_c1_h1_c2_a hHeld _ (by kernel_rfl) (hB.trans (hb5.mono hB.size)) (V1.keep (.of_below hb5)) (made1 W #[.bool false, .slice none 0 0, .bool false, .slice none 0 0] 60) hB.size C
 ·go_simp
  have hb5 : Below W.heap.size W (W.alloc (.cells #[.bool false, .slice none 0 0, .bool false, .slice none 0 0] 60)) := (Below.refl _ _).alloc (Nat.le_refl _) _
  have hBn : Below w9.heap.size w9 _ := (hB.trans (hb5.mono hB.size))
  refine hKK.out _ _ (hS9.out _ hBn) (fun hHeld => ?_)
  clear hKK KK
  (try simp only [Act.put, ly])
  exact st_c1_h1_c2_b hHeld _ (by kernel_rfl) (hB.trans (hb5.mono hB.size)) (V1.keep (.of_below hb5)) (made1 W #[.bool false, .slice none 0 0, .bool false, .slice none 0 0] 60) hB.size C

set_option maxRecDepth 100000 in
set_option maxHeartbeats 8000000 in
theorem st_c1_h1_a (hHeld : SXT g1 g2 x1 c1 x2 c2 y1 m1' y2 m2' a1 a2 D1 D2 W) (ls : Array Bool) (hls : ls = #[true, true, true, true, true, true, true, true, true, true, false, false, true, false, false, false]) (hB : Below w9.heap.size w9 W) (V1 : RatL 2 W (fun _ => False) (.agg #[.bool b1, .slice E1 m1 k1, .bool d1, .slice G1 n1 l1]) (p1 : Rat)) (La : Loc W ga 60 #[.bool false, .slice none 0 0, .bool false, .slice none 0 0]) (hla : w9.heap.size ≤ ga) (C : CX_Reg40w s w9 g1 g2 x1 c1 x2 c2 y1 m1' y2 m2' a1 a2 D1 D2 z1 z2 p1 p2 Q) :
 wpAnyH Tryz.prog .any opsT (NoPanic Q) (SXT g1 g2 x1 c1 x2 c2 y1 m1' y2 m2' a1 a2 D1 D2) 5 ls (FR_Reg40w s g1 g2 a1 x1 c1 D1 y1 m1' a2 x2 c2 D2 y2 m2' (.pointer (some ⟨ga, 0, none⟩)) u8 (.int .i64 p1) (.agg #[.bool b1, .slice E1 m1 k1, .bool d1, .slice G1 n1 l1]) u54 u55) W := by
 subst hls
 unfold FR_Reg40w
 obtain ⟨hS9, hI1, hI2, hR1, hR2, hp1, hp2, hOut⟩ := id C
 refine wpAnyH_ready (rs := [10, 13]) (by kernel_rfl) (by simp) ?_
 refine (AllReadyH.cons opsT_10 (fun KK hKK => ?_) (AllReadyH.cons opsT_13 (fun KK hKK => ?_) AllReadyH.nil))
 ·go_simp
  refine (rowSum_any _ _ z2 (hI2.out _ hB)).mono ?_
  rintro e W1 ⟨he, hb5⟩
  rw [hR2.out] at he
  subst he
  (try go_wp2_with fail)
  have hBn : Below w9.heap.size w9 _ := (hB.trans (hb5.mono hB.size))
  refine hKK.out _ _ (hS9.out _ hBn) (fun hHeld => ?_)
  clear hKK KK
  (try simp only [Act.put, ly])
  exact st_c1_h1_c2_a hHeld _ (by kernel_rfl) (hB.trans (hb5.mono hB.size)) (V1.keep (.of_below hb5)) (La.below hb5) hla C
 ·go_simp
  have hb5 : Below W.heap.size W (W.alloc (.cells #[.bool false, .slice none 0 0, .bool false, .slice none 0 0] 60)) := (Below.refl _ _).alloc (Nat.le_refl _) _
  have hBn : Below w9.heap.size w9 _ := (hB.trans (hb5.mono hB.size))
  refine hKK.out _ _ (hS9.out _ hBn) (fun hHeld => ?_)
  clear hKK KK
  (try simp only [Act.put, ly])
  exact st_c1_h1_a_b hHeld _ (by kernel_rfl) (hB.trans (hb5.mono hB.size)) (V1.keep (.of_below hb5)) (La.below hb5) hla (made1 W #[.bool false, .slice none 0 0, .bool false, .slice none 0 0] 60) hB.size (Nat.ne_of_lt La.lt) C

set_option maxRecDepth 100000 in
set_option maxHeartbeats 8000000 in
theorem st_c1_h1_b (hHeld : SXT g1 g2 x1 c1 x2 c2 y1 m1' y2 m2' a1 a2 D1 D2 W) (ls : Array Bool) (hls : ls = #[true, true, true, true, true, true, true, true, true, true, false, false, false, true, false, false]) (hB : Below w9.heap.size w9 W) (V1 : RatL 2 W (fun _ => False) (.agg #[.bool b1, .slice E1 m1 k1, .bool d1, .slice G1 n1 l1]) (p1 : Rat)) (Lb : Loc W gb 60 #[.bool false, .slice none 0 0, .bool false, .slice none 0 0]) (hlb : w9.heap.size ≤ gb) (C : CX_Reg40w s w9 g1 g2 x1 c1 x2 c2 y1 m1' y2 m2' a1 a2 D1 D2 z1 z2 p1 p2 Q) :
 wpAnyH Tryz.prog .any opsT (NoPanic Q) (SXT g1 g2 x1 c1 x2 c2 y1 m1' y2 m2' a1 a2 D1 D2) 5 ls (FR_Reg40w s g1 g2 a1 x1 c1 D1 y1 m1' a2 x2 c2 D2 y2 m2' u7 (.pointer (some ⟨gb, 0, none⟩)) (.int .i64 p1) (.agg #[.bool b1, .slice E1 m1 k1, .bool d1, .slice G1 n1 l1]) u54 u55) W := by
 subst hls
 unfold FR_Reg40w
 obtain ⟨hS9, hI1, hI2, hR1, hR2, hp1, hp2, hOut⟩ := id C
 refine wpAnyH_ready (rs := [10, 12]) (by kernel_rfl) (by simp) ?_
 refine (AllReadyH.cons opsT_10 (fun KK hKK => ?_) (AllReadyH.cons opsT_12 (fun KK hKK => ?_) AllReadyH.nil))
 ·go_simp
  refine (rowSum_any _ _ z2 (hI2.out _ hB)).mono ?_
  rintro e W1 ⟨he, hb5⟩
  rw [hR2.out] at he
  subst he
  (try go_wp2_with fail)
  have hBn : Below w9.heap.size w9 _ := (hB.trans (hb5.mono hB.size))
  refine hKK.out _ _ (hS9.out _ hBn) (fun hHeld => ?_)
  clear hKK KK
  (try simp only [Act.put, ly])
  exact st_c1_h1_c2_b hHeld _ (by kernel_rfl) (hB.trans (hb5.mono hB.size)) (V1.keep (.of_below hb5)) (Lb.below hb5) hlb C
 ·go_simp
  have hb5 : Below W.heap.size W (W.alloc (.cells #[.bool false, .slice none 0 0, .bool false, .slice none 0 0] 60)) := (Below.refl _ _).alloc (Nat.le_refl _) _
  have hBn : Below w9.heap.size w9 _ := (hB.trans (hb5.mono hB.size))
  refine hKK.out _ _ (hS9.out _ hBn) (fun hHeld => ?_)
  clear hKK KK
  (try simp only [Act.put, ly])
  exact st_c1_h1_a_b hHeld _ (by kernel_rfl) (hB.trans (hb5.mono hB.size)) (V1.keep (.of_below hb5)) (made1 W #[.bool false, .slice none 0 0, .bool false, .slice none 0 0] 60) hB.size (Lb.below hb5) hlb (Ne.symm (Nat.ne_of_lt Lb.lt)) C

set_option maxRecDepth 100000 in
set_option maxHeartbeats 8000000 in
theorem st_c1_a_b (hHeld : SXT g1 g2 x1 c1 x2 c2 y1 m1' y2 m2' a1 a2 D1 D2 W) (ls : Array Bool) (hls : ls = #[true, true, true, true, true, false, true, true, true, true, false, false, true, true, false, false]) (hB : Below w9.heap.size w9 W) (La : Loc W ga 60 #[.bool false, .slice none 0 0, .bool false, .slice none 0 0]) (hla : w9.heap.size ≤ ga) (Lb : Loc W gb 60 #[.bool false, .slice none 0 0, .bool false, .slice none 0 0]) (hlb : w9.heap.size ≤ gb) (hab : ga ≠ gb) (C : CX_Reg40w s w9 g1 g2 x1 c1 x2 c2 y1 m1' y2 m2' a1 a2 D1 D2 z1 z2 p1 p2 Q) :
 wpAnyH Tryz.prog .any opsT (NoPanic Q) (SXT g1 g2 x1 c1 x2 c2 y1 m1' y2 m2' a1 a2 D1 D2) 5 ls (FR_Reg40w s g1 g2 a1 x1 c1 D1 y1 m1' a2 x2 c2 D2 y2 m2' (.pointer (some ⟨ga, 0, none⟩)) (.pointer (some ⟨gb, 0, none⟩)) (.int .i64 p1) u49 u54 u55) W := by
 subst hls
 unfold FR_Reg40w
 obtain ⟨hS9, hI1, hI2, hR1, hR2, hp1, hp2, hOut⟩ := id C
 refine wpAnyH_ready (rs := [5]) (by kernel_rfl) (by simp) ?_
 refine (AllReadyH.cons opsT_5 (fun KK hKK => ?_) AllReadyH.nil)
 ·go_simp
  refine (lwhole_any _ p1 (by have := hp1.out; omega) (by have := hp1.out; omega)).mono ?_
  rintro e W1 ⟨v1, rfl, i1, hb5⟩
  obtain ⟨b1, E1, m1, k1, d1, G1, n1, l1, rfl, i1, -, -⟩ := i1.op
  (try go_wp2_with fail)
  have hBn : Below w9.heap.size w9 _ := (hB.trans (hb5.mono hB.size))
  refine hKK.out _ _ (hS9.out _ hBn) (fun hHeld => ?_)
  clear hKK KK
  (try simp only [Act.put, ly])
  exact st_c1_h1_a_b hHeld _ (by kernel_rfl) (hB.trans (hb5.mono hB.size)) (RatL.to (i1.len (rsz_int (by have := hp1.out; omega) (by have := hp1.out; omega)))) (La.below hb5) hla (Lb.below hb5) hlb hab C

set_option maxRecDepth 100000 in
set_option maxHeartbeats 8000000 in
theorem st_c1_h1 (hHeld : SXT g1 g2 x1 c1 x2 c2 y1 m1' y2 m2' a1 a2 D1 D2 W) (ls : Array Bool) (hls : ls = #[true, true, true, true, true, true, true, true, true, true, false, false, false, false, false, false]) (hB : Below w9.heap.size w9 W) (V1 : RatL 2 W (fun _ => False) (.agg #[.bool b1, .slice E1 m1 k1, .bool d1, .slice G1 n1 l1]) (p1 : Rat)) (C : CX_Reg40w s w9 g1 g2 x1 c1 x2 c2 y1 m1' y2 m2' a1 a2 D1 D2 z1 z2 p1 p2 Q) :
 wpAnyH Tryz.prog .any opsT (NoPanic Q) (SXT g1 g2 x1 c1 x2 c2 y1 m1' y2 m2' a1 a2 D1 D2) 6 ls (FR_Reg40w s g1 g2 a1 x1 c1 D1 y1 m1' a2 x2 c2 D2 y2 m2' u7 u8 (.int .i64 p1) (.agg #[.bool b1, .slice E1 m1 k1, .bool d1, .slice G1 n1 l1]) u54 u55) W := by
 subst hls
 unfold FR_Reg40w
 obtain ⟨hS9, hI1, hI2, hR1, hR2, hp1, hp2, hOut⟩ := id C
 refine wpAnyH_ready (rs := [10, 12, 13]) (by kernel_rfl) (by simp) ?_
 refine (AllReadyH.cons opsT_10 (fun KK hKK => ?_) (AllReadyH.cons opsT_12 (fun KK hKK => ?_) (AllReadyH.cons opsT_13 (fun KK hKK => ?_) AllReadyH.nil)))
 ·go_simp
  refine (rowSum_any _ _ z2 (hI2.out _ hB)).mono ?_
  rintro e W1 ⟨he, hb5⟩
  rw [hR2.out] at he
  subst he
  (try go_wp2_with fail)
  have hBn : Below w9.heap.size w9 _ := (hB.trans (hb5.mono hB.size))
  refine hKK.out _ _ (hS9.out _ hBn) (fun hHeld => ?_)
  clear hKK KK
  (try simp only [Act.put, ly])
  exact st_c1_h1_c2 hHeld _ (by kernel_rfl) (hB.trans (hb5.mono hB.size)) (V1.keep (.of_below hb5)) C
 ·go_simp
  have hb5 : Below W.heap.size W (W.alloc (.cells #[.bool false, .slice none 0 0, .bool false, .slice none 0 0] 60)) := (Below.refl _ _).alloc (Nat.le_refl _) _
  have hBn : Below w9.heap.size w9 _ := (hB.trans (hb5.mono hB.size))
  refine hKK.out _ _ (hS9.out _ hBn) (fun hHeld => ?_)
  clear hKK KK
  (try simp only [Act.put, ly])
  exact st_c1_h1_a hHeld _ (by kernel_rfl) (hB.trans (hb5.mono hB.size)) (V1.keep (.of_below hb5)) (made1 W #[.bool false, .slice none 0 0, .bool false, .slice none 0 0] 60) hB.size C
 ·go_simp
  have hb5 : Below W.heap.size W (W.alloc (.cells #[.bool false, .slice none 0 0, .bool false, .slice none 0 0] 60)) := (Below.refl _ _).alloc (Nat.le_refl _) _
  have hBn : Below w9.heap.size w9 _ := (hB.trans (hb5.mono hB.size))
  refine hKK.out _ _ (hS9.out _ hBn) (fun hHeld => ?_)
  clear hKK KK
  (try simp only [Act.put, ly])
  exact st_c1_h1_b hHeld _ (by kernel_rfl) (hB.trans (hb5.mono hB.size)) (V1.keep (.of_below hb5)) (made1 W #[.bool false, .slice none 0 0, .bool false, .slice none 0 0] 60) hB.size C

set_option maxRecDepth 100000 in
set_option maxHeartbeats 8000000 in
theorem st_c1_a (hHeld : SXT g1 g2 x1 c1 x2 c2 y1 m1' y2 m2' a1 a2 D1 D2 W) (ls : Array Bool) (hls : ls = #[true, true, true, true, true, false, true, true, true, true, false, false, true, false, false, false]) (hB : Below w9.heap.size w9 W) (La : Loc W ga 60 #[.bool false, .slice none 0 0, .bool false, .slice none 0 0]) (hla : w9.heap.size ≤ ga) (C : CX_Reg40w s w9 g1 g2 x1 c1 x2 c2 y1 m1' y2 m2' a1 a2 D1 D2 z1 z2 p1 p2 Q) :
 wpAnyH Tryz.prog .any opsT (NoPanic Q) (SXT g1 g2 x1 c1 x2 c2 y1 m1' y2 m2' a1 a2 D1 D2) 6 ls (FR_Reg40w s g1 g2 a1 x1 c1 D1 y1 m1' a2 x2 c2 D2 y2 m2' (.pointer (some ⟨ga, 0, none⟩)) u8 (.int .i64 p1) u49 u54 u55) W := by
 subst hls
 unfold FR_Reg40w
 obtain ⟨hS9, hI1, hI2, hR1, hR2, hp1, hp2, hOut⟩ := id C
 refine wpAnyH_ready (rs := [5, 13]) (by kernel_rfl) (by simp) ?_
 refine (AllReadyH.cons opsT_5 (fun KK hKK => ?_) (AllReadyH.cons opsT_13 (fun KK hKK => ?_) AllReadyH.nil))
 ·go_simp
  refine (lwhole_any _ p1 (by have := hp1.out; omega) (by have := hp1.out; omega)).mono ?_
  rintro e W1 ⟨v1, rfl, i1, hb5⟩
  obtain ⟨b1, E1, m1, k1, d1, G1, n1, l1, rfl, i1, -, -⟩ := i1.op
  (try go_wp2_with fail)
  have hBn : Below w9.heap.size w9 _ := (hB.trans (hb5.mono hB.size))
  refine hKK.out _ _ (hS9.out _ hBn) (fun hHeld => ?_)
  clear hKK KK
  (try simp only [Act.put, ly])
  exact st_c1_h1_a hHeld _ (by kernel_rfl) (hB.trans (hb5.mono hB.size)) (RatL.to (i1.len (rsz_int (by have := hp1.out; omega) (by have := hp1.out; omega)))) (La.below hb5) hla C
 ·go_simp
  have hb5 : Below W.heap.size W (W.alloc (.cells #[.bool false, .slice none 0 0, .bool false, .slice none 0 0] 60)) := (Below.refl _ _).alloc (Nat.le_refl _) _
  have hBn : Below w9.heap.size w9 _ := (hB.trans (hb5.mono hB.size))
  refine hKK.out _ _ (hS9.out _ hBn) (fun hHeld => ?_)
  clear hKK KK
  (try simp only [Act.put, ly])
  exact st_c1_a_b hHeld _ (by kernel_rfl) (hB.trans (hb5.mono hB.size)) (La.below hb5) hla (made1 W #[.bool false, .slice none 0 0, .bool false, .slice none 0 0] 60) hB.size (Nat.ne_of_lt La.lt) C

set_option maxRecDepth 100000 in
set_option maxHeartbeats 8000000 in
theorem st_c1_b (hHeld : SXT g1 g2 x1 c1 x2 c2 y1 m1' y2 m2' a1 a2 D1 D2 W) (ls : Array Bool) (hls : ls = #[true, true, true, true, true, false, true, true, true, true, false, false, false, true, false, false]) (hB : Below w9.heap.size w9 W) (Lb : Loc W gb 60 #[.bool false, .slice none 0 0, .bool false, .slice none 0 0]) (hlb : w9.heap.size ≤ gb) (C : CX_Reg40w s w9 g1 g2 x1 c1 x2 c2 y1 m1' y2 m2' a1 a2 D1 D2 z1 z2 p1 p2 Q) :
 wpAnyH Tryz.prog .any opsT (NoPanic Q) (SXT g1 g2 x1 c1 x2 c2 y1 m1' y2 m2' a1 a2 D1 D2) 6 ls (FR_Reg40w s g1 g2 a1 x1 c1 D1 y1 m1' a2 x2 c2 D2 y2 m2' u7 (.pointer (some ⟨gb, 0, none⟩)) (.int .i64 p1) u49 u54 u55) W := by
 subst hls
 unfold FR_Reg40w
 obtain ⟨hS9, hI1, hI2, hR1, hR2, hp1, hp2, hOut⟩ := id C
 refine wpAnyH_ready (rs := [5, 12]) (by kernel_rfl) (by simp) ?_
 refine (AllReadyH.cons opsT_5 (fun KK hKK => ?_) (AllReadyH.cons opsT_12 (fun KK hKK => ?_) AllReadyH.nil))
 ·go_simp
  refine (lwhole_any _ p1 (by have := hp1.out; omega) (by have := hp1.out; omega)).mono ?_
  rintro e W1 ⟨v1, rfl, i1, hb5⟩
  obtain ⟨b1, E1, m1, k1, d1, G1, n1, l1, rfl, i1, -, -⟩ := i1.op
  (try go_wp2_with fail)
  have hBn : Below w9.heap.size w9 _ := (hB.trans (hb5.mono hB.size))
  refine hKK.out _ _ (hS9.out _ hBn) (fun hHeld => ?_)
  clear hKK KK
  (try simp only [Act.put, ly])
  exact st_c1_h1_b hHeld _ (by kernel_rfl) (hB.trans (hb5.mono hB.size)) (RatL.to (i1.len (rsz_int (by have := hp1.out; omega) (by have := hp1.out; omega)))) (Lb.below hb5) hlb C
 ·go_simp
  have hb5 : Below W.heap.size W (W.alloc (.cells #[.bool false, .slice none 0 0, .bool false, .slice none 0 0] 60)) := (Below.refl _ _).alloc (Nat.le_refl _) _
  have hBn : Below w9.heap.size w9 _ := (hB.trans (hb5.mono hB.size))
  refine hKK.out _ _ (hS9.out _ hBn) (fun hHeld => ?_)
  clear hKK KK
  (try simp only [Act.put, ly])
  exact st_c1_a_b hHeld _ (by kernel_rfl) (hB.trans (hb5.mono hB.size)) (made1 W #[.bool false, .slice none 0 0, .bool false, .slice none 0 0] 60) hB.size (Lb.below hb5) hlb (Ne.symm (Nat.ne_of_lt Lb.lt)) C

set_option maxRecDepth 100000 in
set_option maxHeartbeats 8000000 in
theorem st_a_b (hHeld : SXT g1 g2 x1 c1 x2 c2 y1 m1' y2 m2' a1 a2 D1 D2 W) (ls : Array Bool) (hls : ls = #[true, true, true, true, false, false, true, true, true, true, false, false, true, true, false, false]) (hB : Below w9.heap.size w9 W) (La : Loc W ga 60 #[.bool false, .slice none 0 0, .bool false, .slice none 0 0]) (hla : w9.heap.size ≤ ga) (Lb : Loc W gb 60 #[.bool false, .slice none 0 0, .bool false, .slice none 0 0]) (hlb : w9.heap.size ≤ gb) (hab : ga ≠ gb) (C : CX_Reg40w s w9 g1 g2 x1 c1 x2 c2 y1 m1' y2 m2' a1 a2 D1 D2 z1 z2 p1 p2 Q) :
 wpAnyH Tryz.prog .any opsT (NoPanic Q) (SXT g1 g2 x1 c1 x2 c2 y1 m1' y2 m2' a1 a2 D1 D2) 6 ls (FR_Reg40w s g1 g2 a1 x1 c1 D1 y1 m1' a2 x2 c2 D2 y2 m2' (.pointer (some ⟨ga, 0, none⟩)) (.pointer (some ⟨gb, 0, none⟩)) u48 u49 u54 u55) W := by
 subst hls
 unfold FR_Reg40w
 obtain ⟨hS9, hI1, hI2, hR1, hR2, hp1, hp2, hOut⟩ := id C
 refine wpAnyH_ready (rs := [4]) (by kernel_rfl) (by simp) ?_
 refine (AllReadyH.cons opsT_4 (fun KK hKK => ?_) AllReadyH.nil)
 ·go_simp
  refine (rowSum_any _ _ z1 (hI1.out _ hB)).mono ?_
  rintro e W1 ⟨he, hb5⟩
  rw [hR1.out] at he
  subst he
  (try go_wp2_with fail)
  have hBn : Below w9.heap.size w9 _ := (hB.trans (hb5.mono hB.size))
  refine hKK.out _ _ (hS9.out _ hBn) (fun hHeld => ?_)
  clear hKK KK
  (try simp only [Act.put, ly])
  exact st_c1_a_b hHeld _ (by kernel_rfl) (hB.trans (hb5.mono hB.size)) (La.below hb5) hla (Lb.below hb5) hlb hab C

set_option maxRecDepth 100000 in
set_option maxHeartbeats 8000000 in
theorem st_c1 (hHeld : SXT g1 g2 x1 c1 x2 c2 y1 m1' y2 m2' a1 a2 D1 D2 W) (ls : Array Bool) (hls : ls = #[true, true, true, true, true, false, true, true, true, true, false, false, false, false, false, false]) (hB : Below w9.heap.size w9 W) (C : CX_Reg40w s w9 g1 g2 x1 c1 x2 c2 y1 m1' y2 m2' a1 a2 D1 D2 z1 z2 p1 p2 Q) :
 wpAnyH Tryz.prog .any opsT (NoPanic Q) (SXT g1 g2 x1 c1 x2 c2 y1 m1' y2 m2' a1 a2 D1 D2) 7 ls (FR_Reg40w s g1 g2 a1 x1 c1 D1 y1 m1' a2 x2 c2 D2 y2 m2' u7 u8 (.int .i64 p1) u49 u54 u55) W := by
 subst hls
 unfold FR_Reg40w
 obtain ⟨hS9, hI1, hI2, hR1, hR2, hp1, hp2, hOut⟩ := id C
 refine wpAnyH_ready (rs := [5, 12, 13]) (by kernel_rfl) (by simp) ?_
 refine (AllReadyH.cons opsT_5 (fun KK hKK => ?_) (AllReadyH.cons opsT_12 (fun KK hKK => ?_) (AllReadyH.cons opsT_13 (fun KK hKK => ?_) AllReadyH.nil)))
 ·go_simp
  refine (lwhole_any _ p1 (by have := hp1.out; omega) (by have := hp1.out; omega)).mono ?_
  rintro e W1 ⟨v1, rfl, i1, hb5⟩
  obtain ⟨b1, E1, m1, k1, d1, G1, n1, l1, rfl, i1, -, -⟩ := i1.op
  (try go_wp2_with fail)
  have hBn : Below w9.heap.size w9 _ := (hB.trans (hb5.mono hB.size))
  refine hKK.out _ _ (hS9.out _ hBn) (fun hHeld => ?_)
  clear hKK KK
  (try simp only [Act.put, ly])
  exact st_c1_h1 hHeld _ (by kernel_rfl) (hB.trans (hb5.mono hB.size)) (RatL.to (i1.len (rsz_int (by have := hp1.out; omega) (by have := hp1.out; omega)))) C
 ·go_simp
  have hb5 : Below W.heap.size W (W.alloc (.cells #[.bool false, .slice none 0 0, .bool false, .slice none 0 0] 60)) := (Below.refl _ _).alloc (Nat.le_refl _) _
  have hBn : Below w9.heap.size w9 _ := (hB.trans (hb5.mono hB.size))
  refine hKK.out _ _ (hS9.out _ hBn) (fun hHeld => ?_)
  clear hKK KK
  (try simp only [Act.put, ly])
  exact st_c1_a hHeld _ (by kernel_rfl) (hB.trans (hb5.mono hB.size)) (made1 W #[.bool false, .slice none 0 0, .bool false, .slice none 0 0] 60) hB.size C
 ·go_simp
  have hb5 : Below W.heap.size W (W.alloc (.cells #[.bool false, .slice none 0 0, .bool false, .slice none 0 0] 60)) := (Below.refl _ _).alloc (Nat.le_refl _) _
  have hBn : Below w9.heap.size w9 _ := (hB.trans (hb5.mono hB.size))
  refine hKK.out _ _ (hS9.out _ hBn) (fun hHeld => ?_)
  clear hKK KK
  (try simp only [Act.put, ly])
  exact st_c1_b hHeld _ (by kernel_rfl) (hB.trans (hb5.mono hB.size)) (made1 W #[.bool false, .slice none 0 0, .bool false, .slice none 0 0] 60) hB.size C

set_option maxRecDepth 100000 in
set_option maxHeartbeats 8000000 in
theorem st_a (hHeld : SXT g1 g2 x1 c1 x2 c2 y1 m1' y2 m2' a1 a2 D1 D2 W) (ls : Array Bool) (hls : ls = #[true, true, true, true, false, false, true, true, true, true, false, false, true, false, false, false]) (hB : Below w9.heap.size w9 W) (La : Loc W ga 60 #[.bool false, .slice none 0 0, .bool false, .slice none 0 0]) (hla : w9.heap.size ≤ ga) (C : CX_Reg40w s w9 g1 g2 x1 c1 x2 c2 y1 m1' y2 m2' a1 a2 D1 D2 z1 z2 p1 p2 Q) :
 wpAnyH Tryz.prog .any opsT (NoPanic Q) (SXT g1 g2 x1 c1 x2 c2 y1 m1' y2 m2' a1 a2 D1 D2) 7 ls (FR_Reg40w s g1 g2 a1 x1 c1 D1 y1 m1' a2 x2 c2 D2 y2 m2' (.pointer (some ⟨ga, 0, none⟩)) u8 u48 u49 u54 u55) W := by
 subst hls
 unfold FR_Reg40w
 obtain ⟨hS9, hI1, hI2, hR1, hR2, hp1, hp2, hOut⟩ := id C
 refine wpAnyH_ready (rs := [4, 13]) (by kernel_rfl) (by simp) ?_
 refine (AllReadyH.cons opsT_4 (fun KK hKK => ?_) (AllReadyH.cons opsT_13 (fun KK hKK => ?_) AllReadyH.nil))
 ·go_simp
  refine (rowSum_any _ _ z1 (hI1.out _ hB)).mono ?_
  rintro e W1 ⟨he, hb5⟩
  rw [hR1.out] at he
  subst he
  (try go_wp2_with fail)
  have hBn : Below w9.heap.size w9 _ := (hB.trans (hb5.mono hB.size))
  refine hKK.out _ _ (hS9.out _ hBn) (fun hHeld => ?_)
  clear hKK KK
  (try simp only [Act.put, ly])
  exact st_c1_a hHeld _ (by kernel_rfl) (hB.trans (hb5.mono hB.size)) (La.below hb5) hla C
 ·go_simp
  have hb5 : Below W.heap.size W (W.alloc (.cells #[.bool false, .slice none 0 0, .bool false, .slice none 0 0] 60)) := (Below.refl _ _).alloc (Nat.le_refl _) _
  have hBn : Below w9.heap.size w9 _ := (hB.trans (hb5.mono hB.size))
  refine hKK.out _ _ (hS9.out _ hBn) (fun hHeld => ?_)
  clear hKK KK
  (try simp only [Act.put, ly])
  exact st_a_b hHeld _ (by kernel_rfl) (hB.trans (hb5.mono hB.size)) (La.below hb5) hla (made1 W #[.bool false, .slice none 0 0, .bool false, .slice none 0 0] 60) hB.size (Nat.ne_of_lt La.lt) C

set_option maxRecDepth 100000 in
set_option maxHeartbeats 8000000 in
theorem st_b (hHeld : SXT g1 g2 x1 c1 x2 c2 y1 m1' y2 m2' a1 a2 D1 D2 W) (ls : Array Bool) (hls : ls = #[true, true, true, true, false, false, true, true, true, true, false, false, false, true, false, false]) (hB : Below w9.heap.size w9 W) (Lb : Loc W gb 60 #[.bool false, .slice none 0 0, .bool false, .slice none 0 0]) (hlb : w9.heap.size ≤ gb) (C : CX_Reg40w s w9 g1 g2 x1 c1 x2 c2 y1 m1' y2 m2' a1 a2 D1 D2 z1 z2 p1 p2 Q) :
 wpAnyH Tryz.prog .any opsT (NoPanic Q) (SXT g1 g2 x1 c1 x2 c2 y1 m1' y2 m2' a1 a2 D1 D2) 7 ls (FR_Reg40w s g1 g2 a1 x1 c1 D1 y1 m1' a2 x2 c2 D2 y2 m2' u7 (.pointer (some ⟨gb, 0, none⟩)) u48 u49 u54 u55) W := by
 subst hls
 unfold FR_Reg40w
 obtain ⟨hS9, hI1, hI2, hR1, hR2, hp1, hp2, hOut⟩ := id C
 refine wpAnyH_ready (rs := [4, 12]) (by kernel_rfl) (by simp) ?_
 refine (AllReadyH.cons opsT_4 (fun KK hKK => ?_) (AllReadyH.cons opsT_12 (fun KK hKK => ?_) AllReadyH.nil))
 ·go_simp
  refine (rowSum_any _ _ z1 (hI1.out _ hB)).mono ?_
  rintro e W1 ⟨he, hb5⟩
  rw [hR1.out] at he
  subst he
  (try go_wp2_with fail)
  have hBn : Below w9.heap.size w9 _ := (hB.trans (hb5.mono hB.size))
  refine hKK.out _ _ (hS9.out _ hBn) (fun hHeld => ?_)
  clear hKK KK
  (try simp only [Act.put, ly])
  exact st_c1_b hHeld _ (by kernel_rfl) (hB.trans (hb5.mono hB.size)) (Lb.below hb5) hlb C
 ·go_simp
  have hb5 : Below W.heap.size W (W.alloc (.cells #[.bool false, .slice none 0 0, .bool false, .slice none 0 0] 60)) := (Below.refl _ _).alloc (Nat.le_refl _) _
  have hBn : Below w9.heap.size w9 _ := (hB.trans (hb5.mono hB.size))
  refine hKK.out _ _ (hS9.out _ hBn) (fun hHeld => ?_)
  clear hKK KK
  (try simp only [Act.put, ly])
  exact st_a_b hHeld _ (by kernel_rfl) (hB.trans (hb5.mono hB.size)) (made1 W #[.bool false, .slice none 0 0, .bool false, .slice none 0 0] 60) hB.size (Lb.below hb5) hlb (Ne.symm (Nat.ne_of_lt Lb.lt)) C

set_option maxRecDepth 100000 in
set_option maxHeartbeats 8000000 in
theorem st_O (hHeld : SXT g1 g2 x1 c1 x2 c2 y1 m1' y2 m2' a1 a2 D1 D2 W) (ls : Array Bool) (hls : ls = #[true, true, true, true, false, false, true, true, true, true, false, false, false, false, false, false]) (hB : Below w9.heap.size w9 W) (C : CX_Reg40w s w9 g1 g2 x1 c1 x2 c2 y1 m1' y2 m2' a1 a2 D1 D2 z1 z2 p1 p2 Q) :
 wpAnyH Tryz.prog .any opsT (NoPanic Q) (SXT g1 g2 x1 c1 x2 c2 y1 m1' y2 m2' a1 a2 D1 D2) 8 ls (FR_Reg40w s g1 g2 a1 x1 c1 D1 y1 m1' a2 x2 c2 D2 y2 m2' u7 u8 u48 u49 u54 u55) W := by
 subst hls
 unfold FR_Reg40w
 obtain ⟨hS9, hI1, hI2, hR1, hR2, hp1, hp2, hOut⟩ := id C
 refine wpAnyH_ready (rs := [4, 12, 13]) (by kernel_rfl) (by simp) ?_
 refine (AllReadyH.cons opsT_4 (fun KK hKK => ?_) (AllReadyH.cons opsT_12 (fun KK hKK => ?_) (AllReadyH.cons opsT_13 (fun KK hKK => ?_) AllReadyH.nil)))
 ·go_simp
  refine (rowSum_any _ _ z1 (hI1.out _ hB)).mono ?_
  rintro e W1 ⟨he, hb5⟩
  rw [hR1.out] at he
  subst he
  (try go_wp2_with fail)
  have hBn : Below w9.heap.size w9 _ := (hB.trans (hb5.mono hB.size))
  refine hKK.out _ _ (hS9.out _ hBn) (fun hHeld => ?_)
  clear hKK KK
  (try simp only [Act.put, ly])
  exact st_c1 hHeld _ (by kernel_rfl) (hB.trans (hb5.mono hB.size)) C
 ·go_simp
  have hb5 : Below W.heap.size W (W.alloc (.cells #[.bool false, .slice none 0 0, .bool false, .slice none 0 0] 60)) := (Below.refl _ _).alloc (Nat.le_refl _) _
  have hBn : Below w9.heap.size w9 _ := (hB.trans (hb5.mono hB.size))
  refine hKK.out _ _ (hS9.out _ hBn) (fun hHeld => ?_)
  clear hKK KK
  (try simp only [Act.put, ly])
  exact st_a hHeld _ (by kernel_rfl) (hB.trans (hb5.mono hB.size)) (made1 W #[.bool false, .slice none 0 0, .bool false, .slice none 0 0] 60) hB.size C
 ·go_simp
  have hb5 : Below W.heap.size W (W.alloc (.cells #[.bool false, .slice none 0 0, .bool false, .slice none 0 0] 60)) := (Below.refl _ _).alloc (Nat.le_refl _) _
  have hBn : Below w9.heap.size w9 _ := (hB.trans (hb5.mono hB.size))
  refine hKK.out _ _ (hS9.out _ hBn) (fun hHeld => ?_)
  clear hKK KK
  (try simp only [Act.put, ly])
  exact st_b hHeld _ (by kernel_rfl) (hB.trans (hb5.mono hB.size)) (made1 W #[.bool false, .slice none 0 0, .bool false, .slice none 0 0] 60) hB.size C

set_option maxRecDepth 100000 in
set_option maxHeartbeats 8000000 in
theorem reg (i1 : 0 < x1) (i2 : 0 < x2) (hS9 : Hid (∀ W, Below w9.heap.size w9 W → SXT g1 g2 x1 c1 x2 c2 y1 m1' y2 m2' a1 a2 D1 D2 W)) (hI1 : Hid (∀ W, Below w9.heap.size w9 W → IntsV W (.slice D1 y1 m1') z1)) (hI2 : Hid (∀ W, Below w9.heap.size w9 W → IntsV W (.slice D2 y2 m2') z2)) (hR1 : Hid (rsumA 0 z1 = p1)) (hR2 : Hid (rsumA 0 z2 = p2)) (hp1 : Hid (1 ≤ p1 ∧ p1 ≤ 1048576)) (hp2 : Hid (1 ≤ p2 ∧ p2 ≤ 1048576)) (hOut : OutT w9 Q g1 g2 p1 p2 u0 u1 u2 u5 u6 u9 u10 u11 u12 u13 u14 u15 u16 u17 u18 u19 u20 u21 u22 u23 u24 u25 u26 u27 u28 u29 u30 u31 u32 u33 u34 u35 u36 u37 u38 u39 u40 u41 u42 u43 u56 u57 u58 u59 u60 u61 u62 u63 u64 u65 u66 u67 u68 u69 u70 u71 u72 u73 u74 u75 u76 u77 u78 u79 u80 u81 u82 u83 u84 u85 u86 u87 u88 u89 u90 u91 u92 u93 u94 u95 u96 u97 u98 u99 u100 u101 u102 u103 u104 u105 u106 u107 u108 u109 u110 u111 u112 u113 u114 u115 u116) :
 (Code.region 3 opsT true).wp Tryz.prog Q ⟨#[u0, u1, u2, (.pointer (some ⟨g1, 0, none⟩)), (.pointer (some ⟨g2, 0, none⟩)), u5, u6, u7, u8, u9, u10, u11, u12, u13, u14, u15, u16, u17, u18, u19, u20, u21, u22, u23, u24, u25, u26, u27, u28, u29, u30, u31, u32, u33, u34, u35, u36, u37, u38, u39, u40, u41, u42, u43, u44, u45, u46, u47, u48, u49, u50, u51, u52, u53, u54, u55, u56, u57, u58, u59, u60, u61, u62, u63, u64, u65, u66, u67, u68, u69, u70, u71, u72, u73, u74, u75, u76, u77, u78, u79, u80, u81, u82, u83, u84, u85, u86, u87, u88, u89, u90, u91, u92, u93, u94, u95, u96, u97, u98, u99, u100, u101, u102, u103, u104, u105, u106, u107, u108, u109, u110, u111, u112, u113, u114, u115, u116], []⟩ w9 := by
 refine wp_region_noPanic ?_
 refine wp_region_held_drew (S := (SXT g1 g2 x1 c1 x2 c2 y1 m1' y2 m2' a1 a2 D1 D2)) (by kernel_rfl) ?_ (fun hHeld => ?_)
 ·exact hS9.out _ (Below.refl _ _).drew
 rw [opsT_size]
 refine wpAnyH_take (i := 0) (v := ?_) opsT_0 (by kernel_rfl) (by kernel_rfl) (by kernel_rfl) (fun _ _ _ h => h) (Or.inl ⟨by kernel_rfl, ?_⟩) hHeld ?_
 rotate_left 1
 ·(intro w hSw; unfold SXT at hSw; (try dsimp only at hSw); first | (go_simp; done) | (go_simp; with_reducible rfl))
 (try simp only [Act.put, ly])
 refine wpAnyH_take (i := 1) (v := ?_) opsT_1 (by kernel_rfl) (by kernel_rfl) (by kernel_rfl) (fun _ _ _ h => h) (Or.inl ⟨by kernel_rfl, ?_⟩) hHeld ?_
 rotate_left 1
 ·(intro w hSw; unfold SXT at hSw; (try dsimp only at hSw); first | (go_simp; done) | (go_simp; with_reducible rfl))
 (try simp only [Act.put, ly])
 refine wpAnyH_take (i := 2) (v := ?_) opsT_2 (by kernel_rfl) (by kernel_rfl) (by kernel_rfl) (fun _ _ _ h => h) (Or.inl ⟨by kernel_rfl, ?_⟩) hHeld ?_
 rotate_left 1
 ·(intro w hSw; unfold SXT at hSw; (try dsimp only at hSw); first | (go_simp; done) | (go_simp; with_reducible rfl))
 (try simp only [Act.put, ly])
 refine wpAnyH_take (i := 3) (v := ?_) opsT_3 (by kernel_rfl) (by kernel_rfl) (by kernel_rfl) (fun _ _ _ h => h) (Or.inl ⟨by kernel_rfl, ?_⟩) hHeld ?_
 rotate_left 1
 ·(intro w hSw; unfold SXT at hSw; (try dsimp only at hSw); first | (go_simp; done) | (go_simp; with_reducible rfl))
 (try simp only [Act.put, ly])
 refine wpAnyH_take (i := 6) (v := ?_) opsT_6 (by kernel_rfl) (by kernel_rfl) (by kernel_rfl) (fun _ _ _ h => h) (Or.inl ⟨by kernel_rfl, ?_⟩) hHeld ?_
 rotate_left 1
 ·(intro w hSw; unfold SXT at hSw; (try dsimp only at hSw); first | (go_simp; done) | (go_simp; with_reducible rfl))
 (try simp only [Act.put, ly])
 refine wpAnyH_take (i := 7) (v := ?_) opsT_7 (by kernel_rfl) (by kernel_rfl) (by kernel_rfl) (fun _ _ _ h => h) (Or.inl ⟨by kernel_rfl, ?_⟩) hHeld ?_
 rotate_left 1
 ·(intro w hSw; unfold SXT at hSw; (try dsimp only at hSw); first | (go_simp; done) | (go_simp; with_reducible rfl))
 (try simp only [Act.put, ly])
 refine wpAnyH_take (i := 8) (v := ?_) opsT_8 (by kernel_rfl) (by kernel_rfl) (by kernel_rfl) (fun _ _ _ h => h) (Or.inl ⟨by kernel_rfl, ?_⟩) hHeld ?_
 rotate_left 1
 ·(intro w hSw; unfold SXT at hSw; (try dsimp only at hSw); first | (go_simp; done) | (go_simp; with_reducible rfl))
 (try simp only [Act.put, ly])
 refine wpAnyH_take (i := 9) (v := ?_) opsT_9 (by kernel_rfl) (by kernel_rfl) (by kernel_rfl) (fun _ _ _ h => h) (Or.inl ⟨by kernel_rfl, ?_⟩) hHeld ?_
 rotate_left 1
 ·(intro w hSw; unfold SXT at hSw; (try dsimp only at hSw); first | (go_simp; done) | (go_simp; with_reducible rfl))
 (try simp only [Act.put, ly])
 exact st_O (s := ⟨u0, u1, u2, u5, u6, u9, u10, u11, u12, u13, u14, u15, u16, u17, u18, u19, u20, u21, u22, u23, u24, u25, u26, u27, u28, u29, u30, u31, u32, u33, u34, u35, u36, u37, u38, u39, u40, u41, u42, u43, u56, u57, u58, u59, u60, u61, u62, u63, u64, u65, u66, u67, u68, u69, u70, u71, u72, u73, u74, u75, u76, u77, u78, u79, u80, u81, u82, u83, u84, u85, u86, u87, u88, u89, u90, u91, u92, u93, u94, u95, u96, u97, u98, u99, u100, u101, u102, u103, u104, u105, u106, u107, u108, u109, u110, u111, u112, u113, u114, u115, u116⟩) hHeld _ (by kernel_rfl) ((Below.refl _ _).drew) ⟨hS9, hI1, hI2, hR1, hR2, hp1, hp2, hOut⟩
end
end Reg40w
end Go.Proofs.YtdambnieminnfaaGreat

