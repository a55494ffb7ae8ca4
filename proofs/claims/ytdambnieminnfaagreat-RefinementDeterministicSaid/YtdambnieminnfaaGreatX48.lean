/- Contracts of the functions that the statements reach, part 48. -/
import Derived.Test.YtdambnieminnfaaGreatRows
import Derived.Test.YtdambnieminnfaaGreatX27
import Derived.Test.YtdambnieminnfaaGreatX47
set_option linter.unusedSimpArgs false
set_option linter.unusedVariables false

/- The drawn region of RefinementDeterministic that makes the two channels. Printed by gen40det.py. -/
namespace Go.Proofs.YtdambnieminnfaaGreat
open Go.RowKit
attribute [local go_sem ↓] Go.wp_at_zero Go.wp_at_succ
namespace Reg40d
/-- The operations of a region, by its number. -/
def findReg (n : Nat) : Code → Option (Array Oper)
 | .seq a b => match findReg n a with
   | some c => some c
   | none => findReg n b
 | .loop c => findReg n c
 | .block _ c => findReg n c
 | .scope c => findReg n c
 | .cond _ a b => match findReg n a with
   | some c => some c
   | none => findReg n b
 | .region k ops _ => if k = n then some ops else none
 | _ => none

noncomputable def opsD : Array Oper := (Tryz.f9.body.bind (findReg 7)).getD #[]
theorem opsD_size : opsD.size = 18 := by kernel_rfl
theorem opsD_0 : opsD[0]? = some { dst := some 26, op := Op.move (Operand.tmp 8), type := 50, pos := (opsD[0]'(by rw [opsD_size]; decide)).pos, after := (opsD[0]'(by rw [opsD_size]; decide)).after, guard := none } := by kernel_rfl
theorem opsD_1 : opsD[1]? = some { dst := some 27, op := Op.move (Operand.tmp 0), type := 48, pos := (opsD[1]'(by rw [opsD_size]; decide)).pos, after := (opsD[1]'(by rw [opsD_size]; decide)).after, guard := none } := by kernel_rfl
theorem opsD_2 : opsD[2]? = some { dst := some 28, op := Op.indexAddr 49 (Operand.tmp 5) (Operand.const (Value.int IntKind.i64 0)), type := 0, pos := (opsD[2]'(by rw [opsD_size]; decide)).pos, after := (opsD[2]'(by rw [opsD_size]; decide)).after, guard := none } := by kernel_rfl
theorem opsD_3 : opsD[3]? = some { dst := some 29, op := Op.load 5 (Operand.tmp 28), type := 5, pos := (opsD[3]'(by rw [opsD_size]; decide)).pos, after := (opsD[3]'(by rw [opsD_size]; decide)).after, guard := none } := by kernel_rfl
theorem opsD_4 : opsD[4]? = some { dst := some 30, op := Op.convert 5 3 (Operand.tmp 29), type := 3, pos := (opsD[4]'(by rw [opsD_size]; decide)).pos, after := (opsD[4]'(by rw [opsD_size]; decide)).after, guard := none } := by kernel_rfl
theorem opsD_5 : opsD[5]? = some { dst := some 31, op := Op.binOp BinOp.add 3 (Operand.const (Value.int IntKind.i64 1)) (Operand.tmp 30) 3, type := 3, pos := (opsD[5]'(by rw [opsD_size]; decide)).pos, after := (opsD[5]'(by rw [opsD_size]; decide)).after, guard := none } := by kernel_rfl
theorem opsD_6 : opsD[6]? = some { dst := some 32, op := Op.call { callee := Callee.value (Operand.tmp 26), args := #[Operand.tmp 27, Operand.tmp 31], argTypes := #[48, 3] }, type := 24, pos := (opsD[6]'(by rw [opsD_size]; decide)).pos, after := (opsD[6]'(by rw [opsD_size]; decide)).after, guard := none } := by kernel_rfl
theorem opsD_7 : opsD[7]? = some { dst := some 33, op := Op.move (Operand.tmp 8), type := 50, pos := (opsD[7]'(by rw [opsD_size]; decide)).pos, after := (opsD[7]'(by rw [opsD_size]; decide)).after, guard := none } := by kernel_rfl
theorem opsD_8 : opsD[8]? = some { dst := some 34, op := Op.move (Operand.tmp 1), type := 48, pos := (opsD[8]'(by rw [opsD_size]; decide)).pos, after := (opsD[8]'(by rw [opsD_size]; decide)).after, guard := none } := by kernel_rfl
theorem opsD_9 : opsD[9]? = some { dst := some 35, op := Op.indexAddr 49 (Operand.tmp 5) (Operand.const (Value.int IntKind.i64 1)), type := 0, pos := (opsD[9]'(by rw [opsD_size]; decide)).pos, after := (opsD[9]'(by rw [opsD_size]; decide)).after, guard := none } := by kernel_rfl
theorem opsD_10 : opsD[10]? = some { dst := some 36, op := Op.load 5 (Operand.tmp 35), type := 5, pos := (opsD[10]'(by rw [opsD_size]; decide)).pos, after := (opsD[10]'(by rw [opsD_size]; decide)).after, guard := none } := by kernel_rfl
theorem opsD_11 : opsD[11]? = some { dst := some 37, op := Op.convert 5 3 (Operand.tmp 36), type := 3, pos := (opsD[11]'(by rw [opsD_size]; decide)).pos, after := (opsD[11]'(by rw [opsD_size]; decide)).after, guard := none } := by kernel_rfl
theorem opsD_12 : opsD[12]? = some { dst := some 38, op := Op.binOp BinOp.add 3 (Operand.const (Value.int IntKind.i64 1)) (Operand.tmp 37) 3, type := 3, pos := (opsD[12]'(by rw [opsD_size]; decide)).pos, after := (opsD[12]'(by rw [opsD_size]; decide)).after, guard := none } := by kernel_rfl
theorem opsD_13 : opsD[13]? = some { dst := some 39, op := Op.call { callee := Callee.value (Operand.tmp 33), args := #[Operand.tmp 34, Operand.tmp 38], argTypes := #[48, 3] }, type := 24, pos := (opsD[13]'(by rw [opsD_size]; decide)).pos, after := (opsD[13]'(by rw [opsD_size]; decide)).after, guard := none } := by kernel_rfl
theorem opsD_14 : opsD[14]? = some { dst := some 9, op := Op.alloc 24, type := 0, pos := (opsD[14]'(by rw [opsD_size]; decide)).pos, after := (opsD[14]'(by rw [opsD_size]; decide)).after, guard := none } := by kernel_rfl
theorem opsD_15 : opsD[15]? = some { dst := some 10, op := Op.alloc 24, type := 0, pos := (opsD[15]'(by rw [opsD_size]; decide)).pos, after := (opsD[15]'(by rw [opsD_size]; decide)).after, guard := none } := by kernel_rfl
theorem opsD_16 : opsD[16]? = some { dst := none, op := Op.store 24 (Operand.tmp 9) (Operand.tmp 32), type := 0, pos := (opsD[16]'(by rw [opsD_size]; decide)).pos, after := (opsD[16]'(by rw [opsD_size]; decide)).after, guard := none } := by kernel_rfl
theorem opsD_17 : opsD[17]? = some { dst := none, op := Op.store 24 (Operand.tmp 10) (Operand.tmp 39), type := 0, pos := (opsD[17]'(by rw [opsD_size]; decide)).pos, after := (opsD[17]'(by rw [opsD_size]; decide)).after, guard := none } := by kernel_rfl


def SXD (g5 gn n : Nat) (z1 z2 : Int) : World → Prop := fun W => (W.cell? ⟨g5, 0, none⟩ = some (.int .u8 z1) ∧ W.cell? ⟨g5, 1, none⟩ = some (.int .u8 z2)) ∧ W.cell? ⟨gn, 0, none⟩ = some (.int .i64 n)
/-- What the region leaves. -/
def OutD (w9 : World) (Q : Exit → Act → World → Prop) (g5 gn n : Nat) (l1 l2 : List Int) (z1 z2 : Int) (A1 A2 : Option Addr) (m1 c1 m2 c2 : Nat) (u2 u3 u4 u6 u11 u12 u13 u14 u15 u16 u17 u18 u19 u20 u21 u22 u23 u24 u25 u40 u41 u42 u43 u44 u45 u46 u47 u48 u49 u50 u51 u52 u53 u54 u55 u56 u57 u58 u59 u60 u61 u62 u63 u64 u65 u66 u67 u68 u69 u70 u71 u72 u73 u74 u75 u76 u77 u78 u79 u80 u81 u82 u83 u84 u85 u86 u87 : Value) : Prop :=
 ∀ (W : World) (ga gb : Nat) (E1 E2 : Option Addr) (p1 p2 : Nat) (v26 v27 v28 v29 v30 v31 v32 v33 v34 v35 v36 v37 v38 v39 : Value), ga ≠ gb → w9.heap.size ≤ ga → w9.heap.size ≤ gb → Loc W ga 24 #[.slice E1 n p1] → Loc W gb 24 #[.slice E2 n p2] → IMatO W (.slice E1 n p1) (det n (am l1) (1 + z1)) → IMatO W (.slice E2 n p2) (det n (am l2) (1 + z2)) → Below w9.heap.size w9 W → Q .normal ⟨#[(.slice A1 m1 c1), (.slice A2 m2 c2), u2, u3, u4, (.pointer (some ⟨g5, 0, none⟩)), u6, (.pointer (some ⟨gn, 0, none⟩)), (.func (Fn.func 30) #[] #[.pointer (some ⟨gn, 0, none⟩)]), (.pointer (some ⟨ga, 0, none⟩)), (.pointer (some ⟨gb, 0, none⟩)), u11, u12, u13, u14, u15, u16, u17, u18, u19, u20, u21, u22, u23, u24, u25, v26, v27, v28, v29, v30, v31, v32, v33, v34, v35, v36, v37, v38, v39, u40, u41, u42, u43, u44, u45, u46, u47, u48, u49, u50, u51, u52, u53, u54, u55, u56, u57, u58, u59, u60, u61, u62, u63, u64, u65, u66, u67, u68, u69, u70, u71, u72, u73, u74, u75, u76, u77, u78, u79, u80, u81, u82, u83, u84, u85, u86, u87], []⟩ W

section
variable {Q : Exit → Act → World → Prop} {w9 W : World} {g5 gn n m1 c1 m2 c2 ga gb p1 p2 : Nat} {A1 A2 E1 E2 : Option Addr} {z1 z2 : Int} {l1 l2 : List Int} {u2 u3 u4 u6 u9 u10 u11 u12 u13 u14 u15 u16 u17 u18 u19 u20 u21 u22 u23 u24 u25 u26 u27 u28 u29 u30 u31 u32 u33 u34 u35 u36 u37 u38 u39 u40 u41 u42 u43 u44 u45 u46 u47 u48 u49 u50 u51 u52 u53 u54 u55 u56 u57 u58 u59 u60 u61 u62 u63 u64 u65 u66 u67 u68 u69 u70 u71 u72 u73 u74 u75 u76 u77 u78 u79 u80 u81 u82 u83 u84 u85 u86 u87 : Value}
structure US_Reg40d where
 (u2 u3 u4 u6 u11 u12 u13 u14 u15 u16 u17 u18 u19 u20 u21 u22 u23 u24 u25 u40 u41 u42 u43 u44 u45 u46 u47 u48 u49 u50 u51 u52 u53 u54 u55 u56 u57 u58 u59 u60 u61 u62 u63 u64 u65 u66 u67 u68 u69 u70 u71 u72 u73 u74 u75 u76 u77 u78 u79 u80 u81 u82 u83 u84 u85 u86 u87 : Value)
def FR_Reg40d (s : US_Reg40d) (A1 : Option Addr) (m1 : Nat) (c1 : Nat) (A2 : Option Addr) (m2 : Nat) (c2 : Nat) (g5 : Nat) (gn : Nat) (z1 : Int) (z2 : Int) (x9 x10 x32 x39 : Value) : Act := ⟨#[(.slice A1 m1 c1), (.slice A2 m2 c2), s.u2, s.u3, s.u4, (.pointer (some ⟨g5, 0, none⟩)), s.u6, (.pointer (some ⟨gn, 0, none⟩)), (.func (Fn.func 30) #[] #[.pointer (some ⟨gn, 0, none⟩)]), x9, x10, s.u11, s.u12, s.u13, s.u14, s.u15, s.u16, s.u17, s.u18, s.u19, s.u20, s.u21, s.u22, s.u23, s.u24, s.u25, (.func (Fn.func 30) #[] #[.pointer (some ⟨gn, 0, none⟩)]), (.slice A1 m1 c1), (.pointer (some ⟨g5, 0, none⟩)), (.int .u8 z1), (.int .i64 z1), (.int .i64 (1 + z1)), x32, (.func (Fn.func 30) #[] #[.pointer (some ⟨gn, 0, none⟩)]), (.slice A2 m2 c2), (.pointer (some ⟨g5, 1, none⟩)), (.int .u8 z2), (.int .i64 z2), (.int .i64 (1 + z2)), x39, s.u40, s.u41, s.u42, s.u43, s.u44, s.u45, s.u46, s.u47, s.u48, s.u49, s.u50, s.u51, s.u52, s.u53, s.u54, s.u55, s.u56, s.u57, s.u58, s.u59, s.u60, s.u61, s.u62, s.u63, s.u64, s.u65, s.u66, s.u67, s.u68, s.u69, s.u70, s.u71, s.u72, s.u73, s.u74, s.u75, s.u76, s.u77, s.u78, s.u79, s.u80, s.u81, s.u82, s.u83, s.u84, s.u85, s.u86, s.u87], []⟩
structure CX_Reg40d (s : US_Reg40d) (w9 : World) (g5 : Nat) (gn : Nat) (n : Nat) (z1 : Int) (z2 : Int) (A1 : Option Addr) (m1 : Nat) (c1 : Nat) (l1 : List Int) (A2 : Option Addr) (m2 : Nat) (c2 : Nat) (l2 : List Int) (Q : Exit → Act → World → Prop) : Prop where
 hS9 : Hid (∀ W, Below w9.heap.size w9 W → SXD g5 gn n z1 z2 W)
 hq1 : Hid (∀ W, Below w9.heap.size w9 W → U8V W (.slice A1 m1 c1) l1)
 hq2 : Hid (∀ W, Below w9.heap.size w9 W → U8V W (.slice A2 m2 c2) l2)
 hn1 : Hid (n ≤ l1.length)
 hn2 : Hid (n ≤ l2.length)
 hn5 : Hid (n ≤ 5)
 hgn : Hid (gn < w9.heap.size)
 ht1 : Hid (1 ≤ 1 + z1 ∧ 1 + z1 ≤ 256)
 ht2 : Hid (1 ≤ 1 + z2 ∧ 1 + z2 ≤ 256)
 hOut : OutD w9 Q g5 gn n l1 l2 z1 z2 A1 A2 m1 c1 m2 c2 s.u2 s.u3 s.u4 s.u6 s.u11 s.u12 s.u13 s.u14 s.u15 s.u16 s.u17 s.u18 s.u19 s.u20 s.u21 s.u22 s.u23 s.u24 s.u25 s.u40 s.u41 s.u42 s.u43 s.u44 s.u45 s.u46 s.u47 s.u48 s.u49 s.u50 s.u51 s.u52 s.u53 s.u54 s.u55 s.u56 s.u57 s.u58 s.u59 s.u60 s.u61 s.u62 s.u63 s.u64 s.u65 s.u66 s.u67 s.u68 s.u69 s.u70 s.u71 s.u72 s.u73 s.u74 s.u75 s.u76 s.u77 s.u78 s.u79 s.u80 s.u81 s.u82 s.u83 s.u84 s.u85 s.u86 s.u87
variable {s : US_Reg40d}
set_option maxRecDepth 100000 in
set_option maxHeartbeats 8000000 in
theorem st_c1_c2_a_b_s_t (hHeld : SXD g5 gn n z1 z2 W) (ls : Array Bool) (hls : ls = #[true, true, true, true, true, true, true, true, true, true, true, true, true, true, true, true, true, true]) (hB : Below w9.heap.size w9 W) (V1 : IMatO W (.slice E1 n p1) (det n (am l1) (1 + z1))) (V2 : IMatO W (.slice E2 n p2) (det n (am l2) (1 + z2))) (La : Loc W ga 24 #[.slice E1 n p1]) (hla : w9.heap.size ≤ ga) (Lb : Loc W gb 24 #[.slice E2 n p2]) (hlb : w9.heap.size ≤ gb) (hab : ga ≠ gb) (C : CX_Reg40d s w9 g5 gn n z1 z2 A1 m1 c1 l1 A2 m2 c2 l2 Q) :
 wpAnyH Tryz.prog .any opsD (NoPanic Q) (SXD g5 gn n z1 z2) 0 ls (FR_Reg40d s A1 m1 c1 A2 m2 c2 g5 gn z1 z2 (.pointer (some ⟨ga, 0, none⟩)) (.pointer (some ⟨gb, 0, none⟩)) (.agg #[.slice E1 n p1]) (.agg #[.slice E2 n p2])) W := by
 subst hls
 unfold FR_Reg40d
 obtain ⟨hS9, hq1, hq2, hn1, hn2, hn5, hgn, ht1, ht2, hOut⟩ := id C
 refine wpAnyH_done (by kernel_rfl) ?_ _
 refine NoPanic.normal ?_
 exact hOut W _ _ _ _ _ _ _ _ _ _ _ _ _ _ _ _ _ _ _ _ hab hla hlb La Lb V1 V2 hB

set_option maxRecDepth 100000 in
set_option maxHeartbeats 8000000 in
theorem st_c1_c2_a_b_s (hHeld : SXD g5 gn n z1 z2 W) (ls : Array Bool) (hls : ls = #[true, true, true, true, true, true, true, true, true, true, true, true, true, true, true, true, true, false]) (hB : Below w9.heap.size w9 W) (V1 : IMatO W (.slice E1 n p1) (det n (am l1) (1 + z1))) (V2 : IMatO W (.slice E2 n p2) (det n (am l2) (1 + z2))) (La : Loc W ga 24 #[.slice E1 n p1]) (hla : w9.heap.size ≤ ga) (Lb : Loc W gb 24 #[.slice none 0 0]) (hlb : w9.heap.size ≤ gb) (hab : ga ≠ gb) (C : CX_Reg40d s w9 g5 gn n z1 z2 A1 m1 c1 l1 A2 m2 c2 l2 Q) :
 wpAnyH Tryz.prog .any opsD (NoPanic Q) (SXD g5 gn n z1 z2) 1 ls (FR_Reg40d s A1 m1 c1 A2 m2 c2 g5 gn z1 z2 (.pointer (some ⟨ga, 0, none⟩)) (.pointer (some ⟨gb, 0, none⟩)) (.agg #[.slice E1 n p1]) (.agg #[.slice E2 n p2])) W := by
 subst hls
 unfold FR_Reg40d
 obtain ⟨hS9, hq1, hq2, hn1, hn2, hn5, hgn, ht1, ht2, hOut⟩ := id C
 refine wpAnyH_ready (rs := [17]) (by kernel_rfl) (by simp) ?_
 refine (AllReadyH.cons opsD_17 (fun KK hKK => ?_) AllReadyH.nil)
 ·obtain ⟨e7, g7, l7⟩ := Lb.all (w' := W)
  go_simp
  have hBn : Below w9.heap.size w9 _ := (bel : Below w9.heap.size w9 (W.setCell ⟨gb, 0, none⟩ (.slice E2 n p2)))
  refine hKK.out _ _ (hS9.out _ hBn) (fun hHeld => ?_)
  clear hKK KK
  (try simp only [Act.put, ly])
  exact st_c1_c2_a_b_s_t hHeld _ (by kernel_rfl) (bel : Below w9.heap.size w9 (W.setCell ⟨gb, 0, none⟩ (.slice E2 n p2))) (V1.far Lb (by decide) (by decide) _ _) (V2.far Lb (by decide) (by decide) _ _) (La.keep (X := fun b => b = gb) kp (by first | exact hab | exact hab.symm)) hla (Lb.set 0 _) hlb hab C

set_option maxRecDepth 100000 in
set_option maxHeartbeats 8000000 in
theorem st_c1_c2_a_b (hHeld : SXD g5 gn n z1 z2 W) (ls : Array Bool) (hls : ls = #[true, true, true, true, true, true, true, true, true, true, true, true, true, true, true, true, false, false]) (hB : Below w9.heap.size w9 W) (V1 : IMatO W (.slice E1 n p1) (det n (am l1) (1 + z1))) (V2 : IMatO W (.slice E2 n p2) (det n (am l2) (1 + z2))) (La : Loc W ga 24 #[.slice none 0 0]) (hla : w9.heap.size ≤ ga) (Lb : Loc W gb 24 #[.slice none 0 0]) (hlb : w9.heap.size ≤ gb) (hab : ga ≠ gb) (C : CX_Reg40d s w9 g5 gn n z1 z2 A1 m1 c1 l1 A2 m2 c2 l2 Q) :
 wpAnyH Tryz.prog .any opsD (NoPanic Q) (SXD g5 gn n z1 z2) 2 ls (FR_Reg40d s A1 m1 c1 A2 m2 c2 g5 gn z1 z2 (.pointer (some ⟨ga, 0, none⟩)) (.pointer (some ⟨gb, 0, none⟩)) (.agg #[.slice E1 n p1]) (.agg #[.slice E2 n p2])) W := by
 subst hls
 unfold FR_Reg40d
 obtain ⟨hS9, hq1, hq2, hn1, hn2, hn5, hgn, ht1, ht2, hOut⟩ := id C
 refine wpAnyH_ready (rs := [16]) (by kernel_rfl) (by simp) ?_
 refine (AllReadyH.cons opsD_16 (fun KK hKK => ?_) AllReadyH.nil)
 ·obtain ⟨e7, g7, l7⟩ := La.all (w' := W)
  go_simp
  have hBn : Below w9.heap.size w9 _ := (bel : Below w9.heap.size w9 (W.setCell ⟨ga, 0, none⟩ (.slice E1 n p1)))
  refine hKK.out _ _ (hS9.out _ hBn) (fun hHeld => ?_)
  clear hKK KK
  (try simp only [Act.put, ly])
  exact st_c1_c2_a_b_s hHeld _ (by kernel_rfl) (bel : Below w9.heap.size w9 (W.setCell ⟨ga, 0, none⟩ (.slice E1 n p1))) (V1.far La (by decide) (by decide) _ _) (V2.far La (by decide) (by decide) _ _) (La.set 0 _) hla (Lb.keep (X := fun b => b = ga) kp (by first | exact hab | exact hab.symm)) hlb hab C

set_option maxRecDepth 100000 in
set_option maxHeartbeats 8000000 in
theorem st_c1_c2_a (hHeld : SXD g5 gn n z1 z2 W) (ls : Array Bool) (hls : ls = #[true, true, true, true, true, true, true, true, true, true, true, true, true, true, true, false, false, false]) (hB : Below w9.heap.size w9 W) (V1 : IMatO W (.slice E1 n p1) (det n (am l1) (1 + z1))) (V2 : IMatO W (.slice E2 n p2) (det n (am l2) (1 + z2))) (La : Loc W ga 24 #[.slice none 0 0]) (hla : w9.heap.size ≤ ga) (C : CX_Reg40d s w9 g5 gn n z1 z2 A1 m1 c1 l1 A2 m2 c2 l2 Q) :
 wpAnyH Tryz.prog .any opsD (NoPanic Q) (SXD g5 gn n z1 z2) 3 ls (FR_Reg40d s A1 m1 c1 A2 m2 c2 g5 gn z1 z2 (.pointer (some ⟨ga, 0, none⟩)) u10 (.agg #[.slice E1 n p1]) (.agg #[.slice E2 n p2])) W := by
 subst hls
 unfold FR_Reg40d
 obtain ⟨hS9, hq1, hq2, hn1, hn2, hn5, hgn, ht1, ht2, hOut⟩ := id C
 refine wpAnyH_ready (rs := [15]) (by kernel_rfl) (by simp) ?_
 refine (AllReadyH.cons opsD_15 (fun KK hKK => ?_) AllReadyH.nil)
 ·go_simp
  have hb5 : Below W.heap.size W (W.alloc (.cells #[.slice none 0 0] 24)) := (Below.refl _ _).alloc (Nat.le_refl _) _
  have hBn : Below w9.heap.size w9 _ := (hB.trans (hb5.mono hB.size))
  refine hKK.out _ _ (hS9.out _ hBn) (fun hHeld => ?_)
  clear hKK KK
  (try simp only [Act.put, ly])
  exact st_c1_c2_a_b hHeld _ (by kernel_rfl) (hB.trans (hb5.mono hB.size)) (V1.below hb5) (V2.below hb5) (La.below hb5) hla (made1 W #[.slice none 0 0] 24) hB.size (Nat.ne_of_lt La.lt) C

set_option maxRecDepth 100000 in
set_option maxHeartbeats 8000000 in
theorem st_c1_c2_b (hHeld : SXD g5 gn n z1 z2 W) (ls : Array Bool) (hls : ls = #[true, true, true, true, true, true, true, true, true, true, true, true, true, true, false, true, false, false]) (hB : Below w9.heap.size w9 W) (V1 : IMatO W (.slice E1 n p1) (det n (am l1) (1 + z1))) (V2 : IMatO W (.slice E2 n p2) (det n (am l2) (1 + z2))) (Lb : Loc W gb 24 #[.slice none 0 0]) (hlb : w9.heap.size ≤ gb) (C : CX_Reg40d s w9 g5 gn n z1 z2 A1 m1 c1 l1 A2 m2 c2 l2 Q) :
 wpAnyH Tryz.prog .any opsD (NoPanic Q) (SXD g5 gn n z1 z2) 3 ls (FR_Reg40d s A1 m1 c1 A2 m2 c2 g5 gn z1 z2 u9 (.pointer (some ⟨gb, 0, none⟩)) (.agg #[.slice E1 n p1]) (.agg #[.slice E2 n p2])) W := by
 subst hls
 unfold FR_Reg40d
 obtain ⟨hS9, hq1, hq2, hn1, hn2, hn5, hgn, ht1, ht2, hOut⟩ := id C
 refine wpAnyH_ready (rs := [14]) (by kernel_rfl) (by simp) ?_
 refine (AllReadyH.cons opsD_14 (fun KK hKK => ?_) AllReadyH.nil)
 ·go_simp
  have hb5 : Below W.heap.size W (W.alloc (.cells #[.slice none 0 0] 24)) := (Below.refl _ _).alloc (Nat.le_refl _) _
  have hBn : Below w9.heap.size w9 _ := (hB.trans (hb5.mono hB.size))
  refine hKK.out _ _ (hS9.out _ hBn) (fun hHeld => ?_)
  clear hKK KK
  (try simp only [Act.put, ly])
  exact st_c1_c2_a_b hHeld _ (by kernel_rfl) (hB.trans (hb5.mono hB.size)) (V1.below hb5) (V2.below hb5) (made1 W #[.slice none 0 0] 24) hB.size (Lb.below hb5) hlb (Ne.symm (Nat.ne_of_lt Lb.lt)) C

set_option maxRecDepth 100000 in
set_option maxHeartbeats 8000000 in
theorem st_c1_a_b (hHeld : SXD g5 gn n z1 z2 W) (ls : Array Bool) (hls : ls = #[true, true, true, true, true, true, true, true, true, true, true, true, true, false, true, true, false, false]) (hB : Below w9.heap.size w9 W) (V1 : IMatO W (.slice E1 n p1) (det n (am l1) (1 + z1))) (La : Loc W ga 24 #[.slice none 0 0]) (hla : w9.heap.size ≤ ga) (Lb : Loc W gb 24 #[.slice none 0 0]) (hlb : w9.heap.size ≤ gb) (hab : ga ≠ gb) (C : CX_Reg40d s w9 g5 gn n z1 z2 A1 m1 c1 l1 A2 m2 c2 l2 Q) :
 wpAnyH Tryz.prog .any opsD (NoPanic Q) (SXD g5 gn n z1 z2) 3 ls (FR_Reg40d s A1 m1 c1 A2 m2 c2 g5 gn z1 z2 (.pointer (some ⟨ga, 0, none⟩)) (.pointer (some ⟨gb, 0, none⟩)) (.agg #[.slice E1 n p1]) u39) W := by
 subst hls
 unfold FR_Reg40d
 obtain ⟨hS9, hq1, hq2, hn1, hn2, hn5, hgn, ht1, ht2, hOut⟩ := id C
 refine wpAnyH_ready (rs := [13]) (by kernel_rfl) (by simp) ?_
 refine (AllReadyH.cons opsD_13 (fun KK hKK => ?_) AllReadyH.nil)
 ·go_simp
  refine (make5_any _ _ l2 n gn (1 + z2) (hq2.out _ hB) hn2.out hn5.out (Nat.lt_of_lt_of_le hgn.out hB.size) (hS9.out _ hB).2 ht2.out).mono ?_
  rintro e W1 ⟨v2, rfl, i2, hb5⟩
  obtain ⟨E2, p2, rfl, i2⟩ := i2.out.op
  rw [det_len] at i2 ⊢
  (try go_wp2_with fail)
  have hBn : Below w9.heap.size w9 _ := (hB.trans (hb5.mono hB.size))
  refine hKK.out _ _ (hS9.out _ hBn) (fun hHeld => ?_)
  clear hKK KK
  (try simp only [Act.put, ly])
  exact st_c1_c2_a_b hHeld _ (by kernel_rfl) (hB.trans (hb5.mono hB.size)) (V1.below hb5) i2 (La.below hb5) hla (Lb.below hb5) hlb hab C

set_option maxRecDepth 100000 in
set_option maxHeartbeats 8000000 in
theorem st_c1_c2 (hHeld : SXD g5 gn n z1 z2 W) (ls : Array Bool) (hls : ls = #[true, true, true, true, true, true, true, true, true, true, true, true, true, true, false, false, false, false]) (hB : Below w9.heap.size w9 W) (V1 : IMatO W (.slice E1 n p1) (det n (am l1) (1 + z1))) (V2 : IMatO W (.slice E2 n p2) (det n (am l2) (1 + z2))) (C : CX_Reg40d s w9 g5 gn n z1 z2 A1 m1 c1 l1 A2 m2 c2 l2 Q) :
 wpAnyH Tryz.prog .any opsD (NoPanic Q) (SXD g5 gn n z1 z2) 4 ls (FR_Reg40d s A1 m1 c1 A2 m2 c2 g5 gn z1 z2 u9 u10 (.agg #[.slice E1 n p1]) (.agg #[.slice E2 n p2])) W := by
 subst hls
 unfold FR_Reg40d
 obtain ⟨hS9, hq1, hq2, hn1, hn2, hn5, hgn, ht1, ht2, hOut⟩ := id C
 refine wpAnyH_ready (rs := [14, 15]) (by kernel_rfl) (by simp) ?_
 refine (AllReadyH.cons opsD_14 (fun KK hKK => ?_) (AllReadyH.cons opsD_15 (fun KK hKK => ?_) AllReadyH.nil))
 ·go_simp
  have hb5 : Below W.heap.size W (W.alloc (.cells #[.slice none 0 0] 24)) := (Below.refl _ _).alloc (Nat.le_refl _) _
  have hBn : Below w9.heap.size w9 _ := (hB.trans (hb5.mono hB.size))
  refine hKK.out _ _ (hS9.out _ hBn) (fun hHeld => ?_)
  clear hKK KK
  (try simp only [Act.put, ly])
  exact st_c1_c2_a hHeld _ (by kernel_rfl) (hB.trans (hb5.mono hB.size)) (V1.below hb5) (V2.below hb5) (made1 W #[.slice none 0 0] 24) hB.size C
 ·go_simp
  have hb5 : Below W.heap.size W (W.alloc (.cells #[.slice none 0 0] 24)) := (Below.refl _ _).alloc (Nat.le_refl _) _
  have hBn : Below w9.heap.size w9 _ := (hB.trans (hb5.mono hB.size))
  refine hKK.out _ _ (hS9.out _ hBn) (fun hHeld => ?_)
  clear hKK KK
  (try simp only [Act.put, ly])
  exact st_c1_c2_b hHeld _ (by kernel_rfl) (hB.trans (hb5.mono hB.size)) (V1.below hb5) (V2.below hb5) (made1 W #[.slice none 0 0] 24) hB.size C

set_option maxRecDepth 100000 in
set_option maxHeartbeats 8000000 in
theorem st_c1_a (hHeld : SXD g5 gn n z1 z2 W) (ls : Array Bool) (hls : ls = #[true, true, true, true, true, true, true, true, true, true, true, true, true, false, true, false, false, false]) (hB : Below w9.heap.size w9 W) (V1 : IMatO W (.slice E1 n p1) (det n (am l1) (1 + z1))) (La : Loc W ga 24 #[.slice none 0 0]) (hla : w9.heap.size ≤ ga) (C : CX_Reg40d s w9 g5 gn n z1 z2 A1 m1 c1 l1 A2 m2 c2 l2 Q) :
 wpAnyH Tryz.prog .any opsD (NoPanic Q) (SXD g5 gn n z1 z2) 4 ls (FR_Reg40d s A1 m1 c1 A2 m2 c2 g5 gn z1 z2 (.pointer (some ⟨ga, 0, none⟩)) u10 (.agg #[.slice E1 n p1]) u39) W := by
 subst hls
 unfold FR_Reg40d
 obtain ⟨hS9, hq1, hq2, hn1, hn2, hn5, hgn, ht1, ht2, hOut⟩ := id C
 refine wpAnyH_ready (rs := [13, 15]) (by kernel_rfl) (by simp) ?_
 refine (AllReadyH.cons opsD_13 (fun KK hKK => ?_) (AllReadyH.cons opsD_15 (fun KK hKK => ?_) AllReadyH.nil))
 ·go_simp
  refine (make5_any _ _ l2 n gn (1 + z2) (hq2.out _ hB) hn2.out hn5.out (Nat.lt_of_lt_of_le hgn.out hB.size) (hS9.out _ hB).2 ht2.out).mono ?_
  rintro e W1 ⟨v2, rfl, i2, hb5⟩
  obtain ⟨E2, p2, rfl, i2⟩ := i2.out.op
  rw [det_len] at i2 ⊢
  (try go_wp2_with fail)
  have hBn : Below w9.heap.size w9 _ := (hB.trans (hb5.mono hB.size))
  refine hKK.out _ _ (hS9.out _ hBn) (fun hHeld => ?_)
  clear hKK KK
  (try simp only [Act.put, ly])
  exact st_c1_c2_a hHeld _ (by kernel_rfl) (hB.trans (hb5.mono hB.size)) (V1.below hb5) i2 (La.below hb5) hla C
 ·go_simp
  have hb5 : Below W.heap.size W (W.alloc (.cells #[.slice none 0 0] 24)) := (Below.refl _ _).alloc (Nat.le_refl _) _
  have hBn : Below w9.heap.size w9 _ := (hB.trans (hb5.mono hB.size))
  refine hKK.out _ _ (hS9.out _ hBn) (fun hHeld => ?_)
  clear hKK KK
  (try simp only [Act.put, ly])
  exact st_c1_a_b hHeld _ (by kernel_rfl) (hB.trans (hb5.mono hB.size)) (V1.below hb5) (La.below hb5) hla (made1 W #[.slice none 0 0] 24) hB.size (Nat.ne_of_lt La.lt) C

set_option maxRecDepth 100000 in
set_option maxHeartbeats 8000000 in
theorem st_c1_b (hHeld : SXD g5 gn n z1 z2 W) (ls : Array Bool) (hls : ls = #[true, true, true, true, true, true, true, true, true, true, true, true, true, false, false, true, false, false]) (hB : Below w9.heap.size w9 W) (V1 : IMatO W (.slice E1 n p1) (det n (am l1) (1 + z1))) (Lb : Loc W gb 24 #[.slice none 0 0]) (hlb : w9.heap.size ≤ gb) (C : CX_Reg40d s w9 g5 gn n z1 z2 A1 m1 c1 l1 A2 m2 c2 l2 Q) :
 wpAnyH Tryz.prog .any opsD (NoPanic Q) (SXD g5 gn n z1 z2) 4 ls (FR_Reg40d s A1 m1 c1 A2 m2 c2 g5 gn z1 z2 u9 (.pointer (some ⟨gb, 0, none⟩)) (.agg #[.slice E1 n p1]) u39) W := by
 subst hls
 unfold FR_Reg40d
 obtain ⟨hS9, hq1, hq2, hn1, hn2, hn5, hgn, ht1, ht2, hOut⟩ := id C
 refine wpAnyH_ready (rs := [13, 14]) (by kernel_rfl) (by simp) ?_
 refine (AllReadyH.cons opsD_13 (fun KK hKK => ?_) (AllReadyH.cons opsD_14 (fun KK hKK => ?_) AllReadyH.nil))
 ·go_simp
  refine (make5_any _ _ l2 n gn (1 + z2) (hq2.out _ hB) hn2.out hn5.out (Nat.lt_of_lt_of_le hgn.out hB.size) (hS9.out _ hB).2 ht2.out).mono ?_
  rintro e W1 ⟨v2, rfl, i2, hb5⟩
  obtain ⟨E2, p2, rfl, i2⟩ := i2.out.op
  rw [det_len] at i2 ⊢
  (try go_wp2_with fail)
  have hBn : Below w9.heap.size w9 _ := (hB.trans (hb5.mono hB.size))
  refine hKK.out _ _ (hS9.out _ hBn) (fun hHeld => ?_)
  clear hKK KK
  (try simp only [Act.put, ly])
  exact st_c1_c2_b hHeld _ (by kernel_rfl) (hB.trans (hb5.mono hB.size)) (V1.below hb5) i2 (Lb.below hb5) hlb C
 ·go_simp
  have hb5 : Below W.heap.size W (W.alloc (.cells #[.slice none 0 0] 24)) := (Below.refl _ _).alloc (Nat.le_refl _) _
  have hBn : Below w9.heap.size w9 _ := (hB.trans (hb5.mono hB.size))
  refine hKK.out _ _ (hS9.out _ hBn) (fun hHeld => ?_)
  clear hKK KK
  (try simp only [Act.put, ly])
  exact st_c1_a_b hHeld _ (by kernel_rfl) (hB.trans (hb5.mono hB.size)) (V1.below hb5) (made1 W #[.slice none 0 0] 24) hB.size (Lb.below hb5) hlb (Ne.symm (Nat.ne_of_lt Lb.lt)) C

set_option maxRecDepth 100000 in
set_option maxHeartbeats 8000000 in
theorem st_a_b (hHeld : SXD g5 gn n z1 z2 W) (ls : Array Bool) (hls : ls = #[true, true, true, true, true, true, false, true, true, true, true, true, true, false, true, true, false, false]) (hB : Below w9.heap.size w9 W) (La : Loc W ga 24 #[.slice none 0 0]) (hla : w9.heap.size ≤ ga) (Lb : Loc W gb 24 #[.slice none 0 0]) (hlb : w9.heap.size ≤ gb) (hab : ga ≠ gb) (C : CX_Reg40d s w9 g5 gn n z1 z2 A1 m1 c1 l1 A2 m2 c2 l2 Q) :
 wpAnyH Tryz.prog .any opsD (NoPanic Q) (SXD g5 gn n z1 z2) 4 ls (FR_Reg40d s A1 m1 c1 A2 m2 c2 g5 gn z1 z2 (.pointer (some ⟨ga, 0, none⟩)) (.pointer (some ⟨gb, 0, none⟩)) u32 u39) W := by
 subst hls
 unfold FR_Reg40d
 obtain ⟨hS9, hq1, hq2, hn1, hn2, hn5, hgn, ht1, ht2, hOut⟩ := id C
 refine wpAnyH_ready (rs := [6]) (by kernel_rfl) (by simp) ?_
 refine (AllReadyH.cons opsD_6 (fun KK hKK => ?_) AllReadyH.nil)
 ·go_simp
  refine (make5_any _ _ l1 n gn (1 + z1) (hq1.out _ hB) hn1.out hn5.out (Nat.lt_of_lt_of_le hgn.out hB.size) (hS9.out _ hB).2 ht1.out).mono ?_
  rintro e W1 ⟨v1, rfl, i1, hb5⟩
  obtain ⟨E1, p1, rfl, i1⟩ := i1.out.op
  rw [det_len] at i1 ⊢
  (try go_wp2_with fail)
  have hBn : Below w9.heap.size w9 _ := (hB.trans (hb5.mono hB.size))
  refine hKK.out _ _ (hS9.out _ hBn) (fun hHeld => ?_)
  clear hKK KK
  (try simp only [Act.put, ly])
  exact st_c1_a_b hHeld _ (by kernel_rfl) (hB.trans (hb5.mono hB.size)) i1 (La.below hb5) hla (Lb.below hb5) hlb hab C

set_option maxRecDepth 100000 in
set_option maxHeartbeats 8000000 in
theorem st_c1 (hHeld : SXD g5 gn n z1 z2 W) (ls : Array Bool) (hls : ls = #[true, true, true, true, true, true, true, true, true, true, true, true, true, false, false, false, false, false]) (hB : Below w9.heap.size w9 W) (V1 : IMatO W (.slice E1 n p1) (det n (am l1) (1 + z1))) (C : CX_Reg40d s w9 g5 gn n z1 z2 A1 m1 c1 l1 A2 m2 c2 l2 Q) :
 wpAnyH Tryz.prog .any opsD (NoPanic Q) (SXD g5 gn n z1 z2) 5 ls (FR_Reg40d s A1 m1 c1 A2 m2 c2 g5 gn z1 z2 u9 u10 (.agg #[.slice E1 n p1]) u39) W := by
 subst hls
 unfold FR_Reg40d
 obtain ⟨hS9, hq1, hq2, hn1, hn2, hn5, hgn, ht1, ht2, hOut⟩ := id C
 refine wpAnyH_ready (rs := [13, 14, 15]) (by kernel_rfl) (by simp) ?_
 refine (AllReadyH.cons opsD_13 (fun KK hKK => ?_) (AllReadyH.cons opsD_14 (fun KK hKK => ?_) (AllReadyH.cons opsD_15 (fun KK hKK => ?_) AllReadyH.nil)))
 ·go_simp
  refine (make5_any _ _ l2 n gn (1 + z2) (hq2.out _ hB) hn2.out hn5.out (Nat.lt_of_lt_of_le hgn.out hB.size) (hS9.out _ hB).2 ht2.out).mono ?_
  rintro e W1 ⟨v2, rfl, i2, hb5⟩
  obtain ⟨E2, p2, rfl, i2⟩ := i2.out.op
  rw [det_len] at i2 ⊢
  (try go_wp2_with fail)
  have hBn : Below w9.heap.size w9 _ := (hB.trans (hb5.mono hB.size))
  refine hKK.out _ _ (hS9.out _ hBn) (fun hHeld => ?_)
  clear hKK KK
  (try simp only [Act.put, ly])
  exact st_c1_c2 hHeld _ (by kernel_rfl) (hB.trans (hb5.mono hB.size)) (V1.below hb5) i2 C
 ·go_simp
  have hb5 : Below W.heap.size W (W.alloc (.cells #[.slice none 0 0] 24)) := (Below.refl _ _).alloc (Nat.le_refl _) _
  have hBn : Below w9.heap.size w9 _ := (hB.trans (hb5.mono hB.size))
  refine hKK.out _ _ (hS9.out _ hBn) (fun hHeld => ?_)
  clear hKK KK
  (try simp only [Act.put, ly])
  exact st_c1_a hHeld _ (by kernel_rfl) (hB.trans (hb5.mono hB.size)) (V1.below hb5) (made1 W #[.slice none 0 0] 24) hB.size C
 ·go_simp
  have hb5 : Below W.heap.size W (W.alloc (.cells #[.slice none 0 0] 24)) := (Below.refl _ _).alloc (Nat.le_refl _) _
  have hBn : Below w9.heap.size w9 _ := (hB.trans (hb5.mono hB.size))
  refine hKK.out _ _ (hS9.out _ hBn) (fun hHeld => ?_)
  clear hKK KK
  (try simp only [Act.put, ly])
  exact st_c1_b hHeld _ (by kernel_rfl) (hB.trans (hb5.mono hB.size)) (V1.below hb5) (made1 W #[.slice none 0 0] 24) hB.size C

set_option maxRecDepth 100000 in
set_option maxHeartbeats 8000000 in
theorem st_a (hHeld : SXD g5 gn n z1 z2 W) (ls : Array Bool) (hls : ls = #[true, true, true, true, true, true, false, true, true, true, true, true, true, false, true, false, false, false]) (hB : Below w9.heap.size w9 W) (La : Loc W ga 24 #[.slice none 0 0]) (hla : w9.heap.size ≤ ga) (C : CX_Reg40d s w9 g5 gn n z1 z2 A1 m1 c1 l1 A2 m2 c2 l2 Q) :
 wpAnyH Tryz.prog .any opsD (NoPanic Q) (SXD g5 gn n z1 z2) 5 ls (FR_Reg40d s A1 m1 c1 A2 m2 c2 g5 gn z1 z2 (.pointer (some ⟨ga, 0, none⟩)) u10 u32 u39) W := by
 subst hls
 unfold FR_Reg40d
 obtain ⟨hS9, hq1, hq2, hn1, hn2, hn5, hgn, ht1, ht2, hOut⟩ := id C
 refine wpAnyH_ready (rs := [6, 15]) (by kernel_rfl) (by simp) ?_
 refine (AllReadyH.cons opsD_6 (fun KK hKK => ?_) (AllReadyH.cons opsD_15 (fun KK hKK => ?_) AllReadyH.nil))
 ·go_simp
  refine (make5_any _ _ l1 n gn (1 + z1) (hq1.out _ hB) hn1.out hn5.out (Nat.lt_of_lt_of_le hgn.out hB.size) (hS9.out _ hB).2 ht1.out).mono ?_
  rintro e W1 ⟨v1, rfl, i1, hb5⟩
  obtain ⟨E1, p1, rfl, i1⟩ := i1.out.op
  rw [det_len] at i1 ⊢
  (try go_wp2_with fail)
  have hBn : Below w9.heap.size w9 _ := (hB.trans (hb5.mono hB.size))
  refine hKK.out _ _ (hS9.out _ hBn) (fun hHeld => ?_)
  clear hKK KK
  (try simp only [Act.put, ly])
  exact st_c1_a hHeld _ (by kernel_rfl) (hB.trans (hb5.mono hB.size)) i1 (La.below hb5) hla C
 ·go_simp
  have hb5 : Below W.heap.size W (W.alloc (.cells #[.slice none 0 0] 24)) := (Below.refl _ _).alloc (Nat.le_refl _) _
  have hBn : Below w9.heap.size w9 _ := (hB.trans (hb5.mono hB.size))
  refine hKK.out _ _ (hS9.out _ hBn) (fun hHeld => ?_)
  clear hKK KK
  (try simp only [Act.put, ly])
  exact st_a_b hHeld _ (by kernel_rfl) (hB.trans (hb5.mono hB.size)) (La.below hb5) hla (made1 W #[.slice none 0 0] 24) hB.size (Nat.ne_of_lt La.lt) C

set_option maxRecDepth 100000 in
set_option maxHeartbeats 8000000 in
theorem st_b (hHeld : SXD g5 gn n z1 z2 W) (ls : Array Bool) (hls : ls = #[true, true, true, true, true, true, false, true, true, true, true, true, true, false, false, true, false, false]) (hB : Below w9.heap.size w9 W) (Lb : Loc W gb 24 #[.slice none 0 0]) (hlb : w9.heap.size ≤ gb) (C : CX_Reg40d s w9 g5 gn n z1 z2 A1 m1 c1 l1 A2 m2 c2 l2 Q) :
 wpAnyH Tryz.prog .any opsD (NoPanic Q) (SXD g5 gn n z1 z2) 5 ls (FR_Reg40d s A1 m1 c1 A2 m2 c2 g5 gn z1 z2 u9 (.pointer (some ⟨gb, 0, none⟩)) u32 u39) W := by
 subst hls
 unfold FR_Reg40d
 obtain ⟨hS9, hq1, hq2, hn1, hn2, hn5, hgn, ht1, ht2, hOut⟩ := id C
 refine wpAnyH_ready (rs := [6, 14]) (by kernel_rfl) (by simp) ?_
 refine (AllReadyH.cons opsD_6 (fun KK hKK => ?_) (AllReadyH.cons opsD_14 (fun KK hKK => ?_) AllReadyH.nil))
 ·go_simp
  refine (make5_any _ _ l1 n gn (1 + z1) (hq1.out _ hB) hn1.out hn5.out (Nat.lt_of_lt_of_le hgn.out hB.size) (hS9.out _ hB).2 ht1.out).mono ?_
  rintro e W1 ⟨v1, rfl, i1, hb5⟩
  obtain ⟨E1, p1, rfl, i1⟩ := i1.out.op
  rw [det_len] at i1 ⊢
  (try go_wp2_with fail)
  have hBn : Below w9.heap.size w9 _ := (hB.trans (hb5.mono hB.size))
  refine hKK.out _ _ (hS9.out _ hBn) (fun hHeld => ?_)
  clear hKK KK
  (try simp only [Act.put, ly])
  exact st_c1_b hHeld _ (by kernel_rfl) (hB.trans (hb5.mono hB.size)) i1 (Lb.below hb5) hlb C
 ·go_simp
  have hb5 : Below W.heap.size W (W.alloc (.cells #[.slice none 0 0] 24)) := (Below.refl _ _).alloc (Nat.le_refl _) _
  have hBn : Below w9.heap.size w9 _ := (hB.trans (hb5.mono hB.size))
  refine hKK.out _ _ (hS9.out _ hBn) (fun hHeld => ?_)
  clear hKK KK
  (try simp only [Act.put, ly])
  exact st_a_b hHeld _ (by kernel_rfl) (hB.trans (hb5.mono hB.size)) (made1 W #[.slice none 0 0] 24) hB.size (Lb.below hb5) hlb (Ne.symm (Nat.ne_of_lt Lb.lt)) C

set_option maxRecDepth 100000 in
set_option maxHeartbeats 8000000 in
theorem st_O (hHeld : SXD g5 gn n z1 z2 W) (ls : Array Bool) (hls : ls = #[true, true, true, true, true, true, false, true, true, true, true, true, true, false, false, false, false, false]) (hB : Below w9.heap.size w9 W) (C : CX_Reg40d s w9 g5 gn n z1 z2 A1 m1 c1 l1 A2 m2 c2 l2 Q) :
 wpAnyH Tryz.prog .any opsD (NoPanic Q) (SXD g5 gn n z1 z2) 6 ls (FR_Reg40d s A1 m1 c1 A2 m2 c2 g5 gn z1 z2 u9 u10 u32 u39) W := by
 subst hls
 unfold FR_Reg40d
 obtain ⟨hS9, hq1, hq2, hn1, hn2, hn5, hgn, ht1, ht2, hOut⟩ := id C
 refine wpAnyH_ready (rs := [6, 14, 15]) (by kernel_rfl) (by simp) ?_
 refine (AllReadyH.cons opsD_6 (fun KK hKK => ?_) (AllReadyH.cons opsD_14 (fun KK hKK => ?_) (AllReadyH.cons opsD_15 (fun KK hKK => ?_) AllReadyH.nil)))
 ·go_simp
  refine (make5_any _ _ l1 n gn (1 + z1) (hq1.out _ hB) hn1.out hn5.out (Nat.lt_of_lt_of_le hgn.out hB.size) (hS9.out _ hB).2 ht1.out).mono ?_
  rintro e W1 ⟨v1, rfl, i1, hb5⟩
  obtain ⟨E1, p1, rfl, i1⟩ := i1.out.op
  rw [det_len] at i1 ⊢
  (try go_wp2_with fail)
  have hBn : Below w9.heap.size w9 _ := (hB.trans (hb5.mono hB.size))
  refine hKK.out _ _ (hS9.out _ hBn) (fun hHeld => ?_)
  clear hKK KK
  (try simp only [Act.put, ly])
  exact st_c1 hHeld _ (by kernel_rfl) (hB.trans (hb5.mono hB.size)) i1 C
 ·go_simp
  have hb5 : Below W.heap.size W (W.alloc (.cells #[.slice none 0 0] 24)) := (Below.refl _ _).alloc (Nat.le_refl _) _
  have hBn : Below w9.heap.size w9 _ := (hB.trans (hb5.mono hB.size))
  refine hKK.out _ _ (hS9.out _ hBn) (fun hHeld => ?_)
  clear hKK KK
  (try simp only [Act.put, ly])
  exact st_a hHeld _ (by kernel_rfl) (hB.trans (hb5.mono hB.size)) (made1 W #[.slice none 0 0] 24) hB.size C
 ·go_simp
  have hb5 : Below W.heap.size W (W.alloc (.cells #[.slice none 0 0] 24)) := (Below.refl _ _).alloc (Nat.le_refl _) _
  have hBn : Below w9.heap.size w9 _ := (hB.trans (hb5.mono hB.size))
  refine hKK.out _ _ (hS9.out _ hBn) (fun hHeld => ?_)
  clear hKK KK
  (try simp only [Act.put, ly])
  exact st_b hHeld _ (by kernel_rfl) (hB.trans (hb5.mono hB.size)) (made1 W #[.slice none 0 0] 24) hB.size C

set_option maxRecDepth 100000 in
set_option maxHeartbeats 8000000 in
theorem reg (y1 : 0 ≤ z1) (y2 : z1 ≤ 255) (y3 : 0 ≤ z2) (y4 : z2 ≤ 255) (hS9 : Hid (∀ W, Below w9.heap.size w9 W → SXD g5 gn n z1 z2 W)) (hq1 : Hid (∀ W, Below w9.heap.size w9 W → U8V W (.slice A1 m1 c1) l1)) (hq2 : Hid (∀ W, Below w9.heap.size w9 W → U8V W (.slice A2 m2 c2) l2)) (hn1 : Hid (n ≤ l1.length)) (hn2 : Hid (n ≤ l2.length)) (hn5 : Hid (n ≤ 5)) (hgn : Hid (gn < w9.heap.size)) (ht1 : Hid (1 ≤ 1 + z1 ∧ 1 + z1 ≤ 256)) (ht2 : Hid (1 ≤ 1 + z2 ∧ 1 + z2 ≤ 256)) (hOut : OutD w9 Q g5 gn n l1 l2 z1 z2 A1 A2 m1 c1 m2 c2 u2 u3 u4 u6 u11 u12 u13 u14 u15 u16 u17 u18 u19 u20 u21 u22 u23 u24 u25 u40 u41 u42 u43 u44 u45 u46 u47 u48 u49 u50 u51 u52 u53 u54 u55 u56 u57 u58 u59 u60 u61 u62 u63 u64 u65 u66 u67 u68 u69 u70 u71 u72 u73 u74 u75 u76 u77 u78 u79 u80 u81 u82 u83 u84 u85 u86 u87) :
 (Code.region 7 opsD true).wp Tryz.prog Q ⟨#[(.slice A1 m1 c1), (.slice A2 m2 c2), u2, u3, u4, (.pointer (some ⟨g5, 0, none⟩)), u6, (.pointer (some ⟨gn, 0, none⟩)), (.func (Fn.func 30) #[] #[.pointer (some ⟨gn, 0, none⟩)]), u9, u10, u11, u12, u13, u14, u15, u16, u17, u18, u19, u20, u21, u22, u23, u24, u25, u26, u27, u28, u29, u30, u31, u32, u33, u34, u35, u36, u37, u38, u39, u40, u41, u42, u43, u44, u45, u46, u47, u48, u49, u50, u51, u52, u53, u54, u55, u56, u57, u58, u59, u60, u61, u62, u63, u64, u65, u66, u67, u68, u69, u70, u71, u72, u73, u74, u75, u76, u77, u78, u79, u80, u81, u82, u83, u84, u85, u86, u87], []⟩ w9 := by
 refine wp_region_noPanic ?_
 refine wp_region_held_drew (S := (SXD g5 gn n z1 z2)) (by kernel_rfl) ?_ (fun hHeld => ?_)
 ·exact hS9.out _ (Below.refl _ _).drew
 rw [opsD_size]
 refine wpAnyH_take (i := 0) (v := ?_) opsD_0 (by kernel_rfl) (by kernel_rfl) (by kernel_rfl) (fun _ _ _ h => h) (Or.inl ⟨by kernel_rfl, ?_⟩) hHeld ?_
 rotate_left 1
 ·(intro w hSw; unfold SXD at hSw; (try dsimp only at hSw); first | (go_simp; done) | (go_simp; with_reducible rfl))
 (try simp only [Act.put, ly])
 refine wpAnyH_take (i := 1) (v := ?_) opsD_1 (by kernel_rfl) (by kernel_rfl) (by kernel_rfl) (fun _ _ _ h => h) (Or.inl ⟨by kernel_rfl, ?_⟩) hHeld ?_
 rotate_left 1
 ·(intro w hSw; unfold SXD at hSw; (try dsimp only at hSw); first | (go_simp; done) | (go_simp; with_reducible rfl))
 (try simp only [Act.put, ly])
 refine wpAnyH_take (i := 2) (v := ?_) opsD_2 (by kernel_rfl) (by kernel_rfl) (by kernel_rfl) (fun _ _ _ h => h) (Or.inl ⟨by kernel_rfl, ?_⟩) hHeld ?_
 rotate_left 1
 ·(intro w hSw; unfold SXD at hSw; (try dsimp only at hSw); first | (go_simp; done) | (go_simp; with_reducible rfl))
 (try simp only [Act.put, ly])
 refine wpAnyH_take (i := 3) (v := ?_) opsD_3 (by kernel_rfl) (by kernel_rfl) (by kernel_rfl) (fun _ _ _ h => h) (Or.inl ⟨by kernel_rfl, ?_⟩) hHeld ?_
 rotate_left 1
 ·(intro w hSw; unfold SXD at hSw; (try dsimp only at hSw); first | (go_simp; done) | (go_simp; with_reducible rfl))
 (try simp only [Act.put, ly])
 refine wpAnyH_take (i := 4) (v := ?_) opsD_4 (by kernel_rfl) (by kernel_rfl) (by kernel_rfl) (fun _ _ _ h => h) (Or.inl ⟨by kernel_rfl, ?_⟩) hHeld ?_
 rotate_left 1
 ·(intro w hSw; unfold SXD at hSw; (try dsimp only at hSw); first | (go_simp; done) | (go_simp; with_reducible rfl))
 (try simp only [Act.put, ly])
 refine wpAnyH_take (i := 5) (v := ?_) opsD_5 (by kernel_rfl) (by kernel_rfl) (by kernel_rfl) (fun _ _ _ h => h) (Or.inl ⟨by kernel_rfl, ?_⟩) hHeld ?_
 rotate_left 1
 ·(intro w hSw; unfold SXD at hSw; (try dsimp only at hSw); first | (go_simp; done) | (go_simp; with_reducible rfl))
 (try simp only [Act.put, ly])
 refine wpAnyH_take (i := 7) (v := ?_) opsD_7 (by kernel_rfl) (by kernel_rfl) (by kernel_rfl) (fun _ _ _ h => h) (Or.inl ⟨by kernel_rfl, ?_⟩) hHeld ?_
 rotate_left 1
 ·(intro w hSw; unfold SXD at hSw; (try dsimp only at hSw); first | (go_simp; done) | (go_simp; with_reducible rfl))
 (try simp only [Act.put, ly])
 refine wpAnyH_take (i := 8) (v := ?_) opsD_8 (by kernel_rfl) (by kernel_rfl) (by kernel_rfl) (fun _ _ _ h => h) (Or.inl ⟨by kernel_rfl, ?_⟩) hHeld ?_
 rotate_left 1
 ·(intro w hSw; unfold SXD at hSw; (try dsimp only at hSw); first | (go_simp; done) | (go_simp; with_reducible rfl))
 (try simp only [Act.put, ly])
 refine wpAnyH_take (i := 9) (v := ?_) opsD_9 (by kernel_rfl) (by kernel_rfl) (by kernel_rfl) (fun _ _ _ h => h) (Or.inl ⟨by kernel_rfl, ?_⟩) hHeld ?_
 rotate_left 1
 ·(intro w hSw; unfold SXD at hSw; (try dsimp only at hSw); first | (go_simp; done) | (go_simp; with_reducible rfl))
 (try simp only [Act.put, ly])
 refine wpAnyH_take (i := 10) (v := ?_) opsD_10 (by kernel_rfl) (by kernel_rfl) (by kernel_rfl) (fun _ _ _ h => h) (Or.inl ⟨by kernel_rfl, ?_⟩) hHeld ?_
 rotate_left 1
 ·(intro w hSw; unfold SXD at hSw; (try dsimp only at hSw); first | (go_simp; done) | (go_simp; with_reducible rfl))
 (try simp only [Act.put, ly])
 refine wpAnyH_take (i := 11) (v := ?_) opsD_11 (by kernel_rfl) (by kernel_rfl) (by kernel_rfl) (fun _ _ _ h => h) (Or.inl ⟨by kernel_rfl, ?_⟩) hHeld ?_
 rotate_left 1
 ·(intro w hSw; unfold SXD at hSw; (try dsimp only at hSw); first | (go_simp; done) | (go_simp; with_reducible rfl))
 (try simp only [Act.put, ly])
 refine wpAnyH_take (i := 12) (v := ?_) opsD_12 (by kernel_rfl) (by kernel_rfl) (by kernel_rfl) (fun _ _ _ h => h) (Or.inl ⟨by kernel_rfl, ?_⟩) hHeld ?_
 rotate_left 1
 ·(intro w hSw; unfold SXD at hSw; (try dsimp only at hSw); first | (go_simp; done) | (go_simp; with_reducible rfl))
 (try simp only [Act.put, ly])
 have e1 : IntKind.i64.wrap z1 = z1 := by rw [IntKind.wrap_i64]; omega
 have e2 : IntKind.i64.wrap z2 = z2 := by rw [IntKind.wrap_i64]; omega
 have e3 : IntKind.i64.wrap (1 + z1) = 1 + z1 := by rw [IntKind.wrap_i64]; omega
 have e4 : IntKind.i64.wrap (1 + z2) = 1 + z2 := by rw [IntKind.wrap_i64]; omega
 rw [e1, e2, e3, e4]
 exact st_O (s := ⟨u2, u3, u4, u6, u11, u12, u13, u14, u15, u16, u17, u18, u19, u20, u21, u22, u23, u24, u25, u40, u41, u42, u43, u44, u45, u46, u47, u48, u49, u50, u51, u52, u53, u54, u55, u56, u57, u58, u59, u60, u61, u62, u63, u64, u65, u66, u67, u68, u69, u70, u71, u72, u73, u74, u75, u76, u77, u78, u79, u80, u81, u82, u83, u84, u85, u86, u87⟩) hHeld _ (by kernel_rfl) ((Below.refl _ _).drew) ⟨hS9, hq1, hq2, hn1, hn2, hn5, hgn, ht1, ht2, hOut⟩
end
end Reg40d
end Go.Proofs.YtdambnieminnfaaGreat

