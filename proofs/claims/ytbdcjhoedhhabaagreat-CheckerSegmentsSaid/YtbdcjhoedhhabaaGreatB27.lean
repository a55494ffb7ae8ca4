/- Contracts of the functions that the statements reach, part 27. -/
import Derived.Test.YtbdcjhoedhhabaaGreatRows
import Derived.Test.YtbdcjhoedhhabaaGreatB26
set_option linter.unusedSimpArgs false
set_option linter.unusedVariables false

/- The drawn region of bucket.group that makes the two lists of sums. Printed by gen16g.py. -/
namespace Go.Proofs.YtbdcjhoedhhabaaGreat
open Go.RowKit
attribute [local go_sem ↓] Go.wp_at_zero Go.wp_at_succ
namespace Reg16g
/-- The operations of a region, by its number. -/
def findReg (n : Nat) : Code → Option (Array Oper)
 | .seq a b => match findReg n a with
   | some c => some c
   | none => findReg n b
 | .loop c => findReg n c
 | .block _ c => findReg n c
 | .scope c => findReg n c
 | .cond _ a b => match findReg n a with
   | some c => some c
   | none => findReg n b
 | .region k ops _ => if k = n then some ops else none
 | _ => none

noncomputable def opsG : Array Oper := (Tryz.f263.body.bind (findReg 1)).getD #[]
theorem opsG_size : opsG.size = 12 := by kernel_rfl
theorem opsG_0 : opsG[0]? = some { dst := some 7, op := Op.load 89 (Operand.tmp 1), type := 89, pos := (opsG[0]'(by rw [opsG_size]; decide)).pos, after := (opsG[0]'(by rw [opsG_size]; decide)).after, guard := none } := by kernel_rfl
theorem opsG_1 : opsG[1]? = some { dst := some 8, op := Op.call { callee := Callee.builtin Builtin.len, args := #[Operand.tmp 7], argTypes := #[89] }, type := 3, pos := (opsG[1]'(by rw [opsG_size]; decide)).pos, after := (opsG[1]'(by rw [opsG_size]; decide)).after, guard := none } := by kernel_rfl
theorem opsG_2 : opsG[2]? = some { dst := some 9, op := Op.binOp BinOp.add 3 (Operand.tmp 8) (Operand.const (Value.int IntKind.i64 1)) 3, type := 3, pos := (opsG[2]'(by rw [opsG_size]; decide)).pos, after := (opsG[2]'(by rw [opsG_size]; decide)).after, guard := none } := by kernel_rfl
theorem opsG_3 : opsG[3]? = some { dst := some 10, op := Op.makeSlice 27 (Operand.tmp 9) (Operand.tmp 9), type := 27, pos := (opsG[3]'(by rw [opsG_size]; decide)).pos, after := (opsG[3]'(by rw [opsG_size]; decide)).after, guard := none } := by kernel_rfl
theorem opsG_4 : opsG[4]? = some { dst := some 11, op := Op.load 89 (Operand.tmp 1), type := 89, pos := (opsG[4]'(by rw [opsG_size]; decide)).pos, after := (opsG[4]'(by rw [opsG_size]; decide)).after, guard := none } := by kernel_rfl
theorem opsG_5 : opsG[5]? = some { dst := some 12, op := Op.call { callee := Callee.builtin Builtin.len, args := #[Operand.tmp 11], argTypes := #[89] }, type := 3, pos := (opsG[5]'(by rw [opsG_size]; decide)).pos, after := (opsG[5]'(by rw [opsG_size]; decide)).after, guard := none } := by kernel_rfl
theorem opsG_6 : opsG[6]? = some { dst := some 13, op := Op.binOp BinOp.add 3 (Operand.tmp 12) (Operand.const (Value.int IntKind.i64 1)) 3, type := 3, pos := (opsG[6]'(by rw [opsG_size]; decide)).pos, after := (opsG[6]'(by rw [opsG_size]; decide)).after, guard := none } := by kernel_rfl
theorem opsG_7 : opsG[7]? = some { dst := some 14, op := Op.makeSlice 27 (Operand.tmp 13) (Operand.tmp 13), type := 27, pos := (opsG[7]'(by rw [opsG_size]; decide)).pos, after := (opsG[7]'(by rw [opsG_size]; decide)).after, guard := none } := by kernel_rfl
theorem opsG_8 : opsG[8]? = some { dst := some 3, op := Op.alloc 27, type := 0, pos := (opsG[8]'(by rw [opsG_size]; decide)).pos, after := (opsG[8]'(by rw [opsG_size]; decide)).after, guard := none } := by kernel_rfl
theorem opsG_9 : opsG[9]? = some { dst := some 4, op := Op.alloc 27, type := 0, pos := (opsG[9]'(by rw [opsG_size]; decide)).pos, after := (opsG[9]'(by rw [opsG_size]; decide)).after, guard := none } := by kernel_rfl
theorem opsG_10 : opsG[10]? = some { dst := none, op := Op.store 27 (Operand.tmp 3) (Operand.tmp 10), type := 0, pos := (opsG[10]'(by rw [opsG_size]; decide)).pos, after := (opsG[10]'(by rw [opsG_size]; decide)).after, guard := none } := by kernel_rfl
theorem opsG_11 : opsG[11]? = some { dst := none, op := Op.store 27 (Operand.tmp 4) (Operand.tmp 14), type := 0, pos := (opsG[11]'(by rw [opsG_size]; decide)).pos, after := (opsG[11]'(by rw [opsG_size]; decide)).after, guard := none } := by kernel_rfl


def SXG (g1 m cap : Nat) (a : Addr) : World → Prop := fun W => W.cell? ⟨g1, 0, none⟩ = some (.slice (some a) m cap)
/-- What the region leaves. -/
def OutG (w9 : World) (Q : Exit → Act → World → Prop) (g1 n1 : Nat) (u0 u2 u5 u6 u17 u18 u19 u20 u21 u22 u23 u24 u25 u26 u27 u28 u29 u30 u31 u32 u33 u34 u35 u36 u37 u38 u39 u40 u41 u42 u43 u44 u45 u46 u47 u48 : Value) : Prop :=
 ∀ (W : World) (ga gb gw gp : Nat) (v7 v8 v9 v10 v11 v12 v13 v14 v15 v16 : Value), ga ≠ gb → gw ≠ gp → w9.heap.size ≤ ga → w9.heap.size ≤ gb → w9.heap.size ≤ gw → w9.heap.size ≤ gp → Loc W ga 27 #[.slice (some ⟨gw, 0, none⟩) n1 n1] → Loc W gb 27 #[.slice (some ⟨gp, 0, none⟩) n1 n1] → Loc W gw 3 (madeCells #[.int .i64 0] n1) → Loc W gp 3 (madeCells #[.int .i64 0] n1) → Below w9.heap.size w9 W → Q .normal ⟨#[u0, (.pointer (some ⟨g1, 0, none⟩)), u2, (.pointer (some ⟨ga, 0, none⟩)), (.pointer (some ⟨gb, 0, none⟩)), u5, u6, v7, v8, v9, v10, v11, v12, v13, v14, v15, v16, u17, u18, u19, u20, u21, u22, u23, u24, u25, u26, u27, u28, u29, u30, u31, u32, u33, u34, u35, u36, u37, u38, u39, u40, u41, u42, u43, u44, u45, u46, u47, u48], []⟩ W

section
variable {Q : Exit → Act → World → Prop} {w9 W : World} {g1 m n1 cap ga gb gw gp : Nat} {a : Addr} {u0 u2 u3 u4 u5 u6 u7 u8 u9 u10 u11 u12 u13 u14 u15 u16 u17 u18 u19 u20 u21 u22 u23 u24 u25 u26 u27 u28 u29 u30 u31 u32 u33 u34 u35 u36 u37 u38 u39 u40 u41 u42 u43 u44 u45 u46 u47 u48 : Value}
set_option maxRecDepth 100000 in
set_option maxHeartbeats 8000000 in
theorem st_w_p_a_b_s_t (hHeld : SXG g1 m cap a W) (ls : Array Bool) (hls : ls = #[true, true, true, true, true, true, true, true, true, true, true, true]) (hB : Below w9.heap.size w9 W) (Lw : Loc W gw 3 (madeCells #[.int .i64 0] n1)) (hlw : w9.heap.size ≤ gw) (Lp : Loc W gp 3 (madeCells #[.int .i64 0] n1)) (hlp : w9.heap.size ≤ gp) (La : Loc W ga 27 #[.slice (some ⟨gw, 0, none⟩) n1 n1]) (hla : w9.heap.size ≤ ga) (Lb : Loc W gb 27 #[.slice (some ⟨gp, 0, none⟩) n1 n1]) (hlb : w9.heap.size ≤ gb) (hab : ga ≠ gb) (hwp : gw ≠ gp) (hS9 : Hid (∀ W, Below w9.heap.size w9 W → SXG g1 m cap a W)) (hn1 : n1 ≤ 1000000) (hOut : OutG w9 Q g1 n1 u0 u2 u5 u6 u17 u18 u19 u20 u21 u22 u23 u24 u25 u26 u27 u28 u29 u30 u31 u32 u33 u34 u35 u36 u37 u38 u39 u40 u41 u42 u43 u44 u45 u46 u47 u48) :
 wpAnyH Tryz.prog .any opsG (NoPanic Q) (SXG g1 m cap a) 0 ls ⟨#[u0, (.pointer (some ⟨g1, 0, none⟩)), u2, (.pointer (some ⟨ga, 0, none⟩)), (.pointer (some ⟨gb, 0, none⟩)), u5, u6, (.slice (some a) m cap), (.int .i64 (m : Int)), (.int .i64 (n1 : Int)), (.slice (some ⟨gw, 0, none⟩) n1 n1), (.slice (some a) m cap), (.int .i64 (m : Int)), (.int .i64 (n1 : Int)), (.slice (some ⟨gp, 0, none⟩) n1 n1), u15, u16, u17, u18, u19, u20, u21, u22, u23, u24, u25, u26, u27, u28, u29, u30, u31, u32, u33, u34, u35, u36, u37, u38, u39, u40, u41, u42, u43, u44, u45, u46, u47, u48], []⟩ W := by
 subst hls
 refine wpAnyH_done (by kernel_rfl) ?_ _
 refine NoPanic.normal ?_
 exact hOut W _ _ _ _ _ _ _ _ _ _ _ _ _ _ hab hwp hla hlb hlw hlp La Lb Lw Lp hB

set_option maxRecDepth 100000 in
set_option maxHeartbeats 8000000 in
theorem st_w_p_a_b_s (hHeld : SXG g1 m cap a W) (ls : Array Bool) (hls : ls = #[true, true, true, true, true, true, true, true, true, true, true, false]) (hB : Below w9.heap.size w9 W) (Lw : Loc W gw 3 (madeCells #[.int .i64 0] n1)) (hlw : w9.heap.size ≤ gw) (Lp : Loc W gp 3 (madeCells #[.int .i64 0] n1)) (hlp : w9.heap.size ≤ gp) (La : Loc W ga 27 #[.slice (some ⟨gw, 0, none⟩) n1 n1]) (hla : w9.heap.size ≤ ga) (Lb : Loc W gb 27 #[.slice none 0 0]) (hlb : w9.heap.size ≤ gb) (hab : ga ≠ gb) (hwp : gw ≠ gp) (hS9 : Hid (∀ W, Below w9.heap.size w9 W → SXG g1 m cap a W)) (hn1 : n1 ≤ 1000000) (hOut : OutG w9 Q g1 n1 u0 u2 u5 u6 u17 u18 u19 u20 u21 u22 u23 u24 u25 u26 u27 u28 u29 u30 u31 u32 u33 u34 u35 u36 u37 u38 u39 u40 u41 u42 u43 u44 u45 u46 u47 u48) :
 wpAnyH Tryz.prog .any opsG (NoPanic Q) (SXG g1 m cap a) 1 ls ⟨#[u0, (.pointer (some ⟨g1, 0, none⟩)), u2, (.pointer (some ⟨ga, 0, none⟩)), (.pointer (some ⟨gb, 0, none⟩)), u5, u6, (.slice (some a) m cap), (.int .i64 (m : Int)), (.int .i64 (n1 : Int)), (.slice (some ⟨gw, 0, none⟩) n1 n1), (.slice (some a) m cap), (.int .i64 (m : Int)), (.int .i64 (n1 : Int)), (.slice (some ⟨gp, 0, none⟩) n1 n1), u15, u16, u17, u18, u19, u20, u21, u22, u23, u24, u25, u26, u27, u28, u29, u30, u31, u32, u33, u34, u35, u36, u37, u38, u39, u40, u41, u42, u43, u44, u45, u46, u47, u48], []⟩ W := by
 subst hls
 refine wpAnyH_ready (rs := [11]) (by kernel_rfl) (by simp) ?_
 refine (AllReadyH.cons opsG_11 (fun KK hKK => ?_) AllReadyH.nil)
 ·obtain ⟨e7, g7, l7⟩ := Lb.all (w' := W)
  go_simp
  have hBn : Below w9.heap.size w9 _ := (bel : Below w9.heap.size w9 (W.setCell ⟨gb, 0, none⟩ (.slice (some ⟨gp, 0, none⟩) n1 n1)))
  refine hKK.out _ _ (hS9.out _ hBn) (fun hHeld => ?_)
  clear hKK KK
  (try simp only [Act.put, ly])
  exact st_w_p_a_b_s_t hHeld _ (by kernel_rfl) (bel : Below w9.heap.size w9 (W.setCell ⟨gb, 0, none⟩ (.slice (some ⟨gp, 0, none⟩) n1 n1))) (Lw.keep (X := fun b => b = gb) kp (by first | exact (loc_ne Lw Lb (by decide)) | exact (loc_ne Lp Lb (by decide)) | exact hab)) hlw (Lp.keep (X := fun b => b = gb) kp (by first | exact (loc_ne Lw Lb (by decide)) | exact (loc_ne Lp Lb (by decide)) | exact hab)) hlp (La.keep (X := fun b => b = gb) kp (by first | exact (loc_ne Lw Lb (by decide)) | exact (loc_ne Lp Lb (by decide)) | exact hab)) hla (Loc.fill1 Lb) hlb hab hwp hS9 hn1 hOut

set_option maxRecDepth 100000 in
set_option maxHeartbeats 8000000 in
theorem st_w_p_a_b (hHeld : SXG g1 m cap a W) (ls : Array Bool) (hls : ls = #[true, true, true, true, true, true, true, true, true, true, false, false]) (hB : Below w9.heap.size w9 W) (Lw : Loc W gw 3 (madeCells #[.int .i64 0] n1)) (hlw : w9.heap.size ≤ gw) (Lp : Loc W gp 3 (madeCells #[.int .i64 0] n1)) (hlp : w9.heap.size ≤ gp) (La : Loc W ga 27 #[.slice none 0 0]) (hla : w9.heap.size ≤ ga) (Lb : Loc W gb 27 #[.slice none 0 0]) (hlb : w9.heap.size ≤ gb) (hab : ga ≠ gb) (hwp : gw ≠ gp) (hS9 : Hid (∀ W, Below w9.heap.size w9 W → SXG g1 m cap a W)) (hn1 : n1 ≤ 1000000) (hOut : OutG w9 Q g1 n1 u0 u2 u5 u6 u17 u18 u19 u20 u21 u22 u23 u24 u25 u26 u27 u28 u29 u30 u31 u32 u33 u34 u35 u36 u37 u38 u39 u40 u41 u42 u43 u44 u45 u46 u47 u48) :
 wpAnyH Tryz.prog .any opsG (NoPanic Q) (SXG g1 m cap a) 2 ls ⟨#[u0, (.pointer (some ⟨g1, 0, none⟩)), u2, (.pointer (some ⟨ga, 0, none⟩)), (.pointer (some ⟨gb, 0, none⟩)), u5, u6, (.slice (some a) m cap), (.int .i64 (m : Int)), (.int .i64 (n1 : Int)), (.slice (some ⟨gw, 0, none⟩) n1 n1), (.slice (some a) m cap), (.int .i64 (m : Int)), (.int .i64 (n1 : Int)), (.slice (some ⟨gp, 0, none⟩) n1 n1), u15, u16, u17, u18, u19, u20, u21, u22, u23, u24, u25, u26, u27, u28, u29, u30, u31, u32, u33, u34, u35, u36, u37, u38, u39, u40, u41, u42, u43, u44, u45, u46, u47, u48], []⟩ W := by
 subst hls
 refine wpAnyH_ready (rs := [10]) (by kernel_rfl) (by simp) ?_
 refine (AllReadyH.cons opsG_10 (fun KK hKK => ?_) AllReadyH.nil)
 ·obtain ⟨e7, g7, l7⟩ := La.all (w' := W)
  go_simp
  have hBn : Below w9.heap.size w9 _ := (bel : Below w9.heap.size w9 (W.setCell ⟨ga, 0, none⟩ (.slice (some ⟨gw, 0, none⟩) n1 n1)))
  refine hKK.out _ _ (hS9.out _ hBn) (fun hHeld => ?_)
  clear hKK KK
  (try simp only [Act.put, ly])
  exact st_w_p_a_b_s hHeld _ (by kernel_rfl) (bel : Below w9.heap.size w9 (W.setCell ⟨ga, 0, none⟩ (.slice (some ⟨gw, 0, none⟩) n1 n1))) (Lw.keep (X := fun b => b = ga) kp (by first | exact (loc_ne Lw La (by decide)) | exact (loc_ne Lp La (by decide)) | exact hab.symm)) hlw (Lp.keep (X := fun b => b = ga) kp (by first | exact (loc_ne Lw La (by decide)) | exact (loc_ne Lp La (by decide)) | exact hab.symm)) hlp (Loc.fill1 La) hla (Lb.keep (X := fun b => b = ga) kp (by first | exact (loc_ne Lw La (by decide)) | exact (loc_ne Lp La (by decide)) | exact hab.symm)) hlb hab hwp hS9 hn1 hOut

set_option maxRecDepth 100000 in
set_option maxHeartbeats 8000000 in
theorem st_w_a_b_s (hHeld : SXG g1 m cap a W) (ls : Array Bool) (hls : ls = #[true, true, true, true, true, true, true, false, true, true, true, false]) (hB : Below w9.heap.size w9 W) (Lw : Loc W gw 3 (madeCells #[.int .i64 0] n1)) (hlw : w9.heap.size ≤ gw) (La : Loc W ga 27 #[.slice (some ⟨gw, 0, none⟩) n1 n1]) (hla : w9.heap.size ≤ ga) (Lb : Loc W gb 27 #[.slice none 0 0]) (hlb : w9.heap.size ≤ gb) (hab : ga ≠ gb) (hS9 : Hid (∀ W, Below w9.heap.size w9 W → SXG g1 m cap a W)) (hn1 : n1 ≤ 1000000) (hOut : OutG w9 Q g1 n1 u0 u2 u5 u6 u17 u18 u19 u20 u21 u22 u23 u24 u25 u26 u27 u28 u29 u30 u31 u32 u33 u34 u35 u36 u37 u38 u39 u40 u41 u42 u43 u44 u45 u46 u47 u48) :
 wpAnyH Tryz.prog .any opsG (NoPanic Q) (SXG g1 m cap a) 2 ls ⟨#[u0, (.pointer (some ⟨g1, 0, none⟩)), u2, (.pointer (some ⟨ga, 0, none⟩)), (.pointer (some ⟨gb, 0, none⟩)), u5, u6, (.slice (some a) m cap), (.int .i64 (m : Int)), (.int .i64 (n1 : Int)), (.slice (some ⟨gw, 0, none⟩) n1 n1), (.slice (some a) m cap), (.int .i64 (m : Int)), (.int .i64 (n1 : Int)), u14, u15, u16, u17, u18, u19, u20, u21, u22, u23, u24, u25, u26, u27, u28, u29, u30, u31, u32, u33, u34, u35, u36, u37, u38, u39, u40, u41, u42, u43, u44, u45, u46, u47, u48], []⟩ W := by
 subst hls
 refine wpAnyH_ready (rs := [7]) (by kernel_rfl) (by simp) ?_
 refine (AllReadyH.cons opsG_7 (fun KK hKK => ?_) AllReadyH.nil)
 ·refine step_makeI _ rfl _ _ rfl n1 rfl rfl hn1 ?_
  have hb5 : Below W.heap.size W (W.alloc (.cells (madeCells #[.int .i64 0] n1) 3)) := (Below.refl _ _).alloc (Nat.le_refl _) _
  have hBn : Below w9.heap.size w9 _ := (hB.trans (hb5.mono hB.size))
  refine hKK.out _ _ (hS9.out _ hBn) (fun hHeld => ?_)
  clear hKK KK
  (try simp only [Act.put, ly])
  exact st_w_p_a_b_s hHeld _ (by kernel_rfl) (hB.trans (hb5.mono hB.size)) (Lw.below hb5) hlw (made1 W (madeCells #[.int .i64 0] n1) 3) hB.size (La.below hb5) hla (Lb.below hb5) hlb hab (Nat.ne_of_lt Lw.lt) hS9 hn1 hOut

set_option maxRecDepth 100000 in
set_option maxHeartbeats 8000000 in
theorem st_w_p_a (hHeld : SXG g1 m cap a W) (ls : Array Bool) (hls : ls = #[true, true, true, true, true, true, true, true, true, false, false, false]) (hB : Below w9.heap.size w9 W) (Lw : Loc W gw 3 (madeCells #[.int .i64 0] n1)) (hlw : w9.heap.size ≤ gw) (Lp : Loc W gp 3 (madeCells #[.int .i64 0] n1)) (hlp : w9.heap.size ≤ gp) (La : Loc W ga 27 #[.slice none 0 0]) (hla : w9.heap.size ≤ ga) (hwp : gw ≠ gp) (hS9 : Hid (∀ W, Below w9.heap.size w9 W → SXG g1 m cap a W)) (hn1 : n1 ≤ 1000000) (hOut : OutG w9 Q g1 n1 u0 u2 u5 u6 u17 u18 u19 u20 u21 u22 u23 u24 u25 u26 u27 u28 u29 u30 u31 u32 u33 u34 u35 u36 u37 u38 u39 u40 u41 u42 u43 u44 u45 u46 u47 u48) :
 wpAnyH Tryz.prog .any opsG (NoPanic Q) (SXG g1 m cap a) 3 ls ⟨#[u0, (.pointer (some ⟨g1, 0, none⟩)), u2, (.pointer (some ⟨ga, 0, none⟩)), u4, u5, u6, (.slice (some a) m cap), (.int .i64 (m : Int)), (.int .i64 (n1 : Int)), (.slice (some ⟨gw, 0, none⟩) n1 n1), (.slice (some a) m cap), (.int .i64 (m : Int)), (.int .i64 (n1 : Int)), (.slice (some ⟨gp, 0, none⟩) n1 n1), u15, u16, u17, u18, u19, u20, u21, u22, u23, u24, u25, u26, u27, u28, u29, u30, u31, u32, u33, u34, u35, u36, u37, u38, u39, u40, u41, u42, u43, u44, u45, u46, u47, u48], []⟩ W := by
 subst hls
 refine wpAnyH_ready (rs := [9]) (by kernel_rfl) (by simp) ?_
 refine (AllReadyH.cons opsG_9 (fun KK hKK => ?_) AllReadyH.nil)
 ·go_simp
  have hb5 : Below W.heap.size W (W.alloc (.cells #[.slice none 0 0] 27)) := (Below.refl _ _).alloc (Nat.le_refl _) _
  have hBn : Below w9.heap.size w9 _ := (hB.trans (hb5.mono hB.size))
  refine hKK.out _ _ (hS9.out _ hBn) (fun hHeld => ?_)
  clear hKK KK
  (try simp only [Act.put, ly])
  exact st_w_p_a_b hHeld _ (by kernel_rfl) (hB.trans (hb5.mono hB.size)) (Lw.below hb5) hlw (Lp.below hb5) hlp (La.below hb5) hla (made1 W #[.slice none 0 0] 27) hB.size (Nat.ne_of_lt La.lt) hwp hS9 hn1 hOut

set_option maxRecDepth 100000 in
set_option maxHeartbeats 8000000 in
theorem st_w_p_b (hHeld : SXG g1 m cap a W) (ls : Array Bool) (hls : ls = #[true, true, true, true, true, true, true, true, false, true, false, false]) (hB : Below w9.heap.size w9 W) (Lw : Loc W gw 3 (madeCells #[.int .i64 0] n1)) (hlw : w9.heap.size ≤ gw) (Lp : Loc W gp 3 (madeCells #[.int .i64 0] n1)) (hlp : w9.heap.size ≤ gp) (Lb : Loc W gb 27 #[.slice none 0 0]) (hlb : w9.heap.size ≤ gb) (hwp : gw ≠ gp) (hS9 : Hid (∀ W, Below w9.heap.size w9 W → SXG g1 m cap a W)) (hn1 : n1 ≤ 1000000) (hOut : OutG w9 Q g1 n1 u0 u2 u5 u6 u17 u18 u19 u20 u21 u22 u23 u24 u25 u26 u27 u28 u29 u30 u31 u32 u33 u34 u35 u36 u37 u38 u39 u40 u41 u42 u43 u44 u45 u46 u47 u48) :
 wpAnyH Tryz.prog .any opsG (NoPanic Q) (SXG g1 m cap a) 3 ls ⟨#[u0, (.pointer (some ⟨g1, 0, none⟩)), u2, u3, (.pointer (some ⟨gb, 0, none⟩)), u5, u6, (.slice (some a) m cap), (.int .i64 (m : Int)), (.int .i64 (n1 : Int)), (.slice (some ⟨gw, 0, none⟩) n1 n1), (.slice (some a) m cap), (.int .i64 (m : Int)), (.int .i64 (n1 : Int)), (.slice (some ⟨gp, 0, none⟩) n1 n1), u15, u16, u17, u18, u19, u20, u21, u22, u23, u24, u25, u26, u27, u28, u29, u30, u31, u32, u33, u34, u35, u36, u37, u38, u39, u40, u41, u42, u43, u44, u45, u46, u47, u48], []⟩ W := by
 subst hls
 refine wpAnyH_ready (rs := [8]) (by kernel_rfl) (by simp) ?_
 refine (AllReadyH.cons opsG_8 (fun KK hKK => ?_) AllReadyH.nil)
 ·go_simp
  have hb5 : Below W.heap.size W (W.alloc (.cells #[.slice none 0 0] 27)) := (Below.refl _ _).alloc (Nat.le_refl _) _
  have hBn : Below w9.heap.size w9 _ := (hB.trans (hb5.mono hB.size))
  refine hKK.out _ _ (hS9.out _ hBn) (fun hHeld => ?_)
  clear hKK KK
  (try simp only [Act.put, ly])
  exact st_w_p_a_b hHeld _ (by kernel_rfl) (hB.trans (hb5.mono hB.size)) (Lw.below hb5) hlw (Lp.below hb5) hlp (made1 W #[.slice none 0 0] 27) hB.size (Lb.below hb5) hlb (Ne.symm (Nat.ne_of_lt Lb.lt)) hwp hS9 hn1 hOut

set_option maxRecDepth 100000 in
set_option maxHeartbeats 8000000 in
theorem st_w_a_b (hHeld : SXG g1 m cap a W) (ls : Array Bool) (hls : ls = #[true, true, true, true, true, true, true, false, true, true, false, false]) (hB : Below w9.heap.size w9 W) (Lw : Loc W gw 3 (madeCells #[.int .i64 0] n1)) (hlw : w9.heap.size ≤ gw) (La : Loc W ga 27 #[.slice none 0 0]) (hla : w9.heap.size ≤ ga) (Lb : Loc W gb 27 #[.slice none 0 0]) (hlb : w9.heap.size ≤ gb) (hab : ga ≠ gb) (hS9 : Hid (∀ W, Below w9.heap.size w9 W → SXG g1 m cap a W)) (hn1 : n1 ≤ 1000000) (hOut : OutG w9 Q g1 n1 u0 u2 u5 u6 u17 u18 u19 u20 u21 u22 u23 u24 u25 u26 u27 u28 u29 u30 u31 u32 u33 u34 u35 u36 u37 u38 u39 u40 u41 u42 u43 u44 u45 u46 u47 u48) :
 wpAnyH Tryz.prog .any opsG (NoPanic Q) (SXG g1 m cap a) 3 ls ⟨#[u0, (.pointer (some ⟨g1, 0, none⟩)), u2, (.pointer (some ⟨ga, 0, none⟩)), (.pointer (some ⟨gb, 0, none⟩)), u5, u6, (.slice (some a) m cap), (.int .i64 (m : Int)), (.int .i64 (n1 : Int)), (.slice (some ⟨gw, 0, none⟩) n1 n1), (.slice (some a) m cap), (.int .i64 (m : Int)), (.int .i64 (n1 : Int)), u14, u15, u16, u17, u18, u19, u20, u21, u22, u23, u24, u25, u26, u27, u28, u29, u30, u31, u32, u33, u34, u35, u36, u37, u38, u39, u40, u41, u42, u43, u44, u45, u46, u47, u48], []⟩ W := by
 subst hls
 refine wpAnyH_ready (rs := [7, 10]) (by kernel_rfl) (by simp) ?_
 refine (AllReadyH.cons opsG_7 (fun KK hKK => ?_) (AllReadyH.cons opsG_10 (fun KK hKK => ?_) AllReadyH.nil))
 ·refine step_makeI _ rfl _ _ rfl n1 rfl rfl hn1 ?_
  have hb5 : Below W.heap.size W (W.alloc (.cells (madeCells #[.int .i64 0] n1) 3)) := (Below.refl _ _).alloc (Nat.le_refl _) _
  have hBn : Below w9.heap.size w9 _ := (hB.trans (hb5.mono hB.size))
  refine hKK.out _ _ (hS9.out _ hBn) (fun hHeld => ?_)
  clear hKK KK
  (try simp only [Act.put, ly])
  exact st_w_p_a_b hHeld _ (by kernel_rfl) (hB.trans (hb5.mono hB.size)) (Lw.below hb5) hlw (made1 W (madeCells #[.int .i64 0] n1) 3) hB.size (La.below hb5) hla (Lb.below hb5) hlb hab (Nat.ne_of_lt Lw.lt) hS9 hn1 hOut
 ·obtain ⟨e7, g7, l7⟩ := La.all (w' := W)
  go_simp
  have hBn : Below w9.heap.size w9 _ := (bel : Below w9.heap.size w9 (W.setCell ⟨ga, 0, none⟩ (.slice (some ⟨gw, 0, none⟩) n1 n1)))
  refine hKK.out _ _ (hS9.out _ hBn) (fun hHeld => ?_)
  clear hKK KK
  (try simp only [Act.put, ly])
  exact st_w_a_b_s hHeld _ (by kernel_rfl) (bel : Below w9.heap.size w9 (W.setCell ⟨ga, 0, none⟩ (.slice (some ⟨gw, 0, none⟩) n1 n1))) (Lw.keep (X := fun b => b = ga) kp (by first | exact (loc_ne Lw La (by decide)) | exact (loc_ne Lp La (by decide)) | exact hab.symm)) hlw (Loc.fill1 La) hla (Lb.keep (X := fun b => b = ga) kp (by first | exact (loc_ne Lw La (by decide)) | exact (loc_ne Lp La (by decide)) | exact hab.symm)) hlb hab hS9 hn1 hOut

set_option maxRecDepth 100000 in
set_option maxHeartbeats 8000000 in
theorem st_p_a_b (hHeld : SXG g1 m cap a W) (ls : Array Bool) (hls : ls = #[true, true, true, false, true, true, true, true, true, true, false, false]) (hB : Below w9.heap.size w9 W) (Lp : Loc W gp 3 (madeCells #[.int .i64 0] n1)) (hlp : w9.heap.size ≤ gp) (La : Loc W ga 27 #[.slice none 0 0]) (hla : w9.heap.size ≤ ga) (Lb : Loc W gb 27 #[.slice none 0 0]) (hlb : w9.heap.size ≤ gb) (hab : ga ≠ gb) (hS9 : Hid (∀ W, Below w9.heap.size w9 W → SXG g1 m cap a W)) (hn1 : n1 ≤ 1000000) (hOut : OutG w9 Q g1 n1 u0 u2 u5 u6 u17 u18 u19 u20 u21 u22 u23 u24 u25 u26 u27 u28 u29 u30 u31 u32 u33 u34 u35 u36 u37 u38 u39 u40 u41 u42 u43 u44 u45 u46 u47 u48) :
 wpAnyH Tryz.prog .any opsG (NoPanic Q) (SXG g1 m cap a) 3 ls ⟨#[u0, (.pointer (some ⟨g1, 0, none⟩)), u2, (.pointer (some ⟨ga, 0, none⟩)), (.pointer (some ⟨gb, 0, none⟩)), u5, u6, (.slice (some a) m cap), (.int .i64 (m : Int)), (.int .i64 (n1 : Int)), u10, (.slice (some a) m cap), (.int .i64 (m : Int)), (.int .i64 (n1 : Int)), (.slice (some ⟨gp, 0, none⟩) n1 n1), u15, u16, u17, u18, u19, u20, u21, u22, u23, u24, u25, u26, u27, u28, u29, u30, u31, u32, u33, u34, u35, u36, u37, u38, u39, u40, u41, u42, u43, u44, u45, u46, u47, u48], []⟩ W := by
 subst hls
 refine wpAnyH_ready (rs := [3]) (by kernel_rfl) (by simp) ?_
 refine (AllReadyH.cons opsG_3 (fun KK hKK => ?_) AllReadyH.nil)
 ·refine step_makeI _ rfl _ _ rfl n1 rfl rfl hn1 ?_
  have hb5 : Below W.heap.size W (W.alloc (.cells (madeCells #[.int .i64 0] n1) 3)) := (Below.refl _ _).alloc (Nat.le_refl _) _
  have hBn : Below w9.heap.size w9 _ := (hB.trans (hb5.mono hB.size))
  refine hKK.out _ _ (hS9.out _ hBn) (fun hHeld => ?_)
  clear hKK KK
  (try simp only [Act.put, ly])
  exact st_w_p_a_b hHeld _ (by kernel_rfl) (hB.trans (hb5.mono hB.size)) (made1 W (madeCells #[.int .i64 0] n1) 3) hB.size (Lp.below hb5) hlp (La.below hb5) hla (Lb.below hb5) hlb hab (Ne.symm (Nat.ne_of_lt Lp.lt)) hS9 hn1 hOut

set_option maxRecDepth 100000 in
set_option maxHeartbeats 8000000 in
theorem st_w_p (hHeld : SXG g1 m cap a W) (ls : Array Bool) (hls : ls = #[true, true, true, true, true, true, true, true, false, false, false, false]) (hB : Below w9.heap.size w9 W) (Lw : Loc W gw 3 (madeCells #[.int .i64 0] n1)) (hlw : w9.heap.size ≤ gw) (Lp : Loc W gp 3 (madeCells #[.int .i64 0] n1)) (hlp : w9.heap.size ≤ gp) (hwp : gw ≠ gp) (hS9 : Hid (∀ W, Below w9.heap.size w9 W → SXG g1 m cap a W)) (hn1 : n1 ≤ 1000000) (hOut : OutG w9 Q g1 n1 u0 u2 u5 u6 u17 u18 u19 u20 u21 u22 u23 u24 u25 u26 u27 u28 u29 u30 u31 u32 u33 u34 u35 u36 u37 u38 u39 u40 u41 u42 u43 u44 u45 u46 u47 u48) :
 wpAnyH Tryz.prog .any opsG (NoPanic Q) (SXG g1 m cap a) 4 ls ⟨#[u0, (.pointer (some ⟨g1, 0, none⟩)), u2, u3, u4, u5, u6, (.slice (some a) m cap), (.int .i64 (m : Int)), (.int .i64 (n1 : Int)), (.slice (some ⟨gw, 0, none⟩) n1 n1), (.slice (some a) m cap), (.int .i64 (m : Int)), (.int .i64 (n1 : Int)), (.slice (some ⟨gp, 0, none⟩) n1 n1), u15, u16, u17, u18, u19, u20, u21, u22, u23, u24, u25, u26, u27, u28, u29, u30, u31, u32, u33, u34, u35, u36, u37, u38, u39, u40, u41, u42, u43, u44, u45, u46, u47, u48], []⟩ W := by
 subst hls
 refine wpAnyH_ready (rs := [8, 9]) (by kernel_rfl) (by simp) ?_
 refine (AllReadyH.cons opsG_8 (fun KK hKK => ?_) (AllReadyH.cons opsG_9 (fun KK hKK => ?_) AllReadyH.nil))
 ·go_simp
  have hb5 : Below W.heap.size W (W.alloc (.cells #[.slice none 0 0] 27)) := (Below.refl _ _).alloc (Nat.le_refl _) _
  have hBn : Below w9.heap.size w9 _ := (hB.trans (hb5.mono hB.size))
  refine hKK.out _ _ (hS9.out _ hBn) (fun hHeld => ?_)
  clear hKK KK
  (try simp only [Act.put, ly])
  exact st_w_p_a hHeld _ (by kernel_rfl) (hB.trans (hb5.mono hB.size)) (Lw.below hb5) hlw (Lp.below hb5) hlp (made1 W #[.slice none 0 0] 27) hB.size hwp hS9 hn1 hOut
 ·go_simp
  have hb5 : Below W.heap.size W (W.alloc (.cells #[.slice none 0 0] 27)) := (Below.refl _ _).alloc (Nat.le_refl _) _
  have hBn : Below w9.heap.size w9 _ := (hB.trans (hb5.mono hB.size))
  refine hKK.out _ _ (hS9.out _ hBn) (fun hHeld => ?_)
  clear hKK KK
  (try simp only [Act.put, ly])
  exact st_w_p_b hHeld _ (by kernel_rfl) (hB.trans (hb5.mono hB.size)) (Lw.below hb5) hlw (Lp.below hb5) hlp (made1 W #[.slice none 0 0] 27) hB.size hwp hS9 hn1 hOut

set_option maxRecDepth 100000 in
set_option maxHeartbeats 8000000 in
theorem st_w_a (hHeld : SXG g1 m cap a W) (ls : Array Bool) (hls : ls = #[true, true, true, true, true, true, true, false, true, false, false, false]) (hB : Below w9.heap.size w9 W) (Lw : Loc W gw 3 (madeCells #[.int .i64 0] n1)) (hlw : w9.heap.size ≤ gw) (La : Loc W ga 27 #[.slice none 0 0]) (hla : w9.heap.size ≤ ga) (hS9 : Hid (∀ W, Below w9.heap.size w9 W → SXG g1 m cap a W)) (hn1 : n1 ≤ 1000000) (hOut : OutG w9 Q g1 n1 u0 u2 u5 u6 u17 u18 u19 u20 u21 u22 u23 u24 u25 u26 u27 u28 u29 u30 u31 u32 u33 u34 u35 u36 u37 u38 u39 u40 u41 u42 u43 u44 u45 u46 u47 u48) :
 wpAnyH Tryz.prog .any opsG (NoPanic Q) (SXG g1 m cap a) 4 ls ⟨#[u0, (.pointer (some ⟨g1, 0, none⟩)), u2, (.pointer (some ⟨ga, 0, none⟩)), u4, u5, u6, (.slice (some a) m cap), (.int .i64 (m : Int)), (.int .i64 (n1 : Int)), (.slice (some ⟨gw, 0, none⟩) n1 n1), (.slice (some a) m cap), (.int .i64 (m : Int)), (.int .i64 (n1 : Int)), u14, u15, u16, u17, u18, u19, u20, u21, u22, u23, u24, u25, u26, u27, u28, u29, u30, u31, u32, u33, u34, u35, u36, u37, u38, u39, u40, u41, u42, u43, u44, u45, u46, u47, u48], []⟩ W := by
 subst hls
 refine wpAnyH_ready (rs := [7, 9]) (by kernel_rfl) (by simp) ?_
 refine (AllReadyH.cons opsG_7 (fun KK hKK => ?_) (AllReadyH.cons opsG_9 (fun KK hKK => ?_) AllReadyH.nil))
 ·refine step_makeI _ rfl _ _ rfl n1 rfl rfl hn1 ?_
  have hb5 : Below W.heap.size W (W.alloc (.cells (madeCells #[.int .i64 0] n1) 3)) := (Below.refl _ _).alloc (Nat.le_refl _) _
  have hBn : Below w9.heap.size w9 _ := (hB.trans (hb5.mono hB.size))
  refine hKK.out _ _ (hS9.out _ hBn) (fun hHeld => ?_)
  clear hKK KK
  (try simp only [Act.put, ly])
  exact st_w_p_a hHeld _ (by kernel_rfl) (hB.trans (hb5.mono hB.size)) (Lw.below hb5) hlw (made1 W (madeCells #[.int .i64 0] n1) 3) hB.size (La.below hb5) hla (Nat.ne_of_lt Lw.lt) hS9 hn1 hOut
 ·go_simp
  have hb5 : Below W.heap.size W (W.alloc (.cells #[.slice none 0 0] 27)) := (Below.refl _ _).alloc (Nat.le_refl _) _
  have hBn : Below w9.heap.size w9 _ := (hB.trans (hb5.mono hB.size))
  refine hKK.out _ _ (hS9.out _ hBn) (fun hHeld => ?_)
  clear hKK KK
  (try simp only [Act.put, ly])
  exact st_w_a_b hHeld _ (by kernel_rfl) (hB.trans (hb5.mono hB.size)) (Lw.below hb5) hlw (La.below hb5) hla (made1 W #[.slice none 0 0] 27) hB.size (Nat.ne_of_lt La.lt) hS9 hn1 hOut

set_option maxRecDepth 100000 in
set_option maxHeartbeats 8000000 in
theorem st_w_b (hHeld : SXG g1 m cap a W) (ls : Array Bool) (hls : ls = #[true, true, true, true, true, true, true, false, false, true, false, false]) (hB : Below w9.heap.size w9 W) (Lw : Loc W gw 3 (madeCells #[.int .i64 0] n1)) (hlw : w9.heap.size ≤ gw) (Lb : Loc W gb 27 #[.slice none 0 0]) (hlb : w9.heap.size ≤ gb) (hS9 : Hid (∀ W, Below w9.heap.size w9 W → SXG g1 m cap a W)) (hn1 : n1 ≤ 1000000) (hOut : OutG w9 Q g1 n1 u0 u2 u5 u6 u17 u18 u19 u20 u21 u22 u23 u24 u25 u26 u27 u28 u29 u30 u31 u32 u33 u34 u35 u36 u37 u38 u39 u40 u41 u42 u43 u44 u45 u46 u47 u48) :
 wpAnyH Tryz.prog .any opsG (NoPanic Q) (SXG g1 m cap a) 4 ls ⟨#[u0, (.pointer (some ⟨g1, 0, none⟩)), u2, u3, (.pointer (some ⟨gb, 0, none⟩)), u5, u6, (.slice (some a) m cap), (.int .i64 (m : Int)), (.int .i64 (n1 : Int)), (.slice (some ⟨gw, 0, none⟩) n1 n1), (.slice (some a) m cap), (.int .i64 (m : Int)), (.int .i64 (n1 : Int)), u14, u15, u16, u17, u18, u19, u20, u21, u22, u23, u24, u25, u26, u27, u28, u29, u30, u31, u32, u33, u34, u35, u36, u37, u38, u39, u40, u41, u42, u43, u44, u45, u46, u47, u48], []⟩ W := by
 subst hls
 refine wpAnyH_ready (rs := [7, 8]) (by kernel_rfl) (by simp) ?_
 refine (AllReadyH.cons opsG_7 (fun KK hKK => ?_) (AllReadyH.cons opsG_8 (fun KK hKK => ?_) AllReadyH.nil))
 ·refine step_makeI _ rfl _ _ rfl n1 rfl rfl hn1 ?_
  have hb5 : Below W.heap.size W (W.alloc (.cells (madeCells #[.int .i64 0] n1) 3)) := (Below.refl _ _).alloc (Nat.le_refl _) _
  have hBn : Below w9.heap.size w9 _ := (hB.trans (hb5.mono hB.size))
  refine hKK.out _ _ (hS9.out _ hBn) (fun hHeld => ?_)
  clear hKK KK
  (try simp only [Act.put, ly])
  exact st_w_p_b hHeld _ (by kernel_rfl) (hB.trans (hb5.mono hB.size)) (Lw.below hb5) hlw (made1 W (madeCells #[.int .i64 0] n1) 3) hB.size (Lb.below hb5) hlb (Nat.ne_of_lt Lw.lt) hS9 hn1 hOut
 ·go_simp
  have hb5 : Below W.heap.size W (W.alloc (.cells #[.slice none 0 0] 27)) := (Below.refl _ _).alloc (Nat.le_refl _) _
  have hBn : Below w9.heap.size w9 _ := (hB.trans (hb5.mono hB.size))
  refine hKK.out _ _ (hS9.out _ hBn) (fun hHeld => ?_)
  clear hKK KK
  (try simp only [Act.put, ly])
  exact st_w_a_b hHeld _ (by kernel_rfl) (hB.trans (hb5.mono hB.size)) (Lw.below hb5) hlw (made1 W #[.slice none 0 0] 27) hB.size (Lb.below hb5) hlb (Ne.symm (Nat.ne_of_lt Lb.lt)) hS9 hn1 hOut

set_option maxRecDepth 100000 in
set_option maxHeartbeats 8000000 in
theorem st_p_a (hHeld : SXG g1 m cap a W) (ls : Array Bool) (hls : ls = #[true, true, true, false, true, true, true, true, true, false, false, false]) (hB : Below w9.heap.size w9 W) (Lp : Loc W gp 3 (madeCells #[.int .i64 0] n1)) (hlp : w9.heap.size ≤ gp) (La : Loc W ga 27 #[.slice none 0 0]) (hla : w9.heap.size ≤ ga) (hS9 : Hid (∀ W, Below w9.heap.size w9 W → SXG g1 m cap a W)) (hn1 : n1 ≤ 1000000) (hOut : OutG w9 Q g1 n1 u0 u2 u5 u6 u17 u18 u19 u20 u21 u22 u23 u24 u25 u26 u27 u28 u29 u30 u31 u32 u33 u34 u35 u36 u37 u38 u39 u40 u41 u42 u43 u44 u45 u46 u47 u48) :
 wpAnyH Tryz.prog .any opsG (NoPanic Q) (SXG g1 m cap a) 4 ls ⟨#[u0, (.pointer (some ⟨g1, 0, none⟩)), u2, (.pointer (some ⟨ga, 0, none⟩)), u4, u5, u6, (.slice (some a) m cap), (.int .i64 (m : Int)), (.int .i64 (n1 : Int)), u10, (.slice (some a) m cap), (.int .i64 (m : Int)), (.int .i64 (n1 : Int)), (.slice (some ⟨gp, 0, none⟩) n1 n1), u15, u16, u17, u18, u19, u20, u21, u22, u23, u24, u25, u26, u27, u28, u29, u30, u31, u32, u33, u34, u35, u36, u37, u38, u39, u40, u41, u42, u43, u44, u45, u46, u47, u48], []⟩ W := by
 subst hls
 refine wpAnyH_ready (rs := [3, 9]) (by kernel_rfl) (by simp) ?_
 refine (AllReadyH.cons opsG_3 (fun KK hKK => ?_) (AllReadyH.cons opsG_9 (fun KK hKK => ?_) AllReadyH.nil))
 ·refine step_makeI _ rfl _ _ rfl n1 rfl rfl hn1 ?_
  have hb5 : Below W.heap.size W (W.alloc (.cells (madeCells #[.int .i64 0] n1) 3)) := (Below.refl _ _).alloc (Nat.le_refl _) _
  have hBn : Below w9.heap.size w9 _ := (hB.trans (hb5.mono hB.size))
  refine hKK.out _ _ (hS9.out _ hBn) (fun hHeld => ?_)
  clear hKK KK
  (try simp only [Act.put, ly])
  exact st_w_p_a hHeld _ (by kernel_rfl) (hB.trans (hb5.mono hB.size)) (made1 W (madeCells #[.int .i64 0] n1) 3) hB.size (Lp.below hb5) hlp (La.below hb5) hla (Ne.symm (Nat.ne_of_lt Lp.lt)) hS9 hn1 hOut
 ·go_simp
  have hb5 : Below W.heap.size W (W.alloc (.cells #[.slice none 0 0] 27)) := (Below.refl _ _).alloc (Nat.le_refl _) _
  have hBn : Below w9.heap.size w9 _ := (hB.trans (hb5.mono hB.size))
  refine hKK.out _ _ (hS9.out _ hBn) (fun hHeld => ?_)
  clear hKK KK
  (try simp only [Act.put, ly])
  exact st_p_a_b hHeld _ (by kernel_rfl) (hB.trans (hb5.mono hB.size)) (Lp.below hb5) hlp (La.below hb5) hla (made1 W #[.slice none 0 0] 27) hB.size (Nat.ne_of_lt La.lt) hS9 hn1 hOut

set_option maxRecDepth 100000 in
set_option maxHeartbeats 8000000 in
theorem st_p_b (hHeld : SXG g1 m cap a W) (ls : Array Bool) (hls : ls = #[true, true, true, false, true, true, true, true, false, true, false, false]) (hB : Below w9.heap.size w9 W) (Lp : Loc W gp 3 (madeCells #[.int .i64 0] n1)) (hlp : w9.heap.size ≤ gp) (Lb : Loc W gb 27 #[.slice none 0 0]) (hlb : w9.heap.size ≤ gb) (hS9 : Hid (∀ W, Below w9.heap.size w9 W → SXG g1 m cap a W)) (hn1 : n1 ≤ 1000000) (hOut : OutG w9 Q g1 n1 u0 u2 u5 u6 u17 u18 u19 u20 u21 u22 u23 u24 u25 u26 u27 u28 u29 u30 u31 u32 u33 u34 u35 u36 u37 u38 u39 u40 u41 u42 u43 u44 u45 u46 u47 u48) :
 wpAnyH Tryz.prog .any opsG (NoPanic Q) (SXG g1 m cap a) 4 ls ⟨#[u0, (.pointer (some ⟨g1, 0, none⟩)), u2, u3, (.pointer (some ⟨gb, 0, none⟩)), u5, u6, (.slice (some a) m cap), (.int .i64 (m : Int)), (.int .i64 (n1 : Int)), u10, (.slice (some a) m cap), (.int .i64 (m : Int)), (.int .i64 (n1 : Int)), (.slice (some ⟨gp, 0, none⟩) n1 n1), u15, u16, u17, u18, u19, u20, u21, u22, u23, u24, u25, u26, u27, u28, u29, u30, u31, u32, u33, u34, u35, u36, u37, u38, u39, u40, u41, u42, u43, u44, u45, u46, u47, u48], []⟩ W := by
 subst hls
 refine wpAnyH_ready (rs := [3, 8]) (by kernel_rfl) (by simp) ?_
 refine (AllReadyH.cons opsG_3 (fun KK hKK => ?_) (AllReadyH.cons opsG_8 (fun KK hKK => ?_) AllReadyH.nil))
 ·refine step_makeI _ rfl _ _ rfl n1 rfl rfl hn1 ?_
  have hb5 : Below W.heap.size W (W.alloc (.cells (madeCells #[.int .i64 0] n1) 3)) := (Below.refl _ _).alloc (Nat.le_refl _) _
  have hBn : Below w9.heap.size w9 _ := (hB.trans (hb5.mono hB.size))
  refine hKK.out _ _ (hS9.out _ hBn) (fun hHeld => ?_)
  clear hKK KK
  (try simp only [Act.put, ly])
  exact st_w_p_b hHeld _ (by kernel_rfl) (hB.trans (hb5.mono hB.size)) (made1 W (madeCells #[.int .i64 0] n1) 3) hB.size (Lp.below hb5) hlp (Lb.below hb5) hlb (Ne.symm (Nat.ne_of_lt Lp.lt)) hS9 hn1 hOut
 ·go_simp
  have hb5 : Below W.heap.size W (W.alloc (.cells #[.slice none 0 0] 27)) := (Below.refl _ _).alloc (Nat.le_refl _) _
  have hBn : Below w9.heap.size w9 _ := (hB.trans (hb5.mono hB.size))
  refine hKK.out _ _ (hS9.out _ hBn) (fun hHeld => ?_)
  clear hKK KK
  (try simp only [Act.put, ly])
  exact st_p_a_b hHeld _ (by kernel_rfl) (hB.trans (hb5.mono hB.size)) (Lp.below hb5) hlp (made1 W #[.slice none 0 0] 27) hB.size (Lb.below hb5) hlb (Ne.symm (Nat.ne_of_lt Lb.lt)) hS9 hn1 hOut

set_option maxRecDepth 100000 in
set_option maxHeartbeats 8000000 in
theorem st_a_b (hHeld : SXG g1 m cap a W) (ls : Array Bool) (hls : ls = #[true, true, true, false, true, true, true, false, true, true, false, false]) (hB : Below w9.heap.size w9 W) (La : Loc W ga 27 #[.slice none 0 0]) (hla : w9.heap.size ≤ ga) (Lb : Loc W gb 27 #[.slice none 0 0]) (hlb : w9.heap.size ≤ gb) (hab : ga ≠ gb) (hS9 : Hid (∀ W, Below w9.heap.size w9 W → SXG g1 m cap a W)) (hn1 : n1 ≤ 1000000) (hOut : OutG w9 Q g1 n1 u0 u2 u5 u6 u17 u18 u19 u20 u21 u22 u23 u24 u25 u26 u27 u28 u29 u30 u31 u32 u33 u34 u35 u36 u37 u38 u39 u40 u41 u42 u43 u44 u45 u46 u47 u48) :
 wpAnyH Tryz.prog .any opsG (NoPanic Q) (SXG g1 m cap a) 4 ls ⟨#[u0, (.pointer (some ⟨g1, 0, none⟩)), u2, (.pointer (some ⟨ga, 0, none⟩)), (.pointer (some ⟨gb, 0, none⟩)), u5, u6, (.slice (some a) m cap), (.int .i64 (m : Int)), (.int .i64 (n1 : Int)), u10, (.slice (some a) m cap), (.int .i64 (m : Int)), (.int .i64 (n1 : Int)), u14, u15, u16, u17, u18, u19, u20, u21, u22, u23, u24, u25, u26, u27, u28, u29, u30, u31, u32, u33, u34, u35, u36, u37, u38, u39, u40, u41, u42, u43, u44, u45, u46, u47, u48], []⟩ W := by
 subst hls
 refine wpAnyH_ready (rs := [3, 7]) (by kernel_rfl) (by simp) ?_
 refine (AllReadyH.cons opsG_3 (fun KK hKK => ?_) (AllReadyH.cons opsG_7 (fun KK hKK => ?_) AllReadyH.nil))
 ·refine step_makeI _ rfl _ _ rfl n1 rfl rfl hn1 ?_
  have hb5 : Below W.heap.size W (W.alloc (.cells (madeCells #[.int .i64 0] n1) 3)) := (Below.refl _ _).alloc (Nat.le_refl _) _
  have hBn : Below w9.heap.size w9 _ := (hB.trans (hb5.mono hB.size))
  refine hKK.out _ _ (hS9.out _ hBn) (fun hHeld => ?_)
  clear hKK KK
  (try simp only [Act.put, ly])
  exact st_w_a_b hHeld _ (by kernel_rfl) (hB.trans (hb5.mono hB.size)) (made1 W (madeCells #[.int .i64 0] n1) 3) hB.size (La.below hb5) hla (Lb.below hb5) hlb hab hS9 hn1 hOut
 ·refine step_makeI _ rfl _ _ rfl n1 rfl rfl hn1 ?_
  have hb5 : Below W.heap.size W (W.alloc (.cells (madeCells #[.int .i64 0] n1) 3)) := (Below.refl _ _).alloc (Nat.le_refl _) _
  have hBn : Below w9.heap.size w9 _ := (hB.trans (hb5.mono hB.size))
  refine hKK.out _ _ (hS9.out _ hBn) (fun hHeld => ?_)
  clear hKK KK
  (try simp only [Act.put, ly])
  exact st_p_a_b hHeld _ (by kernel_rfl) (hB.trans (hb5.mono hB.size)) (made1 W (madeCells #[.int .i64 0] n1) 3) hB.size (La.below hb5) hla (Lb.below hb5) hlb hab hS9 hn1 hOut

set_option maxRecDepth 100000 in
set_option maxHeartbeats 8000000 in
theorem st_w (hHeld : SXG g1 m cap a W) (ls : Array Bool) (hls : ls = #[true, true, true, true, true, true, true, false, false, false, false, false]) (hB : Below w9.heap.size w9 W) (Lw : Loc W gw 3 (madeCells #[.int .i64 0] n1)) (hlw : w9.heap.size ≤ gw) (hS9 : Hid (∀ W, Below w9.heap.size w9 W → SXG g1 m cap a W)) (hn1 : n1 ≤ 1000000) (hOut : OutG w9 Q g1 n1 u0 u2 u5 u6 u17 u18 u19 u20 u21 u22 u23 u24 u25 u26 u27 u28 u29 u30 u31 u32 u33 u34 u35 u36 u37 u38 u39 u40 u41 u42 u43 u44 u45 u46 u47 u48) :
 wpAnyH Tryz.prog .any opsG (NoPanic Q) (SXG g1 m cap a) 5 ls ⟨#[u0, (.pointer (some ⟨g1, 0, none⟩)), u2, u3, u4, u5, u6, (.slice (some a) m cap), (.int .i64 (m : Int)), (.int .i64 (n1 : Int)), (.slice (some ⟨gw, 0, none⟩) n1 n1), (.slice (some a) m cap), (.int .i64 (m : Int)), (.int .i64 (n1 : Int)), u14, u15, u16, u17, u18, u19, u20, u21, u22, u23, u24, u25, u26, u27, u28, u29, u30, u31, u32, u33, u34, u35, u36, u37, u38, u39, u40, u41, u42, u43, u44, u45, u46, u47, u48], []⟩ W := by
 subst hls
 refine wpAnyH_ready (rs := [7, 8, 9]) (by kernel_rfl) (by simp) ?_
 refine (AllReadyH.cons opsG_7 (fun KK hKK => ?_) (AllReadyH.cons opsG_8 (fun KK hKK => ?_) (AllReadyH.cons opsG_9 (fun KK hKK => ?_) AllReadyH.nil)))
 ·refine step_makeI _ rfl _ _ rfl n1 rfl rfl hn1 ?_
  have hb5 : Below W.heap.size W (W.alloc (.cells (madeCells #[.int .i64 0] n1) 3)) := (Below.refl _ _).alloc (Nat.le_refl _) _
  have hBn : Below w9.heap.size w9 _ := (hB.trans (hb5.mono hB.size))
  refine hKK.out _ _ (hS9.out _ hBn) (fun hHeld => ?_)
  clear hKK KK
  (try simp only [Act.put, ly])
  exact st_w_p hHeld _ (by kernel_rfl) (hB.trans (hb5.mono hB.size)) (Lw.below hb5) hlw (made1 W (madeCells #[.int .i64 0] n1) 3) hB.size (Nat.ne_of_lt Lw.lt) hS9 hn1 hOut
 ·go_simp
  have hb5 : Below W.heap.size W (W.alloc (.cells #[.slice none 0 0] 27)) := (Below.refl _ _).alloc (Nat.le_refl _) _
  have hBn : Below w9.heap.size w9 _ := (hB.trans (hb5.mono hB.size))
  refine hKK.out _ _ (hS9.out _ hBn) (fun hHeld => ?_)
  clear hKK KK
  (try simp only [Act.put, ly])
  exact st_w_a hHeld _ (by kernel_rfl) (hB.trans (hb5.mono hB.size)) (Lw.below hb5) hlw (made1 W #[.slice none 0 0] 27) hB.size hS9 hn1 hOut
 ·go_simp
  have hb5 : Below W.heap.size W (W.alloc (.cells #[.slice none 0 0] 27)) := (Below.refl _ _).alloc (Nat.le_refl _) _
  have hBn : Below w9.heap.size w9 _ := (hB.trans (hb5.mono hB.size))
  refine hKK.out _ _ (hS9.out _ hBn) (fun hHeld => ?_)
  clear hKK KK
  (try simp only [Act.put, ly])
  exact st_w_b hHeld _ (by kernel_rfl) (hB.trans (hb5.mono hB.size)) (Lw.below hb5) hlw (made1 W #[.slice none 0 0] 27) hB.size hS9 hn1 hOut

set_option maxRecDepth 100000 in
set_option maxHeartbeats 8000000 in
theorem st_p (hHeld : SXG g1 m cap a W) (ls : Array Bool) (hls : ls = #[true, true, true, false, true, true, true, true, false, false, false, false]) (hB : Below w9.heap.size w9 W) (Lp : Loc W gp 3 (madeCells #[.int .i64 0] n1)) (hlp : w9.heap.size ≤ gp) (hS9 : Hid (∀ W, Below w9.heap.size w9 W → SXG g1 m cap a W)) (hn1 : n1 ≤ 1000000) (hOut : OutG w9 Q g1 n1 u0 u2 u5 u6 u17 u18 u19 u20 u21 u22 u23 u24 u25 u26 u27 u28 u29 u30 u31 u32 u33 u34 u35 u36 u37 u38 u39 u40 u41 u42 u43 u44 u45 u46 u47 u48) :
 wpAnyH Tryz.prog .any opsG (NoPanic Q) (SXG g1 m cap a) 5 ls ⟨#[u0, (.pointer (some ⟨g1, 0, none⟩)), u2, u3, u4, u5, u6, (.slice (some a) m cap), (.int .i64 (m : Int)), (.int .i64 (n1 : Int)), u10, (.slice (some a) m cap), (.int .i64 (m : Int)), (.int .i64 (n1 : Int)), (.slice (some ⟨gp, 0, none⟩) n1 n1), u15, u16, u17, u18, u19, u20, u21, u22, u23, u24, u25, u26, u27, u28, u29, u30, u31, u32, u33, u34, u35, u36, u37, u38, u39, u40, u41, u42, u43, u44, u45, u46, u47, u48], []⟩ W := by
 subst hls
 refine wpAnyH_ready (rs := [3, 8, 9]) (by kernel_rfl) (by simp) ?_
 refine (AllReadyH.cons opsG_3 (fun KK hKK => ?_) (AllReadyH.cons opsG_8 (fun KK hKK => ?_) (AllReadyH.cons opsG_9 (fun KK hKK => ?_) AllReadyH.nil)))
 ·refine step_makeI _ rfl _ _ rfl n1 rfl rfl hn1 ?_
  have hb5 : Below W.heap.size W (W.alloc (.cells (madeCells #[.int .i64 0] n1) 3)) := (Below.refl _ _).alloc (Nat.le_refl _) _
  have hBn : Below w9.heap.size w9 _ := (hB.trans (hb5.mono hB.size))
  refine hKK.out _ _ (hS9.out _ hBn) (fun hHeld => ?_)
  clear hKK KK
  (try simp only [Act.put, ly])
  exact st_w_p hHeld _ (by kernel_rfl) (hB.trans (hb5.mono hB.size)) (made1 W (madeCells #[.int .i64 0] n1) 3) hB.size (Lp.below hb5) hlp (Ne.symm (Nat.ne_of_lt Lp.lt)) hS9 hn1 hOut
 ·go_simp
  have hb5 : Below W.heap.size W (W.alloc (.cells #[.slice none 0 0] 27)) := (Below.refl _ _).alloc (Nat.le_refl _) _
  have hBn : Below w9.heap.size w9 _ := (hB.trans (hb5.mono hB.size))
  refine hKK.out _ _ (hS9.out _ hBn) (fun hHeld => ?_)
  clear hKK KK
  (try simp only [Act.put, ly])
  exact st_p_a hHeld _ (by kernel_rfl) (hB.trans (hb5.mono hB.size)) (Lp.below hb5) hlp (made1 W #[.slice none 0 0] 27) hB.size hS9 hn1 hOut
 ·go_simp
  have hb5 : Below W.heap.size W (W.alloc (.cells #[.slice none 0 0] 27)) := (Below.refl _ _).alloc (Nat.le_refl _) _
  have hBn : Below w9.heap.size w9 _ := (hB.trans (hb5.mono hB.size))
  refine hKK.out _ _ (hS9.out _ hBn) (fun hHeld => ?_)
  clear hKK KK
  (try simp only [Act.put, ly])
  exact st_p_b hHeld _ (by kernel_rfl) (hB.trans (hb5.mono hB.size)) (Lp.below hb5) hlp (made1 W #[.slice none 0 0] 27) hB.size hS9 hn1 hOut

set_option maxRecDepth 100000 in
set_option maxHeartbeats 8000000 in
theorem st_a (hHeld : SXG g1 m cap a W) (ls : Array Bool) (hls : ls = #[true, true, true, false, true, true, true, false, true, false, false, false]) (hB : Below w9.heap.size w9 W) (La : Loc W ga 27 #[.slice none 0 0]) (hla : w9.heap.size ≤ ga) (hS9 : Hid (∀ W, Below w9.heap.size w9 W → SXG g1 m cap a W)) (hn1 : n1 ≤ 1000000) (hOut : OutG w9 Q g1 n1 u0 u2 u5 u6 u17 u18 u19 u20 u21 u22 u23 u24 u25 u26 u27 u28 u29 u30 u31 u32 u33 u34 u35 u36 u37 u38 u39 u40 u41 u42 u43 u44 u45 u46 u47 u48) :
 wpAnyH Tryz.prog .any opsG (NoPanic Q) (SXG g1 m cap a) 5 ls ⟨#[u0, (.pointer (some ⟨g1, 0, none⟩)), u2, (.pointer (some ⟨ga, 0, none⟩)), u4, u5, u6, (.slice (some a) m cap), (.int .i64 (m : Int)), (.int .i64 (n1 : Int)), u10, (.slice (some a) m cap), (.int .i64 (m : Int)), (.int .i64 (n1 : Int)), u14, u15, u16, u17, u18, u19, u20, u21, u22, u23, u24, u25, u26, u27, u28, u29, u30, u31, u32, u33, u34, u35, u36, u37, u38, u39, u40, u41, u42, u43, u44, u45, u46, u47, u48], []⟩ W := by
 subst hls
 refine wpAnyH_ready (rs := [3, 7, 9]) (by kernel_rfl) (by simp) ?_
 refine (AllReadyH.cons opsG_3 (fun KK hKK => ?_) (AllReadyH.cons opsG_7 (fun KK hKK => ?_) (AllReadyH.cons opsG_9 (fun KK hKK => ?_) AllReadyH.nil)))
 ·refine step_makeI _ rfl _ _ rfl n1 rfl rfl hn1 ?_
  have hb5 : Below W.heap.size W (W.alloc (.cells (madeCells #[.int .i64 0] n1) 3)) := (Below.refl _ _).alloc (Nat.le_refl _) _
  have hBn : Below w9.heap.size w9 _ := (hB.trans (hb5.mono hB.size))
  refine hKK.out _ _ (hS9.out _ hBn) (fun hHeld => ?_)
  clear hKK KK
  (try simp only [Act.put, ly])
  exact st_w_a hHeld _ (by kernel_rfl) (hB.trans (hb5.mono hB.size)) (made1 W (madeCells #[.int .i64 0] n1) 3) hB.size (La.below hb5) hla hS9 hn1 hOut
 ·refine step_makeI _ rfl _ _ rfl n1 rfl rfl hn1 ?_
  have hb5 : Below W.heap.size W (W.alloc (.cells (madeCells #[.int .i64 0] n1) 3)) := (Below.refl _ _).alloc (Nat.le_refl _) _
  have hBn : Below w9.heap.size w9 _ := (hB.trans (hb5.mono hB.size))
  refine hKK.out _ _ (hS9.out _ hBn) (fun hHeld => ?_)
  clear hKK KK
  (try simp only [Act.put, ly])
  exact st_p_a hHeld _ (by kernel_rfl) (hB.trans (hb5.mono hB.size)) (made1 W (madeCells #[.int .i64 0] n1) 3) hB.size (La.below hb5) hla hS9 hn1 hOut
 ·go_simp
  have hb5 : Below W.heap.size W (W.alloc (.cells #[.slice none 0 0] 27)) := (Below.refl _ _).alloc (Nat.le_refl _) _
  have hBn : Below w9.heap.size w9 _ := (hB.trans (hb5.mono hB.size))
  refine hKK.out _ _ (hS9.out _ hBn) (fun hHeld => ?_)
  clear hKK KK
  (try simp only [Act.put, ly])
  exact st_a_b hHeld _ (by kernel_rfl) (hB.trans (hb5.mono hB.size)) (La.below hb5) hla (made1 W #[.slice none 0 0] 27) hB.size (Nat.ne_of_lt La.lt) hS9 hn1 hOut

set_option maxRecDepth 100000 in
set_option maxHeartbeats 8000000 in
theorem st_b (hHeld : SXG g1 m cap a W) (ls : Array Bool) (hls : ls = #[true, true, true, false, true, true, true, false, false, true, false, false]) (hB : Below w9.heap.size w9 W) (Lb : Loc W gb 27 #[.slice none 0 0]) (hlb : w9.heap.size ≤ gb) (hS9 : Hid (∀ W, Below w9.heap.size w9 W → SXG g1 m cap a W)) (hn1 : n1 ≤ 1000000) (hOut : OutG w9 Q g1 n1 u0 u2 u5 u6 u17 u18 u19 u20 u21 u22 u23 u24 u25 u26 u27 u28 u29 u30 u31 u32 u33 u34 u35 u36 u37 u38 u39 u40 u41 u42 u43 u44 u45 u46 u47 u48) :
 wpAnyH Tryz.prog .any opsG (NoPanic Q) (SXG g1 m cap a) 5 ls ⟨#[u0, (.pointer (some ⟨g1, 0, none⟩)), u2, u3, (.pointer (some ⟨gb, 0, none⟩)), u5, u6, (.slice (some a) m cap), (.int .i64 (m : Int)), (.int .i64 (n1 : Int)), u10, (.slice (some a) m cap), (.int .i64 (m : Int)), (.int .i64 (n1 : Int)), u14, u15, u16, u17, u18, u19, u20, u21, u22, u23, u24, u25, u26, u27, u28, u29, u30, u31, u32, u33, u34, u35, u36, u37, u38, u39, u40, u41, u42, u43, u44, u45, u46, u47, u48], []⟩ W := by
 subst hls
 refine wpAnyH_ready (rs := [3, 7, 8]) (by kernel_rfl) (by simp) ?_
 refine (AllReadyH.cons opsG_3 (fun KK hKK => ?_) (AllReadyH.cons opsG_7 (fun KK hKK => ?_) (AllReadyH.cons opsG_8 (fun KK hKK => ?_) AllReadyH.nil)))
 ·refine step_makeI _ rfl _ _ rfl n1 rfl rfl hn1 ?_
  have hb5 : Below W.heap.size W (W.alloc (.cells (madeCells #[.int .i64 0] n1) 3)) := (Below.refl _ _).alloc (Nat.le_refl _) _
  have hBn : Below w9.heap.size w9 _ := (hB.trans (hb5.mono hB.size))
  refine hKK.out _ _ (hS9.out _ hBn) (fun hHeld => ?_)
  clear hKK KK
  (try simp only [Act.put, ly])
  exact st_w_b hHeld _ (by kernel_rfl) (hB.trans (hb5.mono hB.size)) (made1 W (madeCells #[.int .i64 0] n1) 3) hB.size (Lb.below hb5) hlb hS9 hn1 hOut
 ·refine step_makeI _ rfl _ _ rfl n1 rfl rfl hn1 ?_
  have hb5 : Below W.heap.size W (W.alloc (.cells (madeCells #[.int .i64 0] n1) 3)) := (Below.refl _ _).alloc (Nat.le_refl _) _
  have hBn : Below w9.heap.size w9 _ := (hB.trans (hb5.mono hB.size))
  refine hKK.out _ _ (hS9.out _ hBn) (fun hHeld => ?_)
  clear hKK KK
  (try simp only [Act.put, ly])
  exact st_p_b hHeld _ (by kernel_rfl) (hB.trans (hb5.mono hB.size)) (made1 W (madeCells #[.int .i64 0] n1) 3) hB.size (Lb.below hb5) hlb hS9 hn1 hOut
 ·go_simp
  have hb5 : Below W.heap.size W (W.alloc (.cells #[.slice none 0 0] 27)) := (Below.refl _ _).alloc (Nat.le_refl _) _
  have hBn : Below w9.heap.size w9 _ := (hB.trans (hb5.mono hB.size))
  refine hKK.out _ _ (hS9.out _ hBn) (fun hHeld => ?_)
  clear hKK KK
  (try simp only [Act.put, ly])
  exact st_a_b hHeld _ (by kernel_rfl) (hB.trans (hb5.mono hB.size)) (made1 W #[.slice none 0 0] 27) hB.size (Lb.below hb5) hlb (Ne.symm (Nat.ne_of_lt Lb.lt)) hS9 hn1 hOut

set_option maxRecDepth 100000 in
set_option maxHeartbeats 8000000 in
theorem st_O (hHeld : SXG g1 m cap a W) (ls : Array Bool) (hls : ls = #[true, true, true, false, true, true, true, false, false, false, false, false]) (hB : Below w9.heap.size w9 W) (hS9 : Hid (∀ W, Below w9.heap.size w9 W → SXG g1 m cap a W)) (hn1 : n1 ≤ 1000000) (hOut : OutG w9 Q g1 n1 u0 u2 u5 u6 u17 u18 u19 u20 u21 u22 u23 u24 u25 u26 u27 u28 u29 u30 u31 u32 u33 u34 u35 u36 u37 u38 u39 u40 u41 u42 u43 u44 u45 u46 u47 u48) :
 wpAnyH Tryz.prog .any opsG (NoPanic Q) (SXG g1 m cap a) 6 ls ⟨#[u0, (.pointer (some ⟨g1, 0, none⟩)), u2, u3, u4, u5, u6, (.slice (some a) m cap), (.int .i64 (m : Int)), (.int .i64 (n1 : Int)), u10, (.slice (some a) m cap), (.int .i64 (m : Int)), (.int .i64 (n1 : Int)), u14, u15, u16, u17, u18, u19, u20, u21, u22, u23, u24, u25, u26, u27, u28, u29, u30, u31, u32, u33, u34, u35, u36, u37, u38, u39, u40, u41, u42, u43, u44, u45, u46, u47, u48], []⟩ W := by
 subst hls
 refine wpAnyH_ready (rs := [3, 7, 8, 9]) (by kernel_rfl) (by simp) ?_
 refine (AllReadyH.cons opsG_3 (fun KK hKK => ?_) (AllReadyH.cons opsG_7 (fun KK hKK => ?_) (AllReadyH.cons opsG_8 (fun KK hKK => ?_) (AllReadyH.cons opsG_9 (fun KK hKK => ?_) AllReadyH.nil))))
 ·refine step_makeI _ rfl _ _ rfl n1 rfl rfl hn1 ?_
  have hb5 : Below W.heap.size W (W.alloc (.cells (madeCells #[.int .i64 0] n1) 3)) := (Below.refl _ _).alloc (Nat.le_refl _) _
  have hBn : Below w9.heap.size w9 _ := (hB.trans (hb5.mono hB.size))
  refine hKK.out _ _ (hS9.out _ hBn) (fun hHeld => ?_)
  clear hKK KK
  (try simp only [Act.put, ly])
  exact st_w hHeld _ (by kernel_rfl) (hB.trans (hb5.mono hB.size)) (made1 W (madeCells #[.int .i64 0] n1) 3) hB.size hS9 hn1 hOut
 ·refine step_makeI _ rfl _ _ rfl n1 rfl rfl hn1 ?_
  have hb5 : Below W.heap.size W (W.alloc (.cells (madeCells #[.int .i64 0] n1) 3)) := (Below.refl _ _).alloc (Nat.le_refl _) _
  have hBn : Below w9.heap.size w9 _ := (hB.trans (hb5.mono hB.size))
  refine hKK.out _ _ (hS9.out _ hBn) (fun hHeld => ?_)
  clear hKK KK
  (try simp only [Act.put, ly])
  exact st_p hHeld _ (by kernel_rfl) (hB.trans (hb5.mono hB.size)) (made1 W (madeCells #[.int .i64 0] n1) 3) hB.size hS9 hn1 hOut
 ·go_simp
  have hb5 : Below W.heap.size W (W.alloc (.cells #[.slice none 0 0] 27)) := (Below.refl _ _).alloc (Nat.le_refl _) _
  have hBn : Below w9.heap.size w9 _ := (hB.trans (hb5.mono hB.size))
  refine hKK.out _ _ (hS9.out _ hBn) (fun hHeld => ?_)
  clear hKK KK
  (try simp only [Act.put, ly])
  exact st_a hHeld _ (by kernel_rfl) (hB.trans (hb5.mono hB.size)) (made1 W #[.slice none 0 0] 27) hB.size hS9 hn1 hOut
 ·go_simp
  have hb5 : Below W.heap.size W (W.alloc (.cells #[.slice none 0 0] 27)) := (Below.refl _ _).alloc (Nat.le_refl _) _
  have hBn : Below w9.heap.size w9 _ := (hB.trans (hb5.mono hB.size))
  refine hKK.out _ _ (hS9.out _ hBn) (fun hHeld => ?_)
  clear hKK KK
  (try simp only [Act.put, ly])
  exact st_b hHeld _ (by kernel_rfl) (hB.trans (hb5.mono hB.size)) (made1 W #[.slice none 0 0] 27) hB.size hS9 hn1 hOut

set_option maxRecDepth 100000 in
set_option maxHeartbeats 8000000 in
theorem reg (k1 : IntKind.i64.wrap ((m : Int) + 1) = (n1 : Int)) (hS9 : Hid (∀ W, Below w9.heap.size w9 W → SXG g1 m cap a W)) (hn1 : n1 ≤ 1000000) (hOut : OutG w9 Q g1 n1 u0 u2 u5 u6 u17 u18 u19 u20 u21 u22 u23 u24 u25 u26 u27 u28 u29 u30 u31 u32 u33 u34 u35 u36 u37 u38 u39 u40 u41 u42 u43 u44 u45 u46 u47 u48) :
 (Code.region 1 opsG true).wp Tryz.prog Q ⟨#[u0, (.pointer (some ⟨g1, 0, none⟩)), u2, u3, u4, u5, u6, u7, u8, u9, u10, u11, u12, u13, u14, u15, u16, u17, u18, u19, u20, u21, u22, u23, u24, u25, u26, u27, u28, u29, u30, u31, u32, u33, u34, u35, u36, u37, u38, u39, u40, u41, u42, u43, u44, u45, u46, u47, u48], []⟩ w9 := by
 refine wp_region_noPanic ?_
 refine wp_region_held_drew (S := (SXG g1 m cap a)) (by kernel_rfl) ?_ (fun hHeld => ?_)
 ·exact hS9.out _ (Below.refl _ _).drew
 rw [opsG_size]
 refine wpAnyH_take (i := 0) (v := ?_) opsG_0 (by kernel_rfl) (by kernel_rfl) (by kernel_rfl) (fun _ _ _ h => h) (Or.inl ⟨by kernel_rfl, ?_⟩) hHeld ?_
 rotate_left 1
 ·(intro w hSw; unfold SXG at hSw; (try dsimp only at hSw); first | (go_simp; done) | (go_simp; with_reducible rfl))
 (try simp only [Act.put, ly])
 refine wpAnyH_take (i := 1) (v := ?_) opsG_1 (by kernel_rfl) (by kernel_rfl) (by kernel_rfl) (fun _ _ _ h => h) (Or.inl ⟨by kernel_rfl, ?_⟩) hHeld ?_
 rotate_left 1
 ·(intro w hSw; unfold SXG at hSw; (try dsimp only at hSw); first | (go_simp; done) | (go_simp; with_reducible rfl))
 (try simp only [Act.put, ly])
 refine wpAnyH_take (i := 2) (v := ?_) opsG_2 (by kernel_rfl) (by kernel_rfl) (by kernel_rfl) (fun _ _ _ h => h) (Or.inl ⟨by kernel_rfl, ?_⟩) hHeld ?_
 rotate_left 1
 ·(intro w hSw; unfold SXG at hSw; (try dsimp only at hSw); first | (go_simp; done) | (go_simp; with_reducible rfl))
 (try simp only [Act.put, ly])
 refine wpAnyH_take (i := 4) (v := ?_) opsG_4 (by kernel_rfl) (by kernel_rfl) (by kernel_rfl) (fun _ _ _ h => h) (Or.inl ⟨by kernel_rfl, ?_⟩) hHeld ?_
 rotate_left 1
 ·(intro w hSw; unfold SXG at hSw; (try dsimp only at hSw); first | (go_simp; done) | (go_simp; with_reducible rfl))
 (try simp only [Act.put, ly])
 refine wpAnyH_take (i := 5) (v := ?_) opsG_5 (by kernel_rfl) (by kernel_rfl) (by kernel_rfl) (fun _ _ _ h => h) (Or.inl ⟨by kernel_rfl, ?_⟩) hHeld ?_
 rotate_left 1
 ·(intro w hSw; unfold SXG at hSw; (try dsimp only at hSw); first | (go_simp; done) | (go_simp; with_reducible rfl))
 (try simp only [Act.put, ly])
 refine wpAnyH_take (i := 6) (v := ?_) opsG_6 (by kernel_rfl) (by kernel_rfl) (by kernel_rfl) (fun _ _ _ h => h) (Or.inl ⟨by kernel_rfl, ?_⟩) hHeld ?_
 rotate_left 1
 ·(intro w hSw; unfold SXG at hSw; (try dsimp only at hSw); first | (go_simp; done) | (go_simp; with_reducible rfl))
 (try simp only [Act.put, ly])
 exact st_O hHeld _ (by kernel_rfl) ((Below.refl _ _).drew) hS9 hn1 hOut
end
end Reg16g
end Go.Proofs.YtbdcjhoedhhabaaGreat

