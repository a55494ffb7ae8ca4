/- Contracts of the functions that the statements reach, part 41. -/
import Derived.Test.YtbdcjhoedhhabaaGreatRows
import Derived.Test.YtbdcjhoedhhabaaGreatF40
set_option linter.unusedSimpArgs false
set_option linter.unusedVariables false

/- The drawn region of refinement.system that makes the boxes of the two widths. Printed by gen40len.py. -/
namespace Go.Proofs.YtbdcjhoedhhabaaGreat
open Go.RowKit
attribute [local go_sem ↓] Go.wp_at_zero Go.wp_at_succ
namespace Reg40l
/-- The operations of a region, by its number. -/
def findReg (n:Nat):Code→Option (Array Oper)
 | .seq a b => match findReg n a with
   | some c=>some c
   | none=>findReg n b
 | .loop c=>findReg n c
 | .block _ c=>findReg n c
 | .scope c=>findReg n c
 | .cond _ a b => match findReg n a with
   | some c=>some c
   | none=>findReg n b
 | .region k ops _=>if k=n then some ops else none
 | _=>none

noncomputable def opsL:Array Oper:=(Tryz.f165.body.bind (findReg 1)).getD #[]
theorem opsL_size:opsL.size=14:=by kernel_rfl
theorem opsL_0:opsL[0]? = some { dst:=some 13,op:=Op.fieldAddr 120 (Operand.tmp 2) 0,type:=0,pos:=(opsL[0]'(by rw [opsL_size]; decide)).pos,after:=(opsL[0]'(by rw [opsL_size]; decide)).after,guard:=none }:=by kernel_rfl
theorem opsL_1:opsL[1]? = some { dst:=some 14,op:=Op.load 82 (Operand.tmp 13),type:=82,pos:=(opsL[1]'(by rw [opsL_size]; decide)).pos,after:=(opsL[1]'(by rw [opsL_size]; decide)).after,guard:=none }:=by kernel_rfl
theorem opsL_2:opsL[2]? = some { dst:=some 15,op:=Op.indexAddr 82 (Operand.tmp 14) (Operand.const (Value.int IntKind.i64 0)),type:=0,pos:=(opsL[2]'(by rw [opsL_size]; decide)).pos,after:=(opsL[2]'(by rw [opsL_size]; decide)).after,guard:=none }:=by kernel_rfl
theorem opsL_3:opsL[3]? = some { dst:=some 16,op:=Op.load 27 (Operand.tmp 15),type:=27,pos:=(opsL[3]'(by rw [opsL_size]; decide)).pos,after:=(opsL[3]'(by rw [opsL_size]; decide)).after,guard:=none }:=by kernel_rfl
theorem opsL_4:opsL[4]? = some { dst:=some 17,op:=Op.call { callee:=Callee.builtin Builtin.len,args:=#[Operand.tmp 16],argTypes:=#[27] },type:=3,pos:=(opsL[4]'(by rw [opsL_size]; decide)).pos,after:=(opsL[4]'(by rw [opsL_size]; decide)).after,guard:=none }:=by kernel_rfl
theorem opsL_5:opsL[5]? = some { dst:=some 18,op:=Op.fieldAddr 120 (Operand.tmp 3) 0,type:=0,pos:=(opsL[5]'(by rw [opsL_size]; decide)).pos,after:=(opsL[5]'(by rw [opsL_size]; decide)).after,guard:=none }:=by kernel_rfl
theorem opsL_6:opsL[6]? = some { dst:=some 19,op:=Op.load 82 (Operand.tmp 18),type:=82,pos:=(opsL[6]'(by rw [opsL_size]; decide)).pos,after:=(opsL[6]'(by rw [opsL_size]; decide)).after,guard:=none }:=by kernel_rfl
theorem opsL_7:opsL[7]? = some { dst:=some 20,op:=Op.indexAddr 82 (Operand.tmp 19) (Operand.const (Value.int IntKind.i64 0)),type:=0,pos:=(opsL[7]'(by rw [opsL_size]; decide)).pos,after:=(opsL[7]'(by rw [opsL_size]; decide)).after,guard:=none }:=by kernel_rfl
theorem opsL_8:opsL[8]? = some { dst:=some 21,op:=Op.load 27 (Operand.tmp 20),type:=27,pos:=(opsL[8]'(by rw [opsL_size]; decide)).pos,after:=(opsL[8]'(by rw [opsL_size]; decide)).after,guard:=none }:=by kernel_rfl
theorem opsL_9:opsL[9]? = some { dst:=some 22,op:=Op.call { callee:=Callee.builtin Builtin.len,args:=#[Operand.tmp 21],argTypes:=#[27] },type:=3,pos:=(opsL[9]'(by rw [opsL_size]; decide)).pos,after:=(opsL[9]'(by rw [opsL_size]; decide)).after,guard:=none }:=by kernel_rfl
theorem opsL_10:opsL[10]? = some { dst:=some 5,op:=Op.alloc 3,type:=0,pos:=(opsL[10]'(by rw [opsL_size]; decide)).pos,after:=(opsL[10]'(by rw [opsL_size]; decide)).after,guard:=none }:=by kernel_rfl
theorem opsL_11:opsL[11]? = some { dst:=some 6,op:=Op.alloc 3,type:=0,pos:=(opsL[11]'(by rw [opsL_size]; decide)).pos,after:=(opsL[11]'(by rw [opsL_size]; decide)).after,guard:=none }:=by kernel_rfl
theorem opsL_12:opsL[12]? = some { dst:=none,op:=Op.store 3 (Operand.tmp 5) (Operand.tmp 17),type:=0,pos:=(opsL[12]'(by rw [opsL_size]; decide)).pos,after:=(opsL[12]'(by rw [opsL_size]; decide)).after,guard:=none }:=by kernel_rfl
theorem opsL_13:opsL[13]? = some { dst:=none,op:=Op.store 3 (Operand.tmp 6) (Operand.tmp 22),type:=0,pos:=(opsL[13]'(by rw [opsL_size]; decide)).pos,after:=(opsL[13]'(by rw [opsL_size]; decide)).after,guard:=none }:=by kernel_rfl

theorem fill1 {w:World} {g:Nat} {t:TypeId} {a u:Value} (L:Loc w g t #[a]):Loc (w.setCell ⟨g,0,none⟩ u) g t #[u]:=by
 have:=L.set 0 u
 simpa using this

def SXL (g1 g2 x1 c1 x2 c2 y1 m1' y2 m2':Nat) (a1 a2:Addr) (D1 D2:Option Addr):World→Prop:=fun W=>(W.cell? ⟨g1,0,none⟩=some (.slice (some a1) x1 c1)∧W.cell? ⟨g2,0,none⟩=some (.slice (some a2) x2 c2))∧W.cell? a1=some (.slice D1 y1 m1')∧W.cell? a2=some (.slice D2 y2 m2')
/-- What the region leaves. -/
def OutL (w9:World) (Q:Exit→Act→World→Prop) (g1 g2 y1 y2:Nat) (u0 u1 u4 u7 u8 u9 u10 u11 u12 u23 u24 u25 u26 u27 u28 u29 u30 u31 u32 u33 u34 u35 u36 u37 u38 u39 u40 u41 u42 u43 u44 u45 u46 u47 u48 u49 u50 u51 u52 u53 u54 u55 u56 u57 u58 u59 u60:Value):Prop:=
 ∀ (W:World) (ga gb:Nat) (v13 v14 v15 v16 v17 v18 v19 v20 v21 v22:Value),ga ≠ gb→w9.heap.size≤ga→w9.heap.size≤gb→Loc W ga 3 #[.int .i64 (y1:Int)]→Loc W gb 3 #[.int .i64 (y2:Int)]→Below w9.heap.size w9 W→Q .normal ⟨#[u0,u1,(.pointer (some ⟨g1,0,none⟩)),(.pointer (some ⟨g2,0,none⟩)),u4,(.pointer (some ⟨ga,0,none⟩)),(.pointer (some ⟨gb,0,none⟩)),u7,u8,u9,u10,u11,u12,v13,v14,v15,v16,v17,v18,v19,v20,v21,v22,u23,u24,u25,u26,u27,u28,u29,u30,u31,u32,u33,u34,u35,u36,u37,u38,u39,u40,u41,u42,u43,u44,u45,u46,u47,u48,u49,u50,u51,u52,u53,u54,u55,u56,u57,u58,u59,u60],[]⟩ W

section
variable {Q:Exit→Act→World→Prop} {w9 W:World} {g1 g2 m1' m2' x1 x2 y1 y2 ga gb:Nat} {a1 a2:Addr} {D1 D2:Option Addr} {c1 c2:Nat} {u0 u1 u4 u5 u6 u7 u8 u9 u10 u11 u12 u13 u14 u15 u16 u17 u18 u19 u20 u21 u22 u23 u24 u25 u26 u27 u28 u29 u30 u31 u32 u33 u34 u35 u36 u37 u38 u39 u40 u41 u42 u43 u44 u45 u46 u47 u48 u49 u50 u51 u52 u53 u54 u55 u56 u57 u58 u59 u60:Value}
structure US_Reg40l where
 (u0 u1 u4 u7 u8 u9 u10 u11 u12 u23 u24 u25 u26 u27 u28 u29 u30 u31 u32 u33 u34 u35 u36 u37 u38 u39 u40 u41 u42 u43 u44 u45 u46 u47 u48 u49 u50 u51 u52 u53 u54 u55 u56 u57 u58 u59 u60:Value)
def FR_Reg40l (s:US_Reg40l) (g1:Nat) (g2:Nat) (a1:Addr) (x1:Nat) (c1:Nat) (D1:Option Addr) (y1:Nat) (m1':Nat) (a2:Addr) (x2:Nat) (c2:Nat) (D2:Option Addr) (y2:Nat) (m2':Nat) (x5 x6:Value):Act:=⟨#[s.u0,s.u1,(.pointer (some ⟨g1,0,none⟩)),(.pointer (some ⟨g2,0,none⟩)),s.u4,x5,x6,s.u7,s.u8,s.u9,s.u10,s.u11,s.u12,(.pointer (some ⟨g1,0,none⟩)),(.slice (some a1) x1 c1),(.pointer (some a1)),(.slice D1 y1 m1'),(.int .i64 (y1:Int)),(.pointer (some ⟨g2,0,none⟩)),(.slice (some a2) x2 c2),(.pointer (some a2)),(.slice D2 y2 m2'),(.int .i64 (y2:Int)),s.u23,s.u24,s.u25,s.u26,s.u27,s.u28,s.u29,s.u30,s.u31,s.u32,s.u33,s.u34,s.u35,s.u36,s.u37,s.u38,s.u39,s.u40,s.u41,s.u42,s.u43,s.u44,s.u45,s.u46,s.u47,s.u48,s.u49,s.u50,s.u51,s.u52,s.u53,s.u54,s.u55,s.u56,s.u57,s.u58,s.u59,s.u60],[]⟩
structure CX_Reg40l (s:US_Reg40l) (w9:World) (g1:Nat) (g2:Nat) (x1:Nat) (c1:Nat) (x2:Nat) (c2:Nat) (y1:Nat) (m1':Nat) (y2:Nat) (m2':Nat) (a1:Addr) (a2:Addr) (D1:Option Addr) (D2:Option Addr) (Q:Exit→Act→World→Prop):Prop where
 hS9:Hid (∀ W,Below w9.heap.size w9 W→SXL g1 g2 x1 c1 x2 c2 y1 m1' y2 m2' a1 a2 D1 D2 W)
 hOut:OutL w9 Q g1 g2 y1 y2 s.u0 s.u1 s.u4 s.u7 s.u8 s.u9 s.u10 s.u11 s.u12 s.u23 s.u24 s.u25 s.u26 s.u27 s.u28 s.u29 s.u30 s.u31 s.u32 s.u33 s.u34 s.u35 s.u36 s.u37 s.u38 s.u39 s.u40 s.u41 s.u42 s.u43 s.u44 s.u45 s.u46 s.u47 s.u48 s.u49 s.u50 s.u51 s.u52 s.u53 s.u54 s.u55 s.u56 s.u57 s.u58 s.u59 s.u60
variable {s:US_Reg40l}
set_option maxRecDepth 100000 in
set_option maxHeartbeats 8000000 in
theorem st_a_b_s_t (hHeld:SXL g1 g2 x1 c1 x2 c2 y1 m1' y2 m2' a1 a2 D1 D2 W) (ls:Array Bool) (hls:ls=#[true,true,true,true,true,true,true,true,true,true,true,true,true,true]) (hB:Below w9.heap.size w9 W) (La:Loc W ga 3 #[.int .i64 (y1:Int)]) (hla:w9.heap.size≤ga) (Lb:Loc W gb 3 #[.int .i64 (y2:Int)]) (hlb:w9.heap.size≤gb) (hab:ga ≠ gb) (C:CX_Reg40l s w9 g1 g2 x1 c1 x2 c2 y1 m1' y2 m2' a1 a2 D1 D2 Q) :
 wpAnyH Tryz.prog .any opsL (NoPanic Q) (SXL g1 g2 x1 c1 x2 c2 y1 m1' y2 m2' a1 a2 D1 D2) 0 ls (FR_Reg40l s g1 g2 a1 x1 c1 D1 y1 m1' a2 x2 c2 D2 y2 m2' (.pointer (some ⟨ga,0,none⟩)) (.pointer (some ⟨gb,0,none⟩))) W:=by
 subst hls
 unfold FR_Reg40l
 obtain ⟨hS9,hOut⟩:=id C
 refine wpAnyH_done (by kernel_rfl) ?_ _
 refine NoPanic.normal ?_
 exact hOut W _ _ _ _ _ _ _ _ _ _ _ _ hab hla hlb La Lb hB

set_option maxRecDepth 100000 in
set_option maxHeartbeats 8000000 in
theorem st_a_b_s (hHeld:SXL g1 g2 x1 c1 x2 c2 y1 m1' y2 m2' a1 a2 D1 D2 W) (ls:Array Bool) (hls:ls=#[true,true,true,true,true,true,true,true,true,true,true,true,true,false]) (hB:Below w9.heap.size w9 W) (La:Loc W ga 3 #[.int .i64 (y1:Int)]) (hla:w9.heap.size≤ga) (Lb:Loc W gb 3 #[.int .i64 0]) (hlb:w9.heap.size≤gb) (hab:ga ≠ gb) (C:CX_Reg40l s w9 g1 g2 x1 c1 x2 c2 y1 m1' y2 m2' a1 a2 D1 D2 Q) :
 wpAnyH Tryz.prog .any opsL (NoPanic Q) (SXL g1 g2 x1 c1 x2 c2 y1 m1' y2 m2' a1 a2 D1 D2) 1 ls (FR_Reg40l s g1 g2 a1 x1 c1 D1 y1 m1' a2 x2 c2 D2 y2 m2' (.pointer (some ⟨ga,0,none⟩)) (.pointer (some ⟨gb,0,none⟩))) W:=by
 subst hls
 unfold FR_Reg40l
 obtain ⟨hS9,hOut⟩:=id C
 refine wpAnyH_ready (rs:=[13]) (by kernel_rfl) (by simp) ?_
 refine (AllReadyH.cons opsL_13 (fun KK hKK=>?_) AllReadyH.nil)
 ·obtain ⟨e7,g7,l7⟩:=Lb.all (w':=W)
  go_simp
  have hBn:Below w9.heap.size w9 _:=(bel:Below w9.heap.size w9 (W.setCell ⟨gb,0,none⟩ (.int .i64 (y2:Int))))
  refine hKK.out _ _ (hS9.out _ hBn) (fun hHeld=>?_)
  clear hKK KK
  (try simp only [Act.put,ly])
  exact st_a_b_s_t hHeld _ (by kernel_rfl) (bel:Below w9.heap.size w9 (W.setCell ⟨gb,0,none⟩ (.int .i64 (y2:Int)))) (La.keep (X:=fun b=>b=gb) kp (by first | exact hab | exact hab.symm)) hla (fill1 Lb) hlb hab C

set_option maxRecDepth 100000 in
set_option maxHeartbeats 8000000 in
theorem st_a_b (hHeld:SXL g1 g2 x1 c1 x2 c2 y1 m1' y2 m2' a1 a2 D1 D2 W) (ls:Array Bool) (hls:ls=#[true,true,true,true,true,true,true,true,true,true,true,true,false,false]) (hB:Below w9.heap.size w9 W) (La:Loc W ga 3 #[.int .i64 0]) (hla:w9.heap.size≤ga) (Lb:Loc W gb 3 #[.int .i64 0]) (hlb:w9.heap.size≤gb) (hab:ga ≠ gb) (C:CX_Reg40l s w9 g1 g2 x1 c1 x2 c2 y1 m1' y2 m2' a1 a2 D1 D2 Q) :
 wpAnyH Tryz.prog .any opsL (NoPanic Q) (SXL g1 g2 x1 c1 x2 c2 y1 m1' y2 m2' a1 a2 D1 D2) 2 ls (FR_Reg40l s g1 g2 a1 x1 c1 D1 y1 m1' a2 x2 c2 D2 y2 m2' (.pointer (some ⟨ga,0,none⟩)) (.pointer (some ⟨gb,0,none⟩))) W:=by
 subst hls
 unfold FR_Reg40l
 obtain ⟨hS9,hOut⟩:=id C
 refine wpAnyH_ready (rs:=[12]) (by kernel_rfl) (by simp) ?_
 refine (AllReadyH.cons opsL_12 (fun KK hKK=>?_) AllReadyH.nil)
 ·obtain ⟨e7,g7,l7⟩:=La.all (w':=W)
  go_simp
  have hBn:Below w9.heap.size w9 _:=(bel:Below w9.heap.size w9 (W.setCell ⟨ga,0,none⟩ (.int .i64 (y1:Int))))
  refine hKK.out _ _ (hS9.out _ hBn) (fun hHeld=>?_)
  clear hKK KK
  (try simp only [Act.put,ly])
  exact st_a_b_s hHeld _ (by kernel_rfl) (bel:Below w9.heap.size w9 (W.setCell ⟨ga,0,none⟩ (.int .i64 (y1:Int)))) (fill1 La) hla (Lb.keep (X:=fun b=>b=ga) kp (by first | exact hab | exact hab.symm)) hlb hab C

set_option maxRecDepth 100000 in
set_option maxHeartbeats 8000000 in
theorem st_a (hHeld:SXL g1 g2 x1 c1 x2 c2 y1 m1' y2 m2' a1 a2 D1 D2 W) (ls:Array Bool) (hls:ls=#[true,true,true,true,true,true,true,true,true,true,true,false,false,false]) (hB:Below w9.heap.size w9 W) (La:Loc W ga 3 #[.int .i64 0]) (hla:w9.heap.size≤ga) (C:CX_Reg40l s w9 g1 g2 x1 c1 x2 c2 y1 m1' y2 m2' a1 a2 D1 D2 Q) :
 wpAnyH Tryz.prog .any opsL (NoPanic Q) (SXL g1 g2 x1 c1 x2 c2 y1 m1' y2 m2' a1 a2 D1 D2) 3 ls (FR_Reg40l s g1 g2 a1 x1 c1 D1 y1 m1' a2 x2 c2 D2 y2 m2' (.pointer (some ⟨ga,0,none⟩)) u6) W:=by
 subst hls
 unfold FR_Reg40l
 obtain ⟨hS9,hOut⟩:=id C
 refine wpAnyH_ready (rs:=[11]) (by kernel_rfl) (by simp) ?_
 refine (AllReadyH.cons opsL_11 (fun KK hKK=>?_) AllReadyH.nil)
 ·go_simp
  have hb5:Below W.heap.size W (W.alloc (.cells #[.int .i64 0] 3)):=(Below.refl _ _).alloc (Nat.le_refl _) _
  have hBn:Below w9.heap.size w9 _:=(hB.trans (hb5.mono hB.size))
  refine hKK.out _ _ (hS9.out _ hBn) (fun hHeld=>?_)
  clear hKK KK
  (try simp only [Act.put,ly])
  exact st_a_b hHeld _ (by kernel_rfl) (hB.trans (hb5.mono hB.size)) (La.below hb5) hla (made1 W #[.int .i64 0] 3) hB.size (Nat.ne_of_lt La.lt) C

set_option maxRecDepth 100000 in
set_option maxHeartbeats 8000000 in
theorem st_b (hHeld:SXL g1 g2 x1 c1 x2 c2 y1 m1' y2 m2' a1 a2 D1 D2 W) (ls:Array Bool) (hls:ls=#[true,true,true,true,true,true,true,true,true,true,false,true,false,false]) (hB:Below w9.heap.size w9 W) (Lb:Loc W gb 3 #[.int .i64 0]) (hlb:w9.heap.size≤gb) (C:CX_Reg40l s w9 g1 g2 x1 c1 x2 c2 y1 m1' y2 m2' a1 a2 D1 D2 Q) :
 wpAnyH Tryz.prog .any opsL (NoPanic Q) (SXL g1 g2 x1 c1 x2 c2 y1 m1' y2 m2' a1 a2 D1 D2) 3 ls (FR_Reg40l s g1 g2 a1 x1 c1 D1 y1 m1' a2 x2 c2 D2 y2 m2' u5 (.pointer (some ⟨gb,0,none⟩))) W:=by
 subst hls
 unfold FR_Reg40l
 obtain ⟨hS9,hOut⟩:=id C
 refine wpAnyH_ready (rs:=[10]) (by kernel_rfl) (by simp) ?_
 refine (AllReadyH.cons opsL_10 (fun KK hKK=>?_) AllReadyH.nil)
 ·go_simp
  have hb5:Below W.heap.size W (W.alloc (.cells #[.int .i64 0] 3)):=(Below.refl _ _).alloc (Nat.le_refl _) _
  have hBn:Below w9.heap.size w9 _:=(hB.trans (hb5.mono hB.size))
  refine hKK.out _ _ (hS9.out _ hBn) (fun hHeld=>?_)
  clear hKK KK
  (try simp only [Act.put,ly])
  exact st_a_b hHeld _ (by kernel_rfl) (hB.trans (hb5.mono hB.size)) (made1 W #[.int .i64 0] 3) hB.size (Lb.below hb5) hlb (Ne.symm (Nat.ne_of_lt Lb.lt)) C

set_option maxRecDepth 100000 in
set_option maxHeartbeats 8000000 in
theorem st_O (hHeld:SXL g1 g2 x1 c1 x2 c2 y1 m1' y2 m2' a1 a2 D1 D2 W) (ls:Array Bool) (hls:ls=#[true,true,true,true,true,true,true,true,true,true,false,false,false,false]) (hB:Below w9.heap.size w9 W) (C:CX_Reg40l s w9 g1 g2 x1 c1 x2 c2 y1 m1' y2 m2' a1 a2 D1 D2 Q) :
 wpAnyH Tryz.prog .any opsL (NoPanic Q) (SXL g1 g2 x1 c1 x2 c2 y1 m1' y2 m2' a1 a2 D1 D2) 4 ls (FR_Reg40l s g1 g2 a1 x1 c1 D1 y1 m1' a2 x2 c2 D2 y2 m2' u5 u6) W:=by
 subst hls
 unfold FR_Reg40l
 obtain ⟨hS9,hOut⟩:=id C
 refine wpAnyH_ready (rs:=[10,11]) (by kernel_rfl) (by simp) ?_
 refine (AllReadyH.cons opsL_10 (fun KK hKK=>?_) (AllReadyH.cons opsL_11 (fun KK hKK=>?_) AllReadyH.nil))
 ·go_simp
  have hb5:Below W.heap.size W (W.alloc (.cells #[.int .i64 0] 3)):=(Below.refl _ _).alloc (Nat.le_refl _) _
  have hBn:Below w9.heap.size w9 _:=(hB.trans (hb5.mono hB.size))
  refine hKK.out _ _ (hS9.out _ hBn) (fun hHeld=>?_)
  clear hKK KK
  (try simp only [Act.put,ly])
  exact st_a hHeld _ (by kernel_rfl) (hB.trans (hb5.mono hB.size)) (made1 W #[.int .i64 0] 3) hB.size C
 ·go_simp
  have hb5:Below W.heap.size W (W.alloc (.cells #[.int .i64 0] 3)):=(Below.refl _ _).alloc (Nat.le_refl _) _
  have hBn:Below w9.heap.size w9 _:=(hB.trans (hb5.mono hB.size))
  refine hKK.out _ _ (hS9.out _ hBn) (fun hHeld=>?_)
  clear hKK KK
  (try simp only [Act.put,ly])
  exact st_b hHeld _ (by kernel_rfl) (hB.trans (hb5.mono hB.size)) (made1 W #[.int .i64 0] 3) hB.size C

set_option maxRecDepth 100000 in
set_option maxHeartbeats 8000000 in
theorem reg (i1:0<x1) (i2:0<x2) (hS9:Hid (∀ W,Below w9.heap.size w9 W→SXL g1 g2 x1 c1 x2 c2 y1 m1' y2 m2' a1 a2 D1 D2 W)) (hOut:OutL w9 Q g1 g2 y1 y2 u0 u1 u4 u7 u8 u9 u10 u11 u12 u23 u24 u25 u26 u27 u28 u29 u30 u31 u32 u33 u34 u35 u36 u37 u38 u39 u40 u41 u42 u43 u44 u45 u46 u47 u48 u49 u50 u51 u52 u53 u54 u55 u56 u57 u58 u59 u60) :
 (Code.region 1 opsL true).wp Tryz.prog Q ⟨#[u0,u1,(.pointer (some ⟨g1,0,none⟩)),(.pointer (some ⟨g2,0,none⟩)),u4,u5,u6,u7,u8,u9,u10,u11,u12,u13,u14,u15,u16,u17,u18,u19,u20,u21,u22,u23,u24,u25,u26,u27,u28,u29,u30,u31,u32,u33,u34,u35,u36,u37,u38,u39,u40,u41,u42,u43,u44,u45,u46,u47,u48,u49,u50,u51,u52,u53,u54,u55,u56,u57,u58,u59,u60],[]⟩ w9:=by
 refine wp_region_noPanic ?_
 refine wp_region_held_drew (S:=(SXL g1 g2 x1 c1 x2 c2 y1 m1' y2 m2' a1 a2 D1 D2)) (by kernel_rfl) ?_ (fun hHeld=>?_)
 ·exact hS9.out _ (Below.refl _ _).drew
 rw [opsL_size]
 refine wpAnyH_take (i:=0) (v:=?_) opsL_0 (by kernel_rfl) (by kernel_rfl) (by kernel_rfl) (fun _ _ _ h=>h) (Or.inl ⟨by kernel_rfl,?_⟩) hHeld ?_
 rotate_left 1
 ·(intro w hSw; unfold SXL at hSw; (try dsimp only at hSw); first | (go_simp; done) | (go_simp; with_reducible rfl))
 (try simp only [Act.put,ly])
 refine wpAnyH_take (i:=1) (v:=?_) opsL_1 (by kernel_rfl) (by kernel_rfl) (by kernel_rfl) (fun _ _ _ h=>h) (Or.inl ⟨by kernel_rfl,?_⟩) hHeld ?_
 rotate_left 1
 ·(intro w hSw; unfold SXL at hSw; (try dsimp only at hSw); first | (go_simp; done) | (go_simp; with_reducible rfl))
 (try simp only [Act.put,ly])
 refine wpAnyH_take (i:=2) (v:=?_) opsL_2 (by kernel_rfl) (by kernel_rfl) (by kernel_rfl) (fun _ _ _ h=>h) (Or.inl ⟨by kernel_rfl,?_⟩) hHeld ?_
 rotate_left 1
 ·(intro w hSw; unfold SXL at hSw; (try dsimp only at hSw); first | (go_simp; done) | (go_simp; with_reducible rfl))
 (try simp only [Act.put,ly])
 refine wpAnyH_take (i:=3) (v:=?_) opsL_3 (by kernel_rfl) (by kernel_rfl) (by kernel_rfl) (fun _ _ _ h=>h) (Or.inl ⟨by kernel_rfl,?_⟩) hHeld ?_
 rotate_left 1
 ·(intro w hSw; unfold SXL at hSw; (try dsimp only at hSw); first | (go_simp; done) | (go_simp; with_reducible rfl))
 (try simp only [Act.put,ly])
 refine wpAnyH_take (i:=4) (v:=?_) opsL_4 (by kernel_rfl) (by kernel_rfl) (by kernel_rfl) (fun _ _ _ h=>h) (Or.inl ⟨by kernel_rfl,?_⟩) hHeld ?_
 rotate_left 1
 ·(intro w hSw; unfold SXL at hSw; (try dsimp only at hSw); first | (go_simp; done) | (go_simp; with_reducible rfl))
 (try simp only [Act.put,ly])
 refine wpAnyH_take (i:=5) (v:=?_) opsL_5 (by kernel_rfl) (by kernel_rfl) (by kernel_rfl) (fun _ _ _ h=>h) (Or.inl ⟨by kernel_rfl,?_⟩) hHeld ?_
 rotate_left 1
 ·(intro w hSw; unfold SXL at hSw; (try dsimp only at hSw); first | (go_simp; done) | (go_simp; with_reducible rfl))
 (try simp only [Act.put,ly])
 refine wpAnyH_take (i:=6) (v:=?_) opsL_6 (by kernel_rfl) (by kernel_rfl) (by kernel_rfl) (fun _ _ _ h=>h) (Or.inl ⟨by kernel_rfl,?_⟩) hHeld ?_
 rotate_left 1
 ·(intro w hSw; unfold SXL at hSw; (try dsimp only at hSw); first | (go_simp; done) | (go_simp; with_reducible rfl))
 (try simp only [Act.put,ly])
 refine wpAnyH_take (i:=7) (v:=?_) opsL_7 (by kernel_rfl) (by kernel_rfl) (by kernel_rfl) (fun _ _ _ h=>h) (Or.inl ⟨by kernel_rfl,?_⟩) hHeld ?_
 rotate_left 1
 ·(intro w hSw; unfold SXL at hSw; (try dsimp only at hSw); first | (go_simp; done) | (go_simp; with_reducible rfl))
 (try simp only [Act.put,ly])
 refine wpAnyH_take (i:=8) (v:=?_) opsL_8 (by kernel_rfl) (by kernel_rfl) (by kernel_rfl) (fun _ _ _ h=>h) (Or.inl ⟨by kernel_rfl,?_⟩) hHeld ?_
 rotate_left 1
 ·(intro w hSw; unfold SXL at hSw; (try dsimp only at hSw); first | (go_simp; done) | (go_simp; with_reducible rfl))
 (try simp only [Act.put,ly])
 refine wpAnyH_take (i:=9) (v:=?_) opsL_9 (by kernel_rfl) (by kernel_rfl) (by kernel_rfl) (fun _ _ _ h=>h) (Or.inl ⟨by kernel_rfl,?_⟩) hHeld ?_
 rotate_left 1
 ·(intro w hSw; unfold SXL at hSw; (try dsimp only at hSw); first | (go_simp; done) | (go_simp; with_reducible rfl))
 (try simp only [Act.put,ly])
 exact st_O (s:=⟨u0,u1,u4,u7,u8,u9,u10,u11,u12,u23,u24,u25,u26,u27,u28,u29,u30,u31,u32,u33,u34,u35,u36,u37,u38,u39,u40,u41,u42,u43,u44,u45,u46,u47,u48,u49,u50,u51,u52,u53,u54,u55,u56,u57,u58,u59,u60⟩) hHeld _ (by kernel_rfl) ((Below.refl _ _).drew) ⟨hS9,hOut⟩
end
end Reg40l
end Go.Proofs.YtbdcjhoedhhabaaGreat

