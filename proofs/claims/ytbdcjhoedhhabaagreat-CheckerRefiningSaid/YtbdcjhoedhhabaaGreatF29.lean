/- Contracts of the functions that the statements reach, part 29. -/
import Derived.Test.YtbdcjhoedhhabaaGreatRows
import Derived.Test.YtbdcjhoedhhabaaGreatF26
import Derived.Test.YtbdcjhoedhhabaaGreatF28
set_option linter.unusedSimpArgs false
set_option linter.unusedVariables false

/- The drawn region of channel.Valid that makes the boxes of width and total. Printed by gen3v.py. -/
namespace Go.Proofs.YtbdcjhoedhhabaaGreat
open Go.RowKit
attribute [local go_sem ↓] Go.wp_at_zero Go.wp_at_succ
namespace Reg3v
/-- The operations of a region, by its number. -/
def findReg (n:Nat):Code→Option (Array Oper)
 | .seq a b => match findReg n a with
   | some c=>some c
   | none=>findReg n b
 | .loop c=>findReg n c
 | .block _ c=>findReg n c
 | .scope c=>findReg n c
 | .cond _ a b => match findReg n a with
   | some c=>some c
   | none=>findReg n b
 | .region k ops _=>if k=n then some ops else none
 | _=>none

noncomputable def ops3v:Array Oper:=(Tryz.f281.body.bind (findReg 3)).getD #[]
theorem ops3v_size:ops3v.size=14:=by kernel_rfl
theorem ops3v_0:ops3v[0]? = some { dst:=some 15,op:=Op.fieldAddr 120 (Operand.tmp 1) 0,type:=0,pos:=(ops3v[0]'(by rw [ops3v_size]; decide)).pos,after:=(ops3v[0]'(by rw [ops3v_size]; decide)).after,guard:=none }:=by kernel_rfl
theorem ops3v_1:ops3v[1]? = some { dst:=some 16,op:=Op.load 82 (Operand.tmp 15),type:=82,pos:=(ops3v[1]'(by rw [ops3v_size]; decide)).pos,after:=(ops3v[1]'(by rw [ops3v_size]; decide)).after,guard:=none }:=by kernel_rfl
theorem ops3v_2:ops3v[2]? = some { dst:=some 17,op:=Op.indexAddr 82 (Operand.tmp 16) (Operand.const (Value.int IntKind.i64 0)),type:=0,pos:=(ops3v[2]'(by rw [ops3v_size]; decide)).pos,after:=(ops3v[2]'(by rw [ops3v_size]; decide)).after,guard:=none }:=by kernel_rfl
theorem ops3v_3:ops3v[3]? = some { dst:=some 18,op:=Op.load 27 (Operand.tmp 17),type:=27,pos:=(ops3v[3]'(by rw [ops3v_size]; decide)).pos,after:=(ops3v[3]'(by rw [ops3v_size]; decide)).after,guard:=none }:=by kernel_rfl
theorem ops3v_4:ops3v[4]? = some { dst:=some 19,op:=Op.call { callee:=Callee.builtin Builtin.len,args:=#[Operand.tmp 18],argTypes:=#[27] },type:=3,pos:=(ops3v[4]'(by rw [ops3v_size]; decide)).pos,after:=(ops3v[4]'(by rw [ops3v_size]; decide)).after,guard:=none }:=by kernel_rfl
theorem ops3v_5:ops3v[5]? = some { dst:=some 20,op:=Op.fieldAddr 120 (Operand.tmp 1) 0,type:=0,pos:=(ops3v[5]'(by rw [ops3v_size]; decide)).pos,after:=(ops3v[5]'(by rw [ops3v_size]; decide)).after,guard:=none }:=by kernel_rfl
theorem ops3v_6:ops3v[6]? = some { dst:=some 21,op:=Op.load 82 (Operand.tmp 20),type:=82,pos:=(ops3v[6]'(by rw [ops3v_size]; decide)).pos,after:=(ops3v[6]'(by rw [ops3v_size]; decide)).after,guard:=none }:=by kernel_rfl
theorem ops3v_7:ops3v[7]? = some { dst:=some 22,op:=Op.indexAddr 82 (Operand.tmp 21) (Operand.const (Value.int IntKind.i64 0)),type:=0,pos:=(ops3v[7]'(by rw [ops3v_size]; decide)).pos,after:=(ops3v[7]'(by rw [ops3v_size]; decide)).after,guard:=none }:=by kernel_rfl
theorem ops3v_8:ops3v[8]? = some { dst:=some 23,op:=Op.load 27 (Operand.tmp 22),type:=27,pos:=(ops3v[8]'(by rw [ops3v_size]; decide)).pos,after:=(ops3v[8]'(by rw [ops3v_size]; decide)).after,guard:=none }:=by kernel_rfl
theorem ops3v_9:ops3v[9]? = some { dst:=some 24,op:=Op.call { callee:=Callee.value (Operand.func 376),args:=#[Operand.tmp 23],argTypes:=#[27] },type:=3,pos:=(ops3v[9]'(by rw [ops3v_size]; decide)).pos,after:=(ops3v[9]'(by rw [ops3v_size]; decide)).after,guard:=none }:=by kernel_rfl
theorem ops3v_10:ops3v[10]? = some { dst:=some 3,op:=Op.alloc 3,type:=0,pos:=(ops3v[10]'(by rw [ops3v_size]; decide)).pos,after:=(ops3v[10]'(by rw [ops3v_size]; decide)).after,guard:=none }:=by kernel_rfl
theorem ops3v_11:ops3v[11]? = some { dst:=some 4,op:=Op.alloc 3,type:=0,pos:=(ops3v[11]'(by rw [ops3v_size]; decide)).pos,after:=(ops3v[11]'(by rw [ops3v_size]; decide)).after,guard:=none }:=by kernel_rfl
theorem ops3v_12:ops3v[12]? = some { dst:=none,op:=Op.store 3 (Operand.tmp 3) (Operand.tmp 19),type:=0,pos:=(ops3v[12]'(by rw [ops3v_size]; decide)).pos,after:=(ops3v[12]'(by rw [ops3v_size]; decide)).after,guard:=none }:=by kernel_rfl
theorem ops3v_13:ops3v[13]? = some { dst:=none,op:=Op.store 3 (Operand.tmp 4) (Operand.tmp 24),type:=0,pos:=(ops3v[13]'(by rw [ops3v_size]; decide)).pos,after:=(ops3v[13]'(by rw [ops3v_size]; decide)).after,guard:=none }:=by kernel_rfl

def SX3 (g1 m cA n d:Nat) (a0:Addr) (D:Option Addr):World→Prop:=fun W=>W.cell? ⟨g1,0,none⟩=some (.slice (some a0) m cA)∧W.cell? a0=some (.slice D n d)
theorem fill1 {w:World} {g:Nat} {t:TypeId} {a u:Value} (L:Loc w g t #[a]):Loc (w.setCell ⟨g,0,none⟩ u) g t #[u]:=by
 have:=L.set 0 u
 simpa using this
/-- What the region leaves. -/
def Out3 (w9:World) (Q:Exit→Act→World→Prop) (g1 n:Nat) (R:Int) (u0 u2 u5 u6 u7 u8 u9 u10 u11 u12 u13 u14 u25 u26 u27 u28 u29 u30 u31 u32 u33 u34 u35 u36 u37 u38 u39:Value):Prop:=
 ∀ (W:World) (ga gb:Nat) (v15 v16 v17 v18 v19 v20 v21 v22 v23 v24:Value),ga ≠ gb→w9.heap.size≤ga→w9.heap.size≤gb→Loc W ga 3 #[.int .i64 (n:Int)]→Loc W gb 3 #[.int .i64 R]→Below w9.heap.size w9 W→Q .normal ⟨#[u0,(.pointer (some ⟨g1,0,none⟩)),u2,(.pointer (some ⟨ga,0,none⟩)),(.pointer (some ⟨gb,0,none⟩)),u5,u6,u7,u8,u9,u10,u11,u12,u13,u14,v15,v16,v17,v18,v19,v20,v21,v22,v23,v24,u25,u26,u27,u28,u29,u30,u31,u32,u33,u34,u35,u36,u37,u38,u39],[]⟩ W

section
variable {Q:Exit→Act→World→Prop} {w9 W:World} {g1 m cA n d ga gb:Nat} {a0:Addr} {D:Option Addr} {zs:List Int} {R:Int} {u0 u2 u3 u4 u5 u6 u7 u8 u9 u10 u11 u12 u13 u14 u15 u16 u17 u18 u19 u20 u21 u22 u23 u24 u25 u26 u27 u28 u29 u30 u31 u32 u33 u34 u35 u36 u37 u38 u39:Value}
structure US_Reg3v where
 (u0 u2 u5 u6 u7 u8 u9 u10 u11 u12 u13 u14 u25 u26 u27 u28 u29 u30 u31 u32 u33 u34 u35 u36 u37 u38 u39:Value)
def FR_Reg3v (s:US_Reg3v) (g1:Nat) (a0:Addr) (m:Nat) (cA:Nat) (D:Option Addr) (n:Nat) (d:Nat) (x3 x4 x24:Value):Act:=⟨#[s.u0,(.pointer (some ⟨g1,0,none⟩)),s.u2,x3,x4,s.u5,s.u6,s.u7,s.u8,s.u9,s.u10,s.u11,s.u12,s.u13,s.u14,(.pointer (some ⟨g1,0,none⟩)),(.slice (some a0) m cA),(.pointer (some a0)),(.slice D n d),(.int .i64 (n:Int)),(.pointer (some ⟨g1,0,none⟩)),(.slice (some a0) m cA),(.pointer (some a0)),(.slice D n d),x24,s.u25,s.u26,s.u27,s.u28,s.u29,s.u30,s.u31,s.u32,s.u33,s.u34,s.u35,s.u36,s.u37,s.u38,s.u39],[]⟩
structure CX_Reg3v (s:US_Reg3v) (w9:World) (g1:Nat) (m:Nat) (cA:Nat) (n:Nat) (d:Nat) (a0:Addr) (D:Option Addr) (zs:List Int) (R:Int) (Q:Exit→Act→World→Prop):Prop where
 hS9:Hid (∀ W,Below w9.heap.size w9 W→SX3 g1 m cA n d a0 D W)
 hI:Hid (∀ W,Below w9.heap.size w9 W→IntsV W (.slice D n d) zs)
 hR:Hid (rsumA 0 zs=R)
 hOut:Out3 w9 Q g1 n R s.u0 s.u2 s.u5 s.u6 s.u7 s.u8 s.u9 s.u10 s.u11 s.u12 s.u13 s.u14 s.u25 s.u26 s.u27 s.u28 s.u29 s.u30 s.u31 s.u32 s.u33 s.u34 s.u35 s.u36 s.u37 s.u38 s.u39
variable {s:US_Reg3v}
set_option maxRecDepth 100000 in
set_option maxHeartbeats 4000000 in
theorem st3_cabst (hHeld:SX3 g1 m cA n d a0 D W) (ls:Array Bool) (hls:ls=#[true,true,true,true,true,true,true,true,true,true,true,true,true,true]) (hB:Below w9.heap.size w9 W) (La:Loc W ga 3 #[.int .i64 (n:Int)]) (hla:w9.heap.size≤ga) (Lb:Loc W gb 3 #[.int .i64 R]) (hlb:w9.heap.size≤gb) (hab:ga ≠ gb) (C:CX_Reg3v s w9 g1 m cA n d a0 D zs R Q) :
 wpAnyH Tryz.prog .any ops3v (NoPanic Q) (SX3 g1 m cA n d a0 D) 0 ls (FR_Reg3v s g1 a0 m cA D n d (.pointer (some ⟨ga,0,none⟩)) (.pointer (some ⟨gb,0,none⟩)) (.int .i64 R)) W:=by
 subst hls
 unfold FR_Reg3v
 obtain ⟨hS9,hI,hR,hOut⟩:=id C
 refine wpAnyH_done (by kernel_rfl) ?_ _
 refine NoPanic.normal ?_
 exact hOut _ _ _ _ _ _ _ _ _ _ _ _ _ hab hla hlb La Lb hB

set_option maxRecDepth 100000 in
set_option maxHeartbeats 4000000 in
theorem st3_cabs (hHeld:SX3 g1 m cA n d a0 D W) (ls:Array Bool) (hls:ls=#[true,true,true,true,true,true,true,true,true,true,true,true,true,false]) (hB:Below w9.heap.size w9 W) (La:Loc W ga 3 #[.int .i64 (n:Int)]) (hla:w9.heap.size≤ga) (Lb:Loc W gb 3 #[.int .i64 0]) (hlb:w9.heap.size≤gb) (hab:ga ≠ gb) (C:CX_Reg3v s w9 g1 m cA n d a0 D zs R Q) :
 wpAnyH Tryz.prog .any ops3v (NoPanic Q) (SX3 g1 m cA n d a0 D) 1 ls (FR_Reg3v s g1 a0 m cA D n d (.pointer (some ⟨ga,0,none⟩)) (.pointer (some ⟨gb,0,none⟩)) (.int .i64 R)) W:=by
 subst hls
 unfold FR_Reg3v
 obtain ⟨hS9,hI,hR,hOut⟩:=id C
 refine wpAnyH_ready (rs:=[13]) (by kernel_rfl) (by simp) ?_
 refine (AllReadyH.cons ops3v_13 (fun KK hKK=>?_) AllReadyH.nil)
 ·obtain ⟨e7,g7,l7⟩:=Lb.all (w':=W)
  go_simp
  have hBn:=(bel:Below w9.heap.size w9 (W.setCell ⟨gb,0,none⟩ (.int .i64 R)))
  refine hKK.out _ _ (hS9.out _ hBn) (fun hHeld=>?_)
  clear hKK KK
  (try simp only [Act.put,ly])
  exact st3_cabst hHeld _ (by kernel_rfl) (bel:Below w9.heap.size w9 (W.setCell ⟨gb,0,none⟩ (.int .i64 R))) (La.keep (X:=fun b=>b=gb) kp (fun h=>hab h)) hla (fill1 Lb) hlb hab C

set_option maxRecDepth 100000 in
set_option maxHeartbeats 4000000 in
theorem st3_cab (hHeld:SX3 g1 m cA n d a0 D W) (ls:Array Bool) (hls:ls=#[true,true,true,true,true,true,true,true,true,true,true,true,false,false]) (hB:Below w9.heap.size w9 W) (La:Loc W ga 3 #[.int .i64 0]) (hla:w9.heap.size≤ga) (Lb:Loc W gb 3 #[.int .i64 0]) (hlb:w9.heap.size≤gb) (hab:ga ≠ gb) (C:CX_Reg3v s w9 g1 m cA n d a0 D zs R Q) :
 wpAnyH Tryz.prog .any ops3v (NoPanic Q) (SX3 g1 m cA n d a0 D) 2 ls (FR_Reg3v s g1 a0 m cA D n d (.pointer (some ⟨ga,0,none⟩)) (.pointer (some ⟨gb,0,none⟩)) (.int .i64 R)) W:=by
 subst hls
 unfold FR_Reg3v
 obtain ⟨hS9,hI,hR,hOut⟩:=id C
 refine wpAnyH_ready (rs:=[12]) (by kernel_rfl) (by simp) ?_
 refine (AllReadyH.cons ops3v_12 (fun KK hKK=>?_) AllReadyH.nil)
 ·obtain ⟨e7,g7,l7⟩:=La.all (w':=W)
  go_simp
  have hBn:=(bel:Below w9.heap.size w9 (W.setCell ⟨ga,0,none⟩ (.int .i64 (n:Int))))
  refine hKK.out _ _ (hS9.out _ hBn) (fun hHeld=>?_)
  clear hKK KK
  (try simp only [Act.put,ly])
  exact st3_cabs hHeld _ (by kernel_rfl) (bel:Below w9.heap.size w9 (W.setCell ⟨ga,0,none⟩ (.int .i64 (n:Int)))) (fill1 La) hla (Lb.keep (X:=fun b=>b=ga) kp (fun h=>hab h.symm)) hlb hab C

set_option maxRecDepth 100000 in
set_option maxHeartbeats 4000000 in
theorem st3_ca (hHeld:SX3 g1 m cA n d a0 D W) (ls:Array Bool) (hls:ls=#[true,true,true,true,true,true,true,true,true,true,true,false,false,false]) (hB:Below w9.heap.size w9 W) (La:Loc W ga 3 #[.int .i64 0]) (hla:w9.heap.size≤ga) (C:CX_Reg3v s w9 g1 m cA n d a0 D zs R Q) :
 wpAnyH Tryz.prog .any ops3v (NoPanic Q) (SX3 g1 m cA n d a0 D) 3 ls (FR_Reg3v s g1 a0 m cA D n d (.pointer (some ⟨ga,0,none⟩)) u4 (.int .i64 R)) W:=by
 subst hls
 unfold FR_Reg3v
 obtain ⟨hS9,hI,hR,hOut⟩:=id C
 refine wpAnyH_ready (rs:=[11]) (by kernel_rfl) (by simp) ?_
 refine (AllReadyH.cons ops3v_11 (fun KK hKK=>?_) AllReadyH.nil)
 ·go_simp
  have hb5:Below W.heap.size W (W.alloc (.cells #[.int .i64 0] 3)):=(Below.refl _ _).alloc (Nat.le_refl _) _
  have hBn:=(hB.trans (hb5.mono hB.size))
  refine hKK.out _ _ (hS9.out _ hBn) (fun hHeld=>?_)
  clear hKK KK
  (try simp only [Act.put,ly])
  exact st3_cab hHeld _ (by kernel_rfl) (hB.trans (hb5.mono hB.size)) (La.below hb5) hla (made1 W #[.int .i64 0] 3) hB.size (Nat.ne_of_lt La.lt) C

set_option maxRecDepth 100000 in
set_option maxHeartbeats 4000000 in
theorem st3_cb (hHeld:SX3 g1 m cA n d a0 D W) (ls:Array Bool) (hls:ls=#[true,true,true,true,true,true,true,true,true,true,false,true,false,false]) (hB:Below w9.heap.size w9 W) (Lb:Loc W gb 3 #[.int .i64 0]) (hlb:w9.heap.size≤gb) (C:CX_Reg3v s w9 g1 m cA n d a0 D zs R Q) :
 wpAnyH Tryz.prog .any ops3v (NoPanic Q) (SX3 g1 m cA n d a0 D) 3 ls (FR_Reg3v s g1 a0 m cA D n d u3 (.pointer (some ⟨gb,0,none⟩)) (.int .i64 R)) W:=by
 subst hls
 unfold FR_Reg3v
 obtain ⟨hS9,hI,hR,hOut⟩:=id C
 refine wpAnyH_ready (rs:=[10]) (by kernel_rfl) (by simp) ?_
 refine (AllReadyH.cons ops3v_10 (fun KK hKK=>?_) AllReadyH.nil)
 ·go_simp
  have hb5:Below W.heap.size W (W.alloc (.cells #[.int .i64 0] 3)):=(Below.refl _ _).alloc (Nat.le_refl _) _
  have hBn:=(hB.trans (hb5.mono hB.size))
  refine hKK.out _ _ (hS9.out _ hBn) (fun hHeld=>?_)
  clear hKK KK
  (try simp only [Act.put,ly])
  exact st3_cab hHeld _ (by kernel_rfl) (hB.trans (hb5.mono hB.size)) (made1 W #[.int .i64 0] 3) hB.size (Lb.below hb5) hlb (Ne.symm (Nat.ne_of_lt Lb.lt)) C

set_option maxRecDepth 100000 in
set_option maxHeartbeats 4000000 in
theorem st3_ab (hHeld:SX3 g1 m cA n d a0 D W) (ls:Array Bool) (hls:ls=#[true,true,true,true,true,true,true,true,true,false,true,true,false,false]) (hB:Below w9.heap.size w9 W) (La:Loc W ga 3 #[.int .i64 0]) (hla:w9.heap.size≤ga) (Lb:Loc W gb 3 #[.int .i64 0]) (hlb:w9.heap.size≤gb) (hab:ga ≠ gb) (C:CX_Reg3v s w9 g1 m cA n d a0 D zs R Q) :
 wpAnyH Tryz.prog .any ops3v (NoPanic Q) (SX3 g1 m cA n d a0 D) 3 ls (FR_Reg3v s g1 a0 m cA D n d (.pointer (some ⟨ga,0,none⟩)) (.pointer (some ⟨gb,0,none⟩)) u24) W:=by
 subst hls
 unfold FR_Reg3v
 obtain ⟨hS9,hI,hR,hOut⟩:=id C
 refine wpAnyH_ready (rs:=[9]) (by kernel_rfl) (by simp) ?_
 refine (AllReadyH.cons ops3v_9 (fun KK hKK=>?_) AllReadyH.nil)
 ·go_simp
  refine (csum_any _ _ zs (hI.out _ hB)).mono ?_
  rintro e W1 ⟨he,hb5⟩
  rw [hR.out] at he
  subst he
  (try go_wp2_with fail)
  have hBn:=(hB.trans (hb5.mono hB.size))
  refine hKK.out _ _ (hS9.out _ hBn) (fun hHeld=>?_)
  clear hKK KK
  (try simp only [Act.put,ly])
  exact st3_cab hHeld _ (by kernel_rfl) (hB.trans (hb5.mono hB.size)) (La.below hb5) hla (Lb.below hb5) hlb hab C

set_option maxRecDepth 100000 in
set_option maxHeartbeats 4000000 in
theorem st3_c (hHeld:SX3 g1 m cA n d a0 D W) (ls:Array Bool) (hls:ls=#[true,true,true,true,true,true,true,true,true,true,false,false,false,false]) (hB:Below w9.heap.size w9 W) (C:CX_Reg3v s w9 g1 m cA n d a0 D zs R Q) :
 wpAnyH Tryz.prog .any ops3v (NoPanic Q) (SX3 g1 m cA n d a0 D) 4 ls (FR_Reg3v s g1 a0 m cA D n d u3 u4 (.int .i64 R)) W:=by
 subst hls
 unfold FR_Reg3v
 obtain ⟨hS9,hI,hR,hOut⟩:=id C
 refine wpAnyH_ready (rs:=[10,11]) (by kernel_rfl) (by simp) ?_
 refine (AllReadyH.cons ops3v_10 (fun KK hKK=>?_) (AllReadyH.cons ops3v_11 (fun KK hKK=>?_) AllReadyH.nil))
 ·go_simp
  have hb5:Below W.heap.size W (W.alloc (.cells #[.int .i64 0] 3)):=(Below.refl _ _).alloc (Nat.le_refl _) _
  have hBn:=(hB.trans (hb5.mono hB.size))
  refine hKK.out _ _ (hS9.out _ hBn) (fun hHeld=>?_)
  clear hKK KK
  (try simp only [Act.put,ly])
  exact st3_ca hHeld _ (by kernel_rfl) (hB.trans (hb5.mono hB.size)) (made1 W #[.int .i64 0] 3) hB.size C
 ·go_simp
  have hb5:Below W.heap.size W (W.alloc (.cells #[.int .i64 0] 3)):=(Below.refl _ _).alloc (Nat.le_refl _) _
  have hBn:=(hB.trans (hb5.mono hB.size))
  refine hKK.out _ _ (hS9.out _ hBn) (fun hHeld=>?_)
  clear hKK KK
  (try simp only [Act.put,ly])
  exact st3_cb hHeld _ (by kernel_rfl) (hB.trans (hb5.mono hB.size)) (made1 W #[.int .i64 0] 3) hB.size C

set_option maxRecDepth 100000 in
set_option maxHeartbeats 4000000 in
theorem st3_a (hHeld:SX3 g1 m cA n d a0 D W) (ls:Array Bool) (hls:ls=#[true,true,true,true,true,true,true,true,true,false,true,false,false,false]) (hB:Below w9.heap.size w9 W) (La:Loc W ga 3 #[.int .i64 0]) (hla:w9.heap.size≤ga) (C:CX_Reg3v s w9 g1 m cA n d a0 D zs R Q) :
 wpAnyH Tryz.prog .any ops3v (NoPanic Q) (SX3 g1 m cA n d a0 D) 4 ls (FR_Reg3v s g1 a0 m cA D n d (.pointer (some ⟨ga,0,none⟩)) u4 u24) W:=by
 subst hls
 unfold FR_Reg3v
 obtain ⟨hS9,hI,hR,hOut⟩:=id C
 refine wpAnyH_ready (rs:=[9,11]) (by kernel_rfl) (by simp) ?_
 refine (AllReadyH.cons ops3v_9 (fun KK hKK=>?_) (AllReadyH.cons ops3v_11 (fun KK hKK=>?_) AllReadyH.nil))
 ·go_simp
  refine (csum_any _ _ zs (hI.out _ hB)).mono ?_
  rintro e W1 ⟨he,hb5⟩
  rw [hR.out] at he
  subst he
  (try go_wp2_with fail)
  have hBn:=(hB.trans (hb5.mono hB.size))
  refine hKK.out _ _ (hS9.out _ hBn) (fun hHeld=>?_)
  clear hKK KK
  (try simp only [Act.put,ly])
  exact st3_ca hHeld _ (by kernel_rfl) (hB.trans (hb5.mono hB.size)) (La.below hb5) hla C
 ·go_simp
  have hb5:Below W.heap.size W (W.alloc (.cells #[.int .i64 0] 3)):=(Below.refl _ _).alloc (Nat.le_refl _) _
  have hBn:=(hB.trans (hb5.mono hB.size))
  refine hKK.out _ _ (hS9.out _ hBn) (fun hHeld=>?_)
  clear hKK KK
  (try simp only [Act.put,ly])
  exact st3_ab hHeld _ (by kernel_rfl) (hB.trans (hb5.mono hB.size)) (La.below hb5) hla (made1 W #[.int .i64 0] 3) hB.size (Nat.ne_of_lt La.lt) C

set_option maxRecDepth 100000 in
set_option maxHeartbeats 4000000 in
theorem st3_b (hHeld:SX3 g1 m cA n d a0 D W) (ls:Array Bool) (hls:ls=#[true,true,true,true,true,true,true,true,true,false,false,true,false,false]) (hB:Below w9.heap.size w9 W) (Lb:Loc W gb 3 #[.int .i64 0]) (hlb:w9.heap.size≤gb) (C:CX_Reg3v s w9 g1 m cA n d a0 D zs R Q) :
 wpAnyH Tryz.prog .any ops3v (NoPanic Q) (SX3 g1 m cA n d a0 D) 4 ls (FR_Reg3v s g1 a0 m cA D n d u3 (.pointer (some ⟨gb,0,none⟩)) u24) W:=by
 subst hls
 unfold FR_Reg3v
 obtain ⟨hS9,hI,hR,hOut⟩:=id C
 refine wpAnyH_ready (rs:=[9,10]) (by kernel_rfl) (by simp) ?_
 refine (AllReadyH.cons ops3v_9 (fun KK hKK=>?_) (AllReadyH.cons ops3v_10 (fun KK hKK=>?_) AllReadyH.nil))
 ·go_simp
  refine (csum_any _ _ zs (hI.out _ hB)).mono ?_
  rintro e W1 ⟨he,hb5⟩
  rw [hR.out] at he
  subst he
  (try go_wp2_with fail)
  have hBn:=(hB.trans (hb5.mono hB.size))
  refine hKK.out _ _ (hS9.out _ hBn) (fun hHeld=>?_)
  clear hKK KK
  (try simp only [Act.put,ly])
  exact st3_cb hHeld _ (by kernel_rfl) (hB.trans (hb5.mono hB.size)) (Lb.below hb5) hlb C
 ·go_simp
  have hb5:Below W.heap.size W (W.alloc (.cells #[.int .i64 0] 3)):=(Below.refl _ _).alloc (Nat.le_refl _) _
  have hBn:=(hB.trans (hb5.mono hB.size))
  refine hKK.out _ _ (hS9.out _ hBn) (fun hHeld=>?_)
  clear hKK KK
  (try simp only [Act.put,ly])
  exact st3_ab hHeld _ (by kernel_rfl) (hB.trans (hb5.mono hB.size)) (made1 W #[.int .i64 0] 3) hB.size (Lb.below hb5) hlb (Ne.symm (Nat.ne_of_lt Lb.lt)) C

set_option maxRecDepth 100000 in
set_option maxHeartbeats 4000000 in
theorem st3_O (hHeld:SX3 g1 m cA n d a0 D W) (ls:Array Bool) (hls:ls=#[true,true,true,true,true,true,true,true,true,false,false,false,false,false]) (hB:Below w9.heap.size w9 W) (C:CX_Reg3v s w9 g1 m cA n d a0 D zs R Q) :
 wpAnyH Tryz.prog .any ops3v (NoPanic Q) (SX3 g1 m cA n d a0 D) 5 ls (FR_Reg3v s g1 a0 m cA D n d u3 u4 u24) W:=by
 subst hls
 unfold FR_Reg3v
 obtain ⟨hS9,hI,hR,hOut⟩:=id C
 refine wpAnyH_ready (rs:=[9,10,11]) (by kernel_rfl) (by simp) ?_
 refine (AllReadyH.cons ops3v_9 (fun KK hKK=>?_) (AllReadyH.cons ops3v_10 (fun KK hKK=>?_) (AllReadyH.cons ops3v_11 (fun KK hKK=>?_) AllReadyH.nil)))
 ·go_simp
  refine (csum_any _ _ zs (hI.out _ hB)).mono ?_
  rintro e W1 ⟨he,hb5⟩
  rw [hR.out] at he
  subst he
  (try go_wp2_with fail)
  have hBn:=(hB.trans (hb5.mono hB.size))
  refine hKK.out _ _ (hS9.out _ hBn) (fun hHeld=>?_)
  clear hKK KK
  (try simp only [Act.put,ly])
  exact st3_c hHeld _ (by kernel_rfl) (hB.trans (hb5.mono hB.size)) C
 ·go_simp
  have hb5:Below W.heap.size W (W.alloc (.cells #[.int .i64 0] 3)):=(Below.refl _ _).alloc (Nat.le_refl _) _
  have hBn:=(hB.trans (hb5.mono hB.size))
  refine hKK.out _ _ (hS9.out _ hBn) (fun hHeld=>?_)
  clear hKK KK
  (try simp only [Act.put,ly])
  exact st3_a hHeld _ (by kernel_rfl) (hB.trans (hb5.mono hB.size)) (made1 W #[.int .i64 0] 3) hB.size C
 ·go_simp
  have hb5:Below W.heap.size W (W.alloc (.cells #[.int .i64 0] 3)):=(Below.refl _ _).alloc (Nat.le_refl _) _
  have hBn:=(hB.trans (hb5.mono hB.size))
  refine hKK.out _ _ (hS9.out _ hBn) (fun hHeld=>?_)
  clear hKK KK
  (try simp only [Act.put,ly])
  exact st3_b hHeld _ (by kernel_rfl) (hB.trans (hb5.mono hB.size)) (made1 W #[.int .i64 0] 3) hB.size C

set_option maxRecDepth 100000 in
set_option maxHeartbeats 8000000 in
theorem reg3v (hm0:(0:Int)<(m:Int)) (hm1:0<m) (hS9:Hid (∀ W,Below w9.heap.size w9 W→SX3 g1 m cA n d a0 D W)) (hI:Hid (∀ W,Below w9.heap.size w9 W→IntsV W (.slice D n d) zs)) (hR:Hid (rsumA 0 zs=R)) (hOut:Out3 w9 Q g1 n R u0 u2 u5 u6 u7 u8 u9 u10 u11 u12 u13 u14 u25 u26 u27 u28 u29 u30 u31 u32 u33 u34 u35 u36 u37 u38 u39) :
 (Code.region 3 ops3v true).wp Tryz.prog Q ⟨#[u0,(.pointer (some ⟨g1,0,none⟩)),u2,u3,u4,u5,u6,u7,u8,u9,u10,u11,u12,u13,u14,u15,u16,u17,u18,u19,u20,u21,u22,u23,u24,u25,u26,u27,u28,u29,u30,u31,u32,u33,u34,u35,u36,u37,u38,u39],[]⟩ w9:=by
 refine wp_region_noPanic ?_
 refine wp_region_held_drew (S:=(SX3 g1 m cA n d a0 D)) (by kernel_rfl) ?_ (fun hHeld=>?_)
 ·exact hS9.out _ (Below.refl _ _).drew
 rw [ops3v_size]
 refine wpAnyH_take (i:=0) (v:=?_) ops3v_0 (by kernel_rfl) (by kernel_rfl) (by kernel_rfl) (fun _ _ _ h=>h) (Or.inl ⟨by kernel_rfl,?_⟩) hHeld ?_
 rotate_left 1
 ·(intro w hSw; unfold SX3 at hSw; (try dsimp only at hSw); first | (go_simp; done) | (go_simp; with_reducible rfl))
 (try simp only [Act.put,ly])
 refine wpAnyH_take (i:=1) (v:=?_) ops3v_1 (by kernel_rfl) (by kernel_rfl) (by kernel_rfl) (fun _ _ _ h=>h) (Or.inl ⟨by kernel_rfl,?_⟩) hHeld ?_
 rotate_left 1
 ·(intro w hSw; unfold SX3 at hSw; (try dsimp only at hSw); first | (go_simp; done) | (go_simp; with_reducible rfl))
 (try simp only [Act.put,ly])
 refine wpAnyH_take (i:=2) (v:=?_) ops3v_2 (by kernel_rfl) (by kernel_rfl) (by kernel_rfl) (fun _ _ _ h=>h) (Or.inl ⟨by kernel_rfl,?_⟩) hHeld ?_
 rotate_left 1
 ·(intro w hSw; unfold SX3 at hSw; (try dsimp only at hSw); first | (go_simp; done) | (go_simp; with_reducible rfl))
 (try simp only [Act.put,ly])
 refine wpAnyH_take (i:=3) (v:=?_) ops3v_3 (by kernel_rfl) (by kernel_rfl) (by kernel_rfl) (fun _ _ _ h=>h) (Or.inl ⟨by kernel_rfl,?_⟩) hHeld ?_
 rotate_left 1
 ·(intro w hSw; unfold SX3 at hSw; (try dsimp only at hSw); first | (go_simp; done) | (go_simp; with_reducible rfl))
 (try simp only [Act.put,ly])
 refine wpAnyH_take (i:=4) (v:=?_) ops3v_4 (by kernel_rfl) (by kernel_rfl) (by kernel_rfl) (fun _ _ _ h=>h) (Or.inl ⟨by kernel_rfl,?_⟩) hHeld ?_
 rotate_left 1
 ·(intro w hSw; unfold SX3 at hSw; (try dsimp only at hSw); first | (go_simp; done) | (go_simp; with_reducible rfl))
 (try simp only [Act.put,ly])
 refine wpAnyH_take (i:=5) (v:=?_) ops3v_5 (by kernel_rfl) (by kernel_rfl) (by kernel_rfl) (fun _ _ _ h=>h) (Or.inl ⟨by kernel_rfl,?_⟩) hHeld ?_
 rotate_left 1
 ·(intro w hSw; unfold SX3 at hSw; (try dsimp only at hSw); first | (go_simp; done) | (go_simp; with_reducible rfl))
 (try simp only [Act.put,ly])
 refine wpAnyH_take (i:=6) (v:=?_) ops3v_6 (by kernel_rfl) (by kernel_rfl) (by kernel_rfl) (fun _ _ _ h=>h) (Or.inl ⟨by kernel_rfl,?_⟩) hHeld ?_
 rotate_left 1
 ·(intro w hSw; unfold SX3 at hSw; (try dsimp only at hSw); first | (go_simp; done) | (go_simp; with_reducible rfl))
 (try simp only [Act.put,ly])
 refine wpAnyH_take (i:=7) (v:=?_) ops3v_7 (by kernel_rfl) (by kernel_rfl) (by kernel_rfl) (fun _ _ _ h=>h) (Or.inl ⟨by kernel_rfl,?_⟩) hHeld ?_
 rotate_left 1
 ·(intro w hSw; unfold SX3 at hSw; (try dsimp only at hSw); first | (go_simp; done) | (go_simp; with_reducible rfl))
 (try simp only [Act.put,ly])
 refine wpAnyH_take (i:=8) (v:=?_) ops3v_8 (by kernel_rfl) (by kernel_rfl) (by kernel_rfl) (fun _ _ _ h=>h) (Or.inl ⟨by kernel_rfl,?_⟩) hHeld ?_
 rotate_left 1
 ·(intro w hSw; unfold SX3 at hSw; (try dsimp only at hSw); first | (go_simp; done) | (go_simp; with_reducible rfl))
 (try simp only [Act.put,ly])
 exact st3_O (s:=⟨u0,u2,u5,u6,u7,u8,u9,u10,u11,u12,u13,u14,u25,u26,u27,u28,u29,u30,u31,u32,u33,u34,u35,u36,u37,u38,u39⟩) hHeld _ (by kernel_rfl) ((Below.refl _ _).drew) ⟨hS9,hI,hR,hOut⟩
end
end Reg3v

/- channel.Valid. -/

set_option maxRecDepth 100000 in
set_option maxHeartbeats 8000000 in
theorem cvalid_any (w:World) (v0:Value) (L:List (List Int)) (h:IMat w v0 L) :
 Calls Tryz.prog 281 #[.agg #[v0]] w fun e w'=>Tells (VC L) e∧Below w.heap.size w w':=by
 have H:=Lib.hid h
 obtain ⟨A,cA,rfl,h,l1,l2⟩:=h.op
 have lm:L.length≤9223372036854775807:=by unfold maxLen at l2; omega
 clear h
 obtain ⟨m,hm⟩:∃ m,L.length=m:=⟨_,rfl⟩
 have HM:=Lib.hid hm
 rw [hm] at l1 lm H
 rw [hm]
 clear hm
 by_cases h1:m<1
 ·have HV:Hid (¬ VC L):=fun h=>by have:=h.1; rw [HM.out] at this; omega
  go_enter Tryz.func281,Tryz.ntmps281
  go_wp2_with fail
  go_ret
  exact ⟨Tells.no HV.out,bel⟩
 by_cases h2:256<m
 ·have HV:Hid (¬ VC L):=fun h=>by have:=h.2.1; rw [HM.out] at this; omega
  go_enter Tryz.func281,Tryz.ntmps281
  go_wp2_with fail
  go_ret
  exact ⟨Tells.no HV.out,bel⟩
 obtain ⟨l0,he⟩:∃ l,L[0]? = some l:=⟨_,List.getElem?_eq_getElem (by have:=HM.out; omega)⟩
 obtain ⟨a0,D,d,rfl,hab,hcell,hints,l3,l4⟩:=H.out.at he
 rw [addr_zero] at hcell
 have H0:Hid (L.getD 0 [] = l0):=by show _=_; rw [List.getD_eq_getElem?_getD,he]; rfl
 obtain ⟨n,hn⟩:∃ n,l0.length=n:=⟨_,rfl⟩
 have HN:=Lib.hid hn
 rw [hn] at hcell hints l3
 obtain ⟨R,hR⟩:∃ R,rsumA 0 l0=R:=⟨_,rfl⟩
 have HR:=Lib.hid hR
 have hrr:=rsumA_range l0 0 (by decide) (by decide)
 rw [hR] at hrr
 have HVC:Hid (VC L↔1≤n∧n≤256∧1≤R∧∀ l∈L,(l.length:Int)=(n:Int)∧rsumA 0 l=R):=by
  show _↔_
  unfold VC
  rw [H0.out,HN.out,HR.out,HM.out]
  constructor
  ·rintro ⟨_,_,a,b,c,d⟩
   exact ⟨a,b,c,fun l hl=>⟨by have:=(d l hl).1; omega,(d l hl).2⟩⟩
  ·rintro ⟨a,b,c,d⟩
   exact ⟨by omega,by omega,a,b,c,fun l hl=>⟨by have:=(d l hl).1; omega,(d l hl).2⟩⟩
 have HI:=Lib.hid hints
 have L1:=made1 w #[.slice (some a0) m cA] 120
 have hkb:Keep (fun _=>False) w (w.alloc (.cells #[.slice (some a0) m cA] 120)):=kp
 clear he hn hR hints
 go_enter Tryz.func281,Tryz.ntmps281
 go_wp2_with fail
 refine Reg3v.reg3v (n:=n) (d:=d) (D:=D) (a0:=a0) (zs:=l0) (R:=R) (by omega) (by omega) (fun W hW=>⟨Loc.cell (L1.below hW) 0,cell_keep hcell hab id (hkb.trans (.of_below hW))⟩) (fun W hW=>HI.out.keep (hkb.trans (.of_below hW))) HR ?_
 intro W ga gb v15 v16 v17 v18 v19 v20 v21 v22 v23 v24 hab2 hga hgb La Lb hB
 obtain ⟨e1,f1,t1⟩:=La.all (w':=W)
 obtain ⟨e2,f2,t2⟩:=Lb.all (w':=W)
 have LW:Loc W w.heap.size _ _:=L1.below hB
 obtain ⟨e3,f3,t3⟩:=LW.all (w':=W)
 have HBW:Hid (Below w.heap.size w W):=((Below.refl _ _).alloc (Nat.le_refl _) _).trans (hB.mono (by simp only [World.size_alloc]; omega))
 clear hcell hB hkb HI L1
 by_cases h3:n<1
 ·have HV:Hid (¬ VC L):=fun h=>by have:=(HVC.out.1 h).1; omega
  go_wp2_with fail
  go_ret
  exact ⟨Tells.no HV.out,HBW.out⟩
 by_cases h4:256<n
 ·have HV:Hid (¬ VC L):=fun h=>by have:=(HVC.out.1 h).2.1; omega
  go_wp2_with fail
  go_ret
  exact ⟨Tells.no HV.out,HBW.out⟩
 by_cases h5:R<1
 ·have HV:Hid (¬ VC L):=fun h=>by have:=(HVC.out.1 h).2.2.1; omega
  go_wp2_with fail
  go_ret
  exact ⟨Tells.no HV.out,HBW.out⟩
 have HT:Hid (TellsI W 377 #[.pointer (some ⟨ga,0,none⟩), .pointer (some ⟨gb,0,none⟩)] (fun l=>¬ ((l.length:Int)=(n:Int)∧rsumA 0 l=R)) L):=fun W' A' c' l hW hl _=>
  cvalid1_any W' A' c' l ga gb (n:Int) R hl (Loc.cell (La.below hW) 0) (Loc.cell (Lb.below hW) 0) (La.below hW).lt (Lb.below hW).lt
 have HMW:=Lib.hid (H.out.keep (.of_below HBW.out))
 go_wp2_with fail
 refine (containsI_any _ _ _ _ _ L (by have:=HMW.out; exact this) (enters Tryz.func377 (by kernel_rfl) (by kernel_rfl)) HT.out).mono ?_
 rintro e w2 ⟨⟨b,rfl,hb⟩,hb2⟩
 cases b
 ·have HV:Hid (VC L):=HVC.out.2 ⟨by omega,by omega,by omega,fun l hl=>Classical.not_not.1 (fun hno=>by have:=hb.out.2 ⟨l,hl,hno⟩; cases this)⟩
  clear hb
  go_wp2_with fail
  go_ret
  exact ⟨Tells.yes HV.out,HBW.out.trans (hb2.mono HBW.out.size)⟩
 ·have HV:Hid (¬ VC L):=fun h=>by
   obtain ⟨l,hl,hno⟩:=hb.out.1 rfl
   exact hno ((HVC.out.1 h).2.2.2 l hl)
  clear hb
  go_wp2_with fail
  go_ret
  exact ⟨Tells.no HV.out,HBW.out.trans (hb2.mono HBW.out.size)⟩

/- channel.Total, refinement.pair, refinement.whole. -/

/-- A valid channel's total. -/
def tot (L:List (List Int)):Int:=rsumA 0 (L.getD 0 [])
set_option maxRecDepth 100000 in
set_option maxHeartbeats 4000000 in
theorem total_any (w:World) (v0:Value) (L:List (List Int)) (h:IMat w v0 L) (hV:VC L) :
 Calls Tryz.prog 287 #[.agg #[v0]] w fun e w'=>e = .returned (.int .i64 (tot L))∧Below w.heap.size w w':=by
 have H:=Lib.hid h
 have HV:=Lib.hid hV
 obtain ⟨A,cA,rfl,h,l1,l2⟩:=h.op
 clear h hV
 obtain ⟨m,hm⟩:∃ m,L.length=m:=⟨_,rfl⟩
 have HM:=Lib.hid hm
 rw [hm] at l1 H
 rw [hm]
 have q0:(0:Int)<(m:Int):=by have:=HV.out.1; omega
 clear hm
 obtain ⟨l0,he⟩:∃ l,L[0]? = some l:=⟨_,List.getElem?_eq_getElem (by have:=HM.out; omega)⟩
 obtain ⟨a0,D,d,rfl,hab,hcell,hints,l3,l4⟩:=H.out.at he
 rw [addr_zero] at hcell
 obtain ⟨R,hR⟩:∃ R,tot L=R:=⟨_,rfl⟩
 have HR:Hid (rsumA 0 l0=R):=by show _=_; rw [←hR]; unfold tot; rw [List.getD_eq_getElem?_getD,he]; rfl
 rw [hR]
 have HI:=Lib.hid hints
 have L1:=made1 w #[.slice (some a0) m cA] 120
 clear he hR hints
 go_enter Tryz.func287,Tryz.ntmps287
 go_wp2_with fail
 refine (cvalid_any _ _ L (by have:=H.out.keep (kp:Keep (fun _=>False) w (w.alloc (.cells #[.slice (some a0) m cA] 120))); exact this)).mono ?_
 rintro e w1 ⟨he,hb1⟩
 have he:=he.eq (b:=true) ⟨fun _=>HV.out,fun _=>rfl⟩
 subst he
 have z1:=sz1 hb1
 obtain ⟨e1,f1,t1⟩:=L1.all (w':=w1)
 have hk1:Keep (fun _=>False) w w1:=kp
 have hc1:w1.cell? a0=_:=cell_keep hcell hab id hk1
 go_wp2_with fail
 refine (csum_any _ _ l0 (HI.out.keep hk1)).mono ?_
 rintro e w2 ⟨he,hb2⟩
 rw [HR.out] at he
 subst he
 go_wp2_with fail
 go_ret
 exact ⟨rfl,bel⟩

/-- The code of a pair of channels. -/
def PairSays (code:Int) (L1 L2:List (List Int)):Prop:=(¬ (VC L1∧VC L2)→code=1)∧(VC L1∧VC L2→L1.length ≠ L2.length→code=2)∧(VC L1∧VC L2→L1.length=L2.length→code=0)
set_option maxRecDepth 100000 in
set_option maxHeartbeats 4000000 in
theorem pair_any (w:World) (v1 v2:Value) (L1 L2:List (List Int)) (h1:IMat w v1 L1) (h2:IMat w v2 L2) :
 Calls Tryz.prog 163 #[.agg #[v1], .agg #[v2]] w fun e w'=>∃ code:Int,e = .returned (.int .i64 code)∧Hid (PairSays code L1 L2)∧Below w.heap.size w w':=by
 have H1:=Lib.hid h1
 have H2:=Lib.hid h2
 obtain ⟨A,cA,rfl,h1,la1,la2⟩:=h1.op
 obtain ⟨B,cB,rfl,h2,lb1,lb2⟩:=h2.op
 clear h1 h2
 have M1:=made1 w #[.slice A L1.length cA] 120
 have M2:=made2 w (.cells #[.slice A L1.length cA] 120) #[.slice B L2.length cB] 120
 go_enter Tryz.func163,Tryz.ntmps163
 go_wp2_with fail
 refine (cvalid_any _ _ L1 (H1.out.keep kp)).mono ?_
 rintro e w1 ⟨⟨b,rfl,hb⟩,hb1⟩
 obtain ⟨z1,z2⟩:=sz2 hb1
 obtain ⟨e1,f1,t1⟩:=M1.all (w':=w1)
 obtain ⟨e2,f2,t2⟩:=M2.all (w':=w1)
 cases b
 ·have HV:Hid (¬ VC L1):=fun h=>by have:=hb.out.2 h; cases this
  clear hb
  go_wp2_with fail
  go_ret
  exact ⟨1,rfl,⟨fun _=>rfl,fun h=>absurd h.1 HV.out,fun h=>absurd h.1 HV.out⟩,bel⟩
 have HV1:Hid (VC L1):=hb.out.1 rfl
 clear hb
 go_wp2_with fail
 refine (cvalid_any _ _ L2 (H2.out.keep kp)).mono ?_
 rintro e w2 ⟨⟨b,rfl,hb⟩,hb2⟩
 have y2:=hb2.size; (try simp only [zs] at y2)
 clear e1 f1 t1 e2 f2 t2
 obtain ⟨e1,f1,t1⟩:=M1.all (w':=w2)
 obtain ⟨e2,f2,t2⟩:=M2.all (w':=w2)
 cases b
 ·have HV:Hid (¬ VC L2):=fun h=>by have:=hb.out.2 h; cases this
  clear hb
  go_wp2_with fail
  go_ret
  exact ⟨1,rfl,⟨fun _=>rfl,fun h=>absurd h.2 HV.out,fun h=>absurd h.2 HV.out⟩,bel⟩
 have HV2:Hid (VC L2):=hb.out.1 rfl
 clear hb
 by_cases hmk:L1.length=L2.length
 ·have d1:((L1.length:Int) == (L2.length:Int))=true:=beq_iff_eq.2 (by omega)
  have d2:((L1.length:Int) != (L2.length:Int))=false:=by simp only [bne,d1]; rfl
  have HMK:=Lib.hid hmk
  clear hmk
  go_wp2_with fail
  go_ret
  exact ⟨0,rfl,⟨fun h=>absurd ⟨HV1.out,HV2.out⟩ h,fun _ h=>absurd HMK.out h,fun _ _=>rfl⟩,bel⟩
 ·have d1:((L1.length:Int) == (L2.length:Int))=false:=beq_eq_false_iff_ne.2 (by omega)
  have d2:((L1.length:Int) != (L2.length:Int))=true:=bne_iff_ne.2 (by omega)
  have HMK:Hid (¬ L1.length=L2.length):=hmk
  clear hmk
  go_wp2_with fail
  go_ret
  exact ⟨2,rfl,⟨fun h=>absurd ⟨HV1.out,HV2.out⟩ h,fun _ _=>rfl,fun _ h=>absurd h HMK.out⟩,bel⟩

/- slices.ContainsFunc at lists of fractions and at lists of those, for any predicate. -/

/-- A function that tells whether P, at fractions. -/
def TellsR (k:Nat) (w:World) (F:Nat) (caps:Array Value) (P:Rat→Prop):Prop:=
 ∀ (W:World) (v:Value) (q:Rat),Below w.heap.size w W→RatL k W (fun _=>False) v q→Calls Tryz.prog F (#[v] ++ caps) W fun e w'=>Tells (P q) e∧Below W.heap.size W w'
/-- A function that tells whether P, at lists of fractions. -/
def TellsN (k:Nat) (w:World) (F:Nat) (caps:Array Value) (P:Nat→(Nat→Rat)→Prop) (ok:Nat→Prop):Prop:=
 ∀ (W:World) (v:Value) (n:Nat) (f:Nat→Rat),Below w.heap.size w W→ok n→Nums k W (fun _=>False) v n f→Calls Tryz.prog F (#[v] ++ caps) W fun e w'=>Tells (P n f) e∧Below W.heap.size W w'

set_option maxRecDepth 100000 in
set_option maxHeartbeats 4000000 in
theorem indexR_any (w:World) (F:Nat) (caps:Array Value) (P:Rat→Prop) (v:Value) (m k:Nat) (f:Nat→Rat) (h:Nums k w (fun _=>False) v m f) (hen:Enters F) (hF:TellsR k w F caps P) :
 Calls Tryz.prog 230 #[v, .func (Fn.func F) #[] caps] w fun e w'=>∃ r:Int,e = .returned (.int .i64 r)∧((0≤r∧∃ i,i<m∧P (f i))∨(r<0∧∀ i,i<m→¬ P (f i)))∧Below w.heap.size w w':=by
 have H:=Lib.hid h
 have HF:=Lib.hid hF
 have hen2:∀ (args:Array Value) (W:World),(callFunc F args).run Tryz.prog W = .ok (.enter F args) W:=hen
 obtain ⟨A,cap,rfl,h,l1,l2⟩:=h.op
 have lm:m≤9223372036854775807:=by unfold maxLen at l2; omega
 clear h hF
 go_enter Tryz.func230,Tryz.ntmps230
 go_wp2_with fail
 go_loopw [8] (fun i wr=>∃ (c:Nat),c≤m∧i = .int .i64 c∧Hid (∀ i,i<c→¬ P (f i))∧Below w.heap.size w wr) (fun i _=>m - (intOf i).toNat)
 case atStart=>exact ⟨0,by omega,rfl,Lib.hid (fun i hi=>absurd hi (by omega)),bel⟩
 case round=>
  obtain ⟨c,hc,rfl,hall,hB⟩:=hrel
  obtain ⟨wo,rfl⟩:∃ wo:World,wo=wr:=⟨_,rfl⟩
  have y5:=hB.size; (try simp only [zs] at y5)
  by_cases hlt:c<m
  ·obtain ⟨a,b3,A3,m3,c3,b3',A3',m3',c3',rfl,ha, -,x0,x1,x2,x3,r3⟩:=Nums.at (Nums.keep H.out (.of_below hB)) hlt
   replace x1:wo.cell? ⟨(a.add (c*4)).block,(a.add (c*4)).off+1,none⟩=_:=x1
   replace x2:wo.cell? ⟨(a.add (c*4)).block,(a.add (c*4)).off+2,none⟩=_:=x2
   replace x3:wo.cell? ⟨(a.add (c*4)).block,(a.add (c*4)).off+3,none⟩=_:=x3
   have k0:(0:Int)≤(c:Int):=by omega
   have k1:(c:Int)<(m:Int):=by omega
   have HLT:=Lib.hid hlt
   go_wp2_with fail
   refine (HF.out _ _ (f c) hB r3).mono ?_
   rintro e w2 ⟨⟨b,rfl,hb⟩,hb2⟩
   have y2:=hb2.size; (try simp only [zs] at y2)
   cases b
   ·have HGD:Hid (¬ P (f c)):=fun h=>by have:=hb.out.2 h; cases this
    clear hb
    go_wp2_with fail
    go_roundw
    case rel=>
     refine ⟨c+1,by omega,by go_num,Lib.hid (fun i hi=>?_),bel⟩
     by_cases hic:i<c
     ·exact hall.out i hic
     ·obtain rfl:i=c:=by omega
      exact HGD.out
    case measure=>simp only [intOf]; omega
   ·have HGD:Hid (P (f c)):=hb.out.1 rfl
    clear hb
    go_wp2_with fail
    go_ret
    exact ⟨_,rfl, .inl ⟨by omega,c,HLT.out,HGD.out⟩,bel⟩
  ·obtain rfl:c=m:=by omega
   go_wp2_with fail
   go_ret
   exact ⟨_,rfl, .inr ⟨by decide,hall.out⟩,hB⟩
set_option maxRecDepth 100000 in
set_option maxHeartbeats 4000000 in
theorem containsR_any (w:World) (F:Nat) (caps:Array Value) (P:Rat→Prop) (v:Value) (m k:Nat) (f:Nat→Rat) (h:Nums k w (fun _=>False) v m f) (hen:Enters F) (hF:TellsR k w F caps P) :
 Calls Tryz.prog 104 #[v, .func (Fn.func F) #[] caps] w fun e w'=>Tells (∃ i,i<m∧P (f i)) e∧Below w.heap.size w w':=by
 have H:=Lib.hid h
 have HF:=Lib.hid hF
 obtain ⟨A,cap,rfl,h,l1,l2⟩:=h.op
 clear h hF
 go_enter Tryz.func104,Tryz.ntmps104
 go_wp2_with fail
 refine (indexR_any _ F caps P _ m k f H.out hen HF.out).mono ?_
 rintro e w1 ⟨r,rfl,hr,hb1⟩
 have y1:=hb1.size; (try simp only [zs] at y1)
 have HR:=Lib.hid hr
 clear hr
 by_cases h0:0≤r
 ·have HV:Hid (∃ i,i<m∧P (f i)):=by
   rcases HR.out with ⟨_,h⟩ | ⟨h,_⟩
   ·exact h
   ·omega
  go_wp2_with fail
  go_ret
  exact ⟨Tells.yes HV.out,bel⟩
 ·have HV:Hid (¬ ∃ i,i<m∧P (f i)):=by
   rcases HR.out with ⟨h,_⟩ | ⟨_,h⟩
   ·omega
   ·exact fun ⟨i,hi,hp⟩=>h i hi hp
  have hd:decide (0≤r)=false:=decide_eq_false h0
  go_wp2_with fail
  go_ret
  exact ⟨by first | exact Tells.no HV.out | (simp only [hd]; exact Tells.no HV.out),bel⟩
end Go.Proofs.YtbdcjhoedhhabaaGreat

