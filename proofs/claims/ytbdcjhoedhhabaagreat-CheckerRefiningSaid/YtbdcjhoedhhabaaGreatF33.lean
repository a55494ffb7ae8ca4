/- Contracts of the functions that the statements reach, part 33. -/
import Derived.Test.YtbdcjhoedhhabaaGreatRows
import Derived.Test.YtbdcjhoedhhabaaGreatF29
import Derived.Test.YtbdcjhoedhhabaaGreatF30
import Derived.Test.YtbdcjhoedhhabaaGreatF32
set_option linter.unusedSimpArgs false
set_option linter.unusedVariables false

/- The checker's numbers: negative, sum, dot. -/
namespace Go.Proofs.YtbdcjhoedhhabaaGreat
open Go.RowKit
attribute [local go_sem ↓] Go.wp_at_zero Go.wp_at_succ

set_option maxHeartbeats 2000000 in
theorem cnegative_any (w:World) (k:Nat) (v:Value) (q:Rat) (h:RatL k w (fun _=>False) v q) :
 Calls Tryz.prog 236 #[v] w fun e w'=>e = .returned (.bool (decide (q<0)))∧Below w.heap.size w w':=by
 have hq:=sign_neg_iff q
 obtain ⟨b,hb⟩:∃ b,decide (q<0)=b:=⟨_,rfl⟩
 rw [hb]
 obtain ⟨n1,A,m,c,n2,B,m',d,rfl,h, -⟩:=h.op
 have HB:Hid (decide (q.num.sign<0)=b):=by show _=_; rw [←hb]; exact decide_eq_decide.2 hq
 clear hq hb
 go_enter Tryz.func236,Tryz.ntmps236
 go_wp2_with fail
 refine (sign_rat _ (fun _=>False) k _ q h.to).mono ?_
 rintro e w1 ⟨rfl,hb1⟩
 have z1:=sz1 hb1
 have HB2:=HB.out
 generalize q.num.sign=s at *
 clear HB
 cases b
 ·have h2:¬ s<0:=of_decide_eq_false HB2
  go_wp2_with fail
  go_ret
  refine ⟨?_,bel⟩
  simp
 ·have h2:s<0:=of_decide_eq_true HB2
  go_wp2_with fail
  go_ret
  exact ⟨rfl,bel⟩

set_option maxHeartbeats 2000000 in
theorem ksum_any (w:World) (v:Value) (n k0:Nat) (f:Nat→Rat) (h:Nums k0 w (fun _=>False) v n f) (hn:n≤200) (hk1:1≤k0) (hk2:k0≤2000) :
 Calls Tryz.prog 297 #[v] w fun e w'=>∃ v',e = .returned v'∧RatV w' (Old w) v' (sm n f)∧Below w.heap.size w w':=by
 have H:=Lib.hid h
 have L:=made1 w #[.bool false, .slice none 0 0, .bool false, .slice none 0 0] 213
 clear h
 go_enter Tryz.func297,Tryz.ntmps297
 go_wp2_with fail
 refine (sumN_any _ _ n k0 f (H.out.keep kp) hn hk1 hk2).mono ?_
 rintro e w1 ⟨v1,rfl,i1,hb1⟩
 obtain ⟨b1,A1,m1,c1,b1',A1',m1',c1',rfl,i1, -, -⟩:=i1.op
 have z1:=sz1 hb1
 obtain ⟨e6,g6,l6⟩:=L.all (w':=w1)
 have LF:=Loc.fill4 (u:= .bool b1) (v:= .slice A1 m1 c1) (x:= .bool b1') (y:= .slice A1' m1' c1') (L.to (w':=w1))
 obtain ⟨e8,g8, -⟩:=LF.all (w':=((((w1.setCell ⟨w.heap.size,0,none⟩ (.bool b1)).setCell ⟨w.heap.size,1,none⟩ (.slice A1 m1 c1)).setCell ⟨w.heap.size,2,none⟩ (.bool b1')).setCell ⟨w.heap.size,3,none⟩ (.slice A1' m1' c1')))
 go_wp2_with fail
 refine bodyPost_ret (by simp [results,Tryz.results297,go_sem,e8,g8] <;> rfl) rfl ⟨_,rfl,RatV.out i1,bel⟩

/- checker.matrix. -/

/-- A matrix of so many rows and columns with no number below zero. -/
def KMX (m rows cols:Nat) (N:Nat→Nat) (F:Nat→Nat→Rat):Prop:=1≤m∧(0<rows→m=rows)∧∀ i,i<m→N i=cols∧∀ j,j<N i→¬ F i j<0

set_option maxRecDepth 100000 in
set_option maxHeartbeats 8000000 in
theorem kmatrix_any (w:World) (v:Value) (m k rows cols:Nat) (N:Nat→Nat) (F:Nat→Nat→Rat) (h:Mat k w (fun _=>False) v m N F) (hk1:1≤k) (hr:rows≤1000) (hc:cols≤1000) :
 Calls Tryz.prog 296 #[v, .int .i64 rows, .int .i64 cols] w fun e w'=>Tells (KMX m rows cols N F) e∧Below w.heap.size w w':=by
 have H:=Lib.hid h
 obtain ⟨A,cA,rfl,h,l1,l2⟩:=h.op
 have lm:m≤9223372036854775807:=by unfold maxLen at l2; omega
 clear h
 by_cases h1:m=0
 ·have HV:Hid (¬ KMX m rows cols N F):=fun h=>by have:=h.1; omega
  have d1:((m:Int) == 0)=true:=beq_iff_eq.2 (by omega)
  clear h1
  go_enter Tryz.func296,Tryz.ntmps296
  go_wp2_with fail
  go_ret
  exact ⟨Tells.no HV.out,bel⟩
 have d1:((m:Int) == 0)=false:=beq_eq_false_iff_ne.2 (by omega)
 obtain ⟨b0,hb0⟩:∃ b0,decide (0<rows)=b0:=⟨_,rfl⟩
 have d2:decide (0<(rows:Int))=b0:=by rw [←hb0]; exact decide_eq_decide.2 (by omega)
 obtain ⟨b1,hb1⟩:∃ b1,decide (m=rows)=b1:=⟨_,rfl⟩
 have d3:((m:Int) == (rows:Int))=b1:=by
  rw [←hb1]
  by_cases e:m=rows
  ·rw [decide_eq_true e]; exact beq_iff_eq.2 (by omega)
  ·rw [decide_eq_false e]; exact beq_eq_false_iff_ne.2 (by omega)
 have d4:((m:Int) != (rows:Int)) = !b1:=by simp only [bne,d3]
 by_cases h2:0<rows∧m ≠ rows
 ·have HV:Hid (¬ KMX m rows cols N F):=fun h=>h2.2 (h.2.1 h2.1)
  obtain rfl:b0=true:=by rw [←hb0]; exact decide_eq_true h2.1
  obtain rfl:b1=false:=by rw [←hb1]; exact decide_eq_false h2.2
  clear h1 h2
  go_enter Tryz.func296,Tryz.ntmps296
  go_wp2_with fail
  go_ret
  exact ⟨Tells.no HV.out,bel⟩
 have HRW:Hid (0<rows→m=rows):=fun h=>Classical.byContradiction fun h'=>h2 ⟨h,h'⟩
 have hbb:b0=false∨(b0=true∧b1=true):=by
  by_cases e:0<rows
  ·exact .inr ⟨by rw [←hb0]; exact decide_eq_true e,by rw [←hb1]; exact decide_eq_true (HRW.out e)⟩
  ·exact .inl (by rw [←hb0]; exact decide_eq_false e)
 clear h2
 rcases hbb with rfl | ⟨rfl,rfl⟩
 all_goals
  go_enter Tryz.func296,Tryz.ntmps296
  go_wp2_with fail
  go_loopw [24] (fun i wr=>∃ (c:Nat),c≤m∧i = .int .i64 c∧Hid (∀ i,i<c→N i=cols∧∀ j,j<N i→¬ F i j<0)∧Below w.heap.size w wr) (fun i _=>m - (intOf i).toNat)
  case atStart=>exact ⟨0,by omega,rfl,Lib.hid (fun i hi=>absurd hi (by omega)),Below.refl _ _⟩
  case round=>
   obtain ⟨c,hc2,rfl,hall,hB⟩:=hrel
   obtain ⟨wo,rfl⟩:∃ wo:World,wo=wr:=⟨_,rfl⟩
   have y5:=hB.size; (try simp only [zs] at y5)
   have HBO:=Lib.hid hB
   by_cases hlt:c<m
   ·obtain ⟨a5,D5,c5,rfl,hab5, -,hcell5,hnum5,l9,l10⟩:=Mat.at (Mat.keep H.out (.of_below hB)) hlt
    obtain ⟨nc,hnc⟩:∃ nc,N c=nc:=⟨_,rfl⟩
    have HNC:=Lib.hid hnc
    rw [hnc] at hcell5 l9 hnum5
    have HNU:=Lib.hid hnum5
    have k0:(0:Int)≤(c:Int):=by omega
    have k1:(c:Int)<(m:Int):=by omega
    clear hnum5 hnc
    by_cases hq:nc=cols
    ·have HQ:=Lib.hid hq
     have d5:((nc:Int) == (cols:Int))=true:=beq_iff_eq.2 (by omega)
     have d6:((nc:Int) != (cols:Int))=false:=by simp only [bne,d5]; rfl
     clear hq
     go_wp2_with fail
     refine (containsR_any _ 236 #[] (fun q=>q<0) _ nc k (F c) HNU.out (enters Tryz.func236 (by kernel_rfl) (by kernel_rfl)) (show TellsR k _ 236 #[] (fun q=>q<0) from fun W v q _ hq=>(cnegative_any W k v q hq).mono fun e w' ⟨he,hb⟩=>⟨⟨_,he,Lib.hid (by simp)⟩,hb⟩)).mono ?_
     rintro e w1 ⟨⟨b,rfl,hb⟩,hb1⟩
     have y6:=hb1.size; (try simp only [zs] at y6)
     have HB1:Hid (Below w.heap.size w w1):=HBO.out.trans (hb1.mono y5)
     cases b
     ·have HG:Hid (∀ i,i<c+1→N i=cols∧∀ j,j<N i→¬ F i j<0):=fun i hi=>by
       by_cases hic:i<c
       ·exact hall.out i hic
       obtain rfl:i=c:=by omega
       refine ⟨by rw [HNC.out]; exact HQ.out,fun j hj hn=>?_⟩
       have:=hb.out.2 ⟨j,by rw [←HNC.out]; exact hj,hn⟩
       cases this
      clear hb
      go_wp2_with fail
      go_roundw
      case rel=>exact ⟨c+1,by omega,by go_num,HG,HB1.out⟩
      case measure=>simp only [intOf]; omega
     ·have HV:Hid (¬ KMX m rows cols N F):=fun h=>by
       obtain ⟨j,hj,hn⟩:=hb.out.1 rfl
       exact (h.2.2 c hlt).2 j (by rw [HNC.out]; exact hj) hn
      clear hb
      go_wp2_with fail
      go_ret
      exact ⟨Tells.no HV.out,HB1.out⟩
    ·have HV:Hid (¬ KMX m rows cols N F):=fun h=>hq (by rw [←HNC.out]; exact (h.2.2 c hlt).1)
     have d5:((nc:Int) == (cols:Int))=false:=beq_eq_false_iff_ne.2 (by omega)
     have d6:((nc:Int) != (cols:Int))=true:=bne_iff_ne.2 (by omega)
     clear hq
     go_wp2_with fail
     go_ret
     exact ⟨Tells.no HV.out,HBO.out⟩
   ·obtain rfl:c=m:=by omega
    have HV:Hid (KMX c rows cols N F):=⟨by omega,HRW.out,hall.out⟩
    go_wp2_with fail
    go_ret
    exact ⟨Tells.yes HV.out,HBO.out⟩

/- refinement.stochastic. -/

set_option maxHeartbeats 2000000 in
theorem sto1_any (w:World) (v:Value) (n k:Nat) (f:Nat→Rat) (h:Nums k w (fun _=>False) v n f) (hn:n≤200) (hk1:1≤k) (hk2:k≤2000) :
 Calls Tryz.prog 384 #[v] w fun e w'=>Tells (¬ sm n f=1) e∧Below w.heap.size w w':=by
 have H:=Lib.hid h
 obtain ⟨A,cp,rfl,h,l1,l2⟩:=h.op
 have HSZ:Hid (Rsz 900000 (sm n f)):=(sum_rsz (h.rsz hk1) n (Nat.le_refl _)).mono (by
  have h1:(k+1)*n≤2001*200:=Nat.mul_le_mul (by omega) (by omega)
  omega)
 clear h
 obtain ⟨q,hq⟩:∃ q,rcmp (sm n f) ((1:Int):Rat)=q:=⟨_,rfl⟩
 have HQ:=Lib.hid hq
 have HZ:Hid (q=0↔sm n f=1):=by show _↔_; rw [←hq]; exact rcmp_zero _ _
 clear hq
 go_enter Tryz.func384,Tryz.ntmps384
 go_wp2_with fail
 refine (sumN_any _ _ n k f (H.out.keep kp) hn hk1 hk2).mono ?_
 rintro e w1 ⟨v1,rfl,i1,hb1⟩
 have y1:=hb1.size; (try simp only [zs] at y1)
 obtain ⟨b1,A1,m1,c1,b1',A1',m1',c1',rfl,i1, -, -⟩:=i1.op
 go_wp2_with fail
 refine (rwhole_any _ 1 (by decide) (by decide)).mono ?_
 rintro e w2 ⟨v2,rfl,i2,hb2⟩
 have y2:=hb2.size; (try simp only [zs] at y2)
 obtain ⟨b2,A2,m2,c2,b2',A2',m2',c2',rfl,i2, -, -⟩:=i2.op
 go_wp2_with fail
 refine (ratcompare_any _ (fun _=>False) _ _ (sm n f) ((1:Int):Rat) (RatL.to ((i1.len HSZ.out).mono (by omega))) (RatL.to (i2.len ((rsz_int (z:=1) (by decide) (by decide)).mono (by omega))))).mono ?_
 rintro e w3 ⟨he,hb3⟩
 rw [HQ.out] at he
 subst he
 by_cases h0:q=0
 ·have HV:Hid (¬ ¬ sm n f=1):=fun h=>h (HZ.out.1 h0)
  have d1:(q == 0)=true:=beq_iff_eq.2 h0
  have d2:(q != 0)=false:=by simp only [bne,d1]; rfl
  clear HZ h0
  go_wp2_with fail
  go_ret
  exact ⟨Tells.no HV.out,bel⟩
 ·have HV:Hid (¬ sm n f=1):=fun h=>h0 (HZ.out.2 h)
  have d1:(q == 0)=false:=beq_eq_false_iff_ne.2 h0
  have d2:(q != 0)=true:=bne_iff_ne.2 h0
  clear HZ
  go_wp2_with fail
  go_ret
  exact ⟨Tells.yes HV.out,bel⟩
/-- A stochastic matrix. -/
def STO (m:Nat) (N:Nat→Nat) (F:Nat→Nat→Rat):Prop:=MX m N F∧∀ i,i<m→sm (N i) (F i)=1
set_option maxHeartbeats 2000000 in
theorem stochastic_any (w:World) (v:Value) (m k:Nat) (N:Nat→Nat) (F:Nat→Nat→Rat) (h:Mat k w (fun _=>False) v m N F) (hN:∀ i,i<m→N i≤200) (hk1:1≤k) (hk2:k≤2000) :
 Calls Tryz.prog 291 #[v] w fun e w'=>Tells (STO m N F) e∧Below w.heap.size w w':=by
 have H:=Lib.hid h
 have HN:=Lib.hid hN
 obtain ⟨A,cA,rfl,h,l1,l2⟩:=h.op
 clear h hN
 go_enter Tryz.func291,Tryz.ntmps291
 go_wp2_with fail
 refine (matrix_any _ _ m k N F (H.out.keep kp)).mono ?_
 rintro e w1 ⟨⟨b,rfl,hb⟩,hb1⟩
 have y1:=hb1.size; (try simp only [zs] at y1)
 cases b
 ·have HV:Hid (¬ STO m N F):=fun h=>by have:=hb.out.2 h.1; cases this
  clear hb
  go_wp2_with fail
  go_ret
  exact ⟨Tells.no HV.out,bel⟩
 have HM:Hid (MX m N F):=hb.out.1 rfl
 clear hb
 go_wp2_with fail
 refine (containsN_any _ 384 #[] (fun n f=>¬ sm n f=1) _ m k N F (H.out.keep kp) (enters Tryz.func384 (by kernel_rfl) (by kernel_rfl)) (fun n=>n≤200) HN.out (show TellsN k _ 384 #[] (fun n f=>¬ sm n f=1) (fun n=>n≤200) from fun W v n f _ hn hv=>sto1_any W v n k f hv hn hk1 hk2)).mono ?_
 rintro e w2 ⟨⟨b,rfl,hb⟩,hb2⟩
 cases b
 ·have HV:Hid (STO m N F):=⟨HM.out,fun i hi=>Classical.not_not.1 (fun hne=>by have:=hb.out.2 ⟨i,hi,hne⟩; cases this)⟩
  clear hb
  go_wp2_with fail
  go_ret
  exact ⟨Tells.yes HV.out,bel⟩
 ·have HV:Hid (¬ STO m N F):=fun h=>by
   obtain ⟨i,hi,hne⟩:=hb.out.1 rfl
   exact hne (h.2 i hi)
  clear hb
  go_wp2_with fail
  go_ret
  exact ⟨Tells.no HV.out,bel⟩
end Go.Proofs.YtbdcjhoedhhabaaGreat

