/- Contracts of the functions that the statements reach, part 30. -/
import Derived.Test.YtbdcjhoedhhabaaGreatRows
import Derived.Test.YtbdcjhoedhhabaaGreatF24
import Derived.Test.YtbdcjhoedhhabaaGreatF28
import Derived.Test.YtbdcjhoedhhabaaGreatF29
set_option linter.unusedSimpArgs false
set_option linter.unusedVariables false

/- slices.ContainsFunc at lists of lists of fractions; refinement.matrix. -/
namespace Go.Proofs.YtbdcjhoedhhabaaGreat
open Go.RowKit
attribute [local go_sem ↓] Go.wp_at_zero Go.wp_at_succ

set_option maxRecDepth 100000 in
set_option maxHeartbeats 4000000 in
theorem indexN_any (w:World) (F:Nat) (caps:Array Value) (P:Nat→(Nat→Rat)→Prop) (v:Value) (m k:Nat) (N:Nat→Nat) (f:Nat→Nat→Rat) (h:Mat k w (fun _=>False) v m N f) (hen:Enters F) (ok:Nat→Prop) (hok:∀ i,i<m→ok (N i)) (hF:TellsN k w F caps P ok) :
 Calls Tryz.prog 231 #[v, .func (Fn.func F) #[] caps] w fun e w'=>∃ r:Int,e = .returned (.int .i64 r)∧((0≤r∧∃ i,i<m∧P (N i) (f i))∨(r<0∧∀ i,i<m→¬ P (N i) (f i)))∧Below w.heap.size w w':=by
 have H:=Lib.hid h
 have HF:=Lib.hid hF
 have HOK:=Lib.hid hok
 have hen2:∀ (args:Array Value) (W:World),(callFunc F args).run Tryz.prog W = .ok (.enter F args) W:=hen
 obtain ⟨A,cap,rfl,h,l1,l2⟩:=h.op
 have lm:m≤9223372036854775807:=by unfold maxLen at l2; omega
 clear h hF hok
 go_enter Tryz.func231,Tryz.ntmps231
 go_wp2_with fail
 go_loopw [8] (fun i wr=>∃ (c:Nat),c≤m∧i = .int .i64 c∧Hid (∀ i,i<c→¬ P (N i) (f i))∧Below w.heap.size w wr) (fun i _=>m - (intOf i).toNat)
 case atStart=>exact ⟨0,by omega,rfl,Lib.hid (fun i hi=>absurd hi (by omega)),bel⟩
 case round=>
  obtain ⟨c,hc,rfl,hall,hB⟩:=hrel
  obtain ⟨wo,rfl⟩:∃ wo:World,wo=wr:=⟨_,rfl⟩
  have y5:=hB.size; (try simp only [zs] at y5)
  by_cases hlt:c<m
  ·obtain ⟨a,D,d,rfl,hab, -,hcell,hnum,l3,l4⟩:=Mat.at (Mat.keep H.out (.of_below hB)) hlt
   have k0:(0:Int)≤(c:Int):=by omega
   have k1:(c:Int)<(m:Int):=by omega
   have HLT:=Lib.hid hlt
   have HNUM:=Lib.hid hnum
   clear hnum
   go_wp2_with fail
   refine (HF.out _ _ (N c) (f c) hB (HOK.out c HLT.out) HNUM.out).mono ?_
   rintro e w2 ⟨⟨b,rfl,hb⟩,hb2⟩
   have y2:=hb2.size; (try simp only [zs] at y2)
   cases b
   ·have HGD:Hid (¬ P (N c) (f c)):=fun h=>by have:=hb.out.2 h; cases this
    clear hb
    go_wp2_with fail
    go_roundw
    case rel=>
     refine ⟨c+1,by omega,by go_num,Lib.hid (fun i hi=>?_),bel⟩
     by_cases hic:i<c
     ·exact hall.out i hic
     ·obtain rfl:i=c:=by omega
      exact HGD.out
    case measure=>simp only [intOf]; omega
   ·have HGD:Hid (P (N c) (f c)):=hb.out.1 rfl
    clear hb
    go_wp2_with fail
    go_ret
    exact ⟨_,rfl, .inl ⟨by omega,c,HLT.out,HGD.out⟩,bel⟩
  ·obtain rfl:c=m:=by omega
   go_wp2_with fail
   go_ret
   exact ⟨_,rfl, .inr ⟨by decide,hall.out⟩,hB⟩
set_option maxRecDepth 100000 in
set_option maxHeartbeats 4000000 in
theorem containsN_any (w:World) (F:Nat) (caps:Array Value) (P:Nat→(Nat→Rat)→Prop) (v:Value) (m k:Nat) (N:Nat→Nat) (f:Nat→Nat→Rat) (h:Mat k w (fun _=>False) v m N f) (hen:Enters F) (ok:Nat→Prop) (hok:∀ i,i<m→ok (N i)) (hF:TellsN k w F caps P ok) :
 Calls Tryz.prog 106 #[v, .func (Fn.func F) #[] caps] w fun e w'=>Tells (∃ i,i<m∧P (N i) (f i)) e∧Below w.heap.size w w':=by
 have H:=Lib.hid h
 have HF:=Lib.hid hF
 have HOK:=Lib.hid hok
 obtain ⟨A,cap,rfl,h,l1,l2⟩:=h.op
 clear h hF hok
 go_enter Tryz.func106,Tryz.ntmps106
 go_wp2_with fail
 refine (indexN_any _ F caps P _ m k N f H.out hen ok HOK.out HF.out).mono ?_
 rintro e w1 ⟨r,rfl,hr,hb1⟩
 have y1:=hb1.size; (try simp only [zs] at y1)
 have HR:=Lib.hid hr
 clear hr
 by_cases h0:0≤r
 ·have HV:Hid (∃ i,i<m∧P (N i) (f i)):=by
   rcases HR.out with ⟨_,h⟩ | ⟨h,_⟩
   ·exact h
   ·omega
  go_wp2_with fail
  go_ret
  exact ⟨Tells.yes HV.out,bel⟩
 ·have HV:Hid (¬ ∃ i,i<m∧P (N i) (f i)):=by
   rcases HR.out with ⟨h,_⟩ | ⟨_,h⟩
   ·omega
   ·exact fun ⟨i,hi,hp⟩=>h i hi hp
  have hd:decide (0≤r)=false:=decide_eq_false h0
  go_wp2_with fail
  go_ret
  exact ⟨by first | exact Tells.no HV.out | (simp only [hd]; exact Tells.no HV.out),bel⟩

set_option maxHeartbeats 2000000 in
theorem below0_any (w:World) (k:Nat) (v:Value) (q:Rat) (h:RatL k w (fun _=>False) v q) :
 Calls Tryz.prog 388 #[v] w fun e w'=>Tells (q<0) e∧Below w.heap.size w w':=by
 have hq:=sign_neg_iff q
 obtain ⟨n1,A,m,c,n2,B,m',d,rfl,h, -⟩:=h.op
 have HQ:Hid (q.num.sign<0↔q<0):=hq
 clear hq
 go_enter Tryz.func388,Tryz.ntmps388
 go_wp2_with fail
 refine (sign_rat _ (fun _=>False) k _ q h.to).mono ?_
 rintro e w1 ⟨rfl,hb1⟩
 have z1:=sz1 hb1
 have HQ2:=HQ.out
 generalize q.num.sign=s at *
 clear HQ
 by_cases h2:s<0
 ·have HV:Hid (q<0):=HQ2.1 h2
  clear HQ2
  go_wp2_with fail
  go_ret
  exact ⟨Tells.yes HV.out,bel⟩
 ·have HV:Hid (¬ q<0):=fun h=>h2 (HQ2.2 h)
  have hd:decide (s<0)=false:=decide_eq_false h2
  clear HQ2
  go_wp2_with fail
  go_ret
  exact ⟨by first | exact Tells.no HV.out | (simp only [hd]; exact Tells.no HV.out),bel⟩

/-- A matrix: a row, all rows of one length, at least 1, no number below zero. -/
def MX (m:Nat) (N:Nat→Nat) (F:Nat→Nat→Rat):Prop:=1≤m∧1≤N 0∧∀ i,i<m→N i=N 0∧∀ j,j<N i→¬ F i j<0
set_option maxRecDepth 100000 in
set_option maxHeartbeats 4000000 in
theorem matrix1_any (w:World) (v:Value) (n k g m cA n0 d:Nat) (f:Nat→Rat) (a0:Addr) (D:Option Addr) (h:Nums k w (fun _=>False) v n f) (hg:w.cell? ⟨g,0,none⟩=some (.slice (some a0) m cA)) (h0:w.cell? a0=some (.slice D n0 d)) (hm:0<m) :
 Calls Tryz.prog 387 #[v, .pointer (some ⟨g,0,none⟩)] w fun e w'=>Tells (n ≠ n0∨∃ j,j<n∧f j<0) e∧Below w.heap.size w w':=by
 have H:=Lib.hid h
 obtain ⟨A,cp,rfl,h,l1,l2⟩:=h.op
 have q0:(0:Int)<(m:Int):=by omega
 clear h
 by_cases hn:n=n0
 ·have d1:((n:Int) == (n0:Int))=true:=beq_iff_eq.2 (by omega)
  have d2:((n:Int) != (n0:Int))=false:=by simp only [bne,d1]; rfl
  have HN:=Lib.hid hn
  clear hn
  go_enter Tryz.func387,Tryz.ntmps387
  go_wp2_with fail
  refine (containsR_any _ 388 #[] (fun q=>q<0) _ n k f (H.out.keep kp) (enters Tryz.func388 (by kernel_rfl) (by kernel_rfl)) (show TellsR k _ 388 #[] (fun q=>q<0) from fun W v q _ hq=>below0_any W k v q hq)).mono ?_
  rintro e w1 ⟨⟨b,rfl,hb⟩,hb1⟩
  have HP:Hid (b=true↔(n ≠ n0∨∃ j,j<n∧f j<0)):=hb.out.trans ⟨fun h=> .inr h,fun h=>h.resolve_left (fun h=>h HN.out)⟩
  clear hb
  go_wp2_with fail
  go_ret
  exact ⟨⟨b,rfl,HP.out⟩,bel⟩
 ·have d1:((n:Int) == (n0:Int))=false:=beq_eq_false_iff_ne.2 (by omega)
  have d2:((n:Int) != (n0:Int))=true:=bne_iff_ne.2 (by omega)
  have HN:Hid (n ≠ n0):=hn
  clear hn
  go_enter Tryz.func387,Tryz.ntmps387
  go_wp2_with fail
  go_ret
  exact ⟨Tells.yes (.inl HN.out),bel⟩

/- refinement.matrix, refinement.whole. -/

set_option maxHeartbeats 2000000 in
theorem rwhole_any (w:World) (n:Int) (h0 : -9223372036854775808≤n) (h1:n≤9223372036854775807) :
 Calls Tryz.prog 286 #[.int .i64 n] w fun e w'=>∃ v',e = .returned v'∧RatV w' (Old w) v' (n:Rat)∧Below w.heap.size w w':=by
 have L:=made1 w #[.bool false, .slice none 0 0, .bool false, .slice none 0 0] 213
 go_enter Tryz.func286,Tryz.ntmps286
 go_wp2_with fail
 refine (ratof_any _ n 1 (by decide) h0 h1 (by decide) (by decide)).mono ?_
 rintro e w1 ⟨v1,rfl,i1,hb1⟩
 rw [divInt_int] at i1
 obtain ⟨b1,A1,m1,c1,b1',A1',m1',c1',rfl,i1, -, -⟩:=i1.op
 have z1:=sz1 hb1
 have M:=made1 w1 #[.bool b1, .slice A1 m1 c1, .bool b1', .slice A1' m1' c1'] 213
 obtain ⟨e4,g4, -⟩:=L.all (w':=w1.alloc (.cells #[.bool b1, .slice A1 m1 c1, .bool b1', .slice A1' m1' c1'] 213))
 obtain ⟨e6,g6,l6⟩:=L.all (w':=w1)
 obtain ⟨e5,g5, -⟩:=M.all (w':=w1.alloc (.cells #[.bool b1, .slice A1 m1 c1, .bool b1', .slice A1' m1' c1'] 213))
 have LF:=Loc.fill4 (u:= .bool b1) (v:= .slice A1 m1 c1) (x:= .bool b1') (y:= .slice A1' m1' c1') (L.to (w':=w1))
 obtain ⟨e8,g8, -⟩:=LF.all (w':=((((w1.setCell ⟨w.heap.size,0,none⟩ (.bool b1)).setCell ⟨w.heap.size,1,none⟩ (.slice A1 m1 c1)).setCell ⟨w.heap.size,2,none⟩ (.bool b1')).setCell ⟨w.heap.size,3,none⟩ (.slice A1' m1' c1')).alloc (.cells #[.bool b1, .slice A1 m1 c1, .bool b1', .slice A1' m1' c1'] 213))
 go_wp2_with fail
 refine bodyPost_ret (by simp [results,Tryz.results286,go_sem,e8,g8] <;> rfl) rfl ⟨_,rfl,RatV.out i1,bel⟩

set_option maxRecDepth 100000 in
set_option maxHeartbeats 4000000 in
theorem matrix_any (w:World) (v:Value) (m k:Nat) (N:Nat→Nat) (F:Nat→Nat→Rat) (h:Mat k w (fun _=>False) v m N F) :
 Calls Tryz.prog 294 #[v] w fun e w'=>Tells (MX m N F) e∧Below w.heap.size w w':=by
 have H:=Lib.hid h
 obtain ⟨A,cA,rfl,h,l1,l2⟩:=h.op
 by_cases hm:m=0
 ·subst hm
  have HV:Hid (¬ MX 0 N F):=fun h=>absurd h.1 (by decide)
  clear h
  go_enter Tryz.func294,Tryz.ntmps294
  go_wp2_with fail
  go_ret
  exact ⟨Tells.no HV.out,bel⟩
 have hpos:0<m:=by omega
 have d1:((m:Int) == 0)=false:=beq_eq_false_iff_ne.2 (by omega)
 have q0:(0:Int)<(m:Int):=by omega
 obtain ⟨a0,D,d,rfl,hab, -,hcell, -,l3,l4⟩:=Mat.at h hpos
 rw [addr_zero] at hcell
 obtain ⟨n0,hn0⟩:∃ n,N 0=n:=⟨_,rfl⟩
 have HN0:=Lib.hid hn0
 rw [hn0] at hcell l3
 have L1:=made1 w #[.slice (some a0) m cA] 70
 have hkb:Keep (fun _=>False) w (w.alloc (.cells #[.slice (some a0) m cA] 70)):=kp
 have hc1:(w.alloc (.cells #[.slice (some a0) m cA] 70)).cell? a0=_:=cell_keep hcell hab id hkb
 clear h hm hn0
 by_cases hn:n0=0
 ·subst hn
  have HV:Hid (¬ MX m N F):=fun h=>by have:=h.2.1; rw [HN0.out] at this; omega
  go_enter Tryz.func294,Tryz.ntmps294
  go_wp2_with fail
  go_ret
  exact ⟨Tells.no HV.out,bel⟩
 have d2:((n0:Int) == 0)=false:=beq_eq_false_iff_ne.2 (by omega)
 have HT:Hid (TellsN k (w.alloc (.cells #[.slice (some a0) m cA] 70)) 387 #[.pointer (some ⟨w.heap.size,0,none⟩)] (fun n f=>n ≠ n0∨∃ j,j<n∧f j<0) (fun _=>True)):=fun W v n f hW _ hv=>
  matrix1_any W v n k w.heap.size m cA n0 d f a0 D hv (Loc.cell (L1.below hW) 0) (cell_keep hcell hab id (hkb.trans (.of_below hW))) hpos
 have HW:=Lib.hid (H.out.keep hkb)
 have HMX:Hid (MX m N F↔¬ ∃ i,i<m∧(N i ≠ n0∨∃ j,j<N i∧F i j<0)):=by
  show _↔_
  unfold MX
  rw [HN0.out]
  constructor
  ·rintro ⟨_,_,h⟩ ⟨i,hi,h'⟩
   rcases h' with h' | ⟨j,hj,h'⟩
   ·exact h' (h i hi).1
   ·exact (h i hi).2 j hj h'
  ·intro h
   refine ⟨hpos,by omega,fun i hi=>⟨?_,fun j hj hneg=>h ⟨i,hi, .inr ⟨j,hj,hneg⟩⟩⟩⟩
   exact Classical.not_not.1 (fun hne=>h ⟨i,hi, .inl hne⟩)
 clear hcell hkb
 go_enter Tryz.func294,Tryz.ntmps294
 go_wp2_with fail
 refine (containsN_any _ 387 #[.pointer (some ⟨w.heap.size,0,none⟩)] (fun n f=>n ≠ n0∨∃ j,j<n∧f j<0) _ m k N F HW.out (enters Tryz.func387 (by kernel_rfl) (by kernel_rfl)) (fun _=>True) (fun _ _=>trivial) HT.out).mono ?_
 rintro e w2 ⟨⟨b,rfl,hb⟩,hb2⟩
 cases b
 ·have HV:Hid (MX m N F):=HMX.out.2 (fun h=>by have:=hb.out.2 h; cases this)
  clear hb
  go_wp2_with fail
  go_ret
  exact ⟨Tells.yes HV.out,bel⟩
 ·have HV:Hid (¬ MX m N F):=fun h=>HMX.out.1 h (hb.out.1 rfl)
  clear hb
  go_wp2_with fail
  go_ret
  exact ⟨Tells.no HV.out,bel⟩

/- checker.whole, checker.total. -/

set_option maxHeartbeats 2000000 in
theorem kwhole_any (w:World) (n:Int) (h0 : -9223372036854775808≤n) (h1:n≤9223372036854775807) :
 Calls Tryz.prog 298 #[.int .i64 n] w fun e w'=>∃ v',e = .returned v'∧RatV w' (Old w) v' (n:Rat)∧Below w.heap.size w w':=by
 have L:=made1 w #[.bool false, .slice none 0 0, .bool false, .slice none 0 0] 213
 go_enter Tryz.func298,Tryz.ntmps298
 go_wp2_with fail
 refine (ratof_any _ n 1 (by decide) h0 h1 (by decide) (by decide)).mono ?_
 rintro e w1 ⟨v1,rfl,i1,hb1⟩
 rw [divInt_int] at i1
 obtain ⟨b1,A1,m1,c1,b1',A1',m1',c1',rfl,i1, -, -⟩:=i1.op
 have z1:=sz1 hb1
 have M:=made1 w1 #[.bool b1, .slice A1 m1 c1, .bool b1', .slice A1' m1' c1'] 213
 obtain ⟨e4,g4, -⟩:=L.all (w':=w1.alloc (.cells #[.bool b1, .slice A1 m1 c1, .bool b1', .slice A1' m1' c1'] 213))
 obtain ⟨e6,g6,l6⟩:=L.all (w':=w1)
 obtain ⟨e5,g5, -⟩:=M.all (w':=w1.alloc (.cells #[.bool b1, .slice A1 m1 c1, .bool b1', .slice A1' m1' c1'] 213))
 have LF:=Loc.fill4 (u:= .bool b1) (v:= .slice A1 m1 c1) (x:= .bool b1') (y:= .slice A1' m1' c1') (L.to (w':=w1))
 obtain ⟨e8,g8, -⟩:=LF.all (w':=((((w1.setCell ⟨w.heap.size,0,none⟩ (.bool b1)).setCell ⟨w.heap.size,1,none⟩ (.slice A1 m1 c1)).setCell ⟨w.heap.size,2,none⟩ (.bool b1')).setCell ⟨w.heap.size,3,none⟩ (.slice A1' m1' c1')).alloc (.cells #[.bool b1, .slice A1 m1 c1, .bool b1', .slice A1' m1' c1'] 213))
 go_wp2_with fail
 refine bodyPost_ret (by simp [results,Tryz.results298,go_sem,e8,g8] <;> rfl) rfl ⟨_,rfl,RatV.out i1,bel⟩

/-- What total says of a channel. -/
def TOT (L:List (List Int)) (t:Int):Prop:=(VC L→t=tot L)∧(¬ VC L→t=0)
theorem TOT.no {L:List (List Int)} (h:¬ VC L):TOT L 0:=⟨fun h'=>absurd h' h,fun _=>rfl⟩

set_option maxRecDepth 100000 in
set_option maxHeartbeats 16000000 in
theorem ktotal_any (w:World) (v:Value) (L:List (List Int)) (h:IMat w v L) :
 Calls Tryz.prog 169 #[.agg #[v]] w fun e w'=>(∃ t:Int,e = .returned (.int .i64 t)∧Hid (TOT L t))∧Below w.heap.size w w':=by
 have H0:=Lib.hid h
 obtain ⟨A,cap,rfl, -,l1,l2⟩:=h.op
 obtain ⟨m,hm⟩:∃ m,L.length=m:=⟨_,rfl⟩
 have HM:=Lib.hid hm
 have H:Hid (IMat w (.slice A m cap) L):=by have h9:=H0.out; rw [hm] at h9; exact h9
 rw [hm] at l1 ⊢
 have lm:m≤9223372036854775807:=by unfold maxLen at l2; omega
 have LG:=made1 w #[.slice A m cap] 120
 obtain ⟨e1,g1, -⟩:=Loc.all LG (w':=w.alloc (.cells #[.slice A m cap] 120))
 clear h hm H0
 by_cases h1:1≤m
 case neg=>
  obtain rfl:m=0:=by omega
  have HV:Hid (TOT L 0):=TOT.no (fun h=>by have:=h.1; rw [HM.out] at this; omega)
  go_enter Tryz.func169,Tryz.ntmps169
  go_wp2_with fail
  go_ret
  exact ⟨⟨_,rfl,HV⟩,bel⟩
 have d1:decide ((m:Int)<1)=false:=decide_eq_false (by omega)
 by_cases h2:256<m
 ·have HV:Hid (TOT L 0):=TOT.no (fun h=>by have:=h.2.1; rw [HM.out] at this; omega)
  have d2:decide ((256:Int)<(m:Int))=true:=decide_eq_true (by omega)
  have d2':decide (256<m)=true:=decide_eq_true h2
  go_enter Tryz.func169,Tryz.ntmps169
  go_wp2_with fail
  go_ret
  exact ⟨⟨_,rfl,HV⟩,bel⟩
 have d2:decide ((256:Int)<(m:Int))=false:=decide_eq_false (by omega)
 have d2':decide (256<m)=false:=decide_eq_false h2
 obtain ⟨r0,he0⟩:∃ l,L[0]? = some l:=⟨_,List.getElem?_eq_getElem (by rw [HM.out]; omega)⟩
 obtain ⟨a,B0,c0,rfl,hab,hcell0, -,lc0,lm0⟩:=H.out.at he0
 rw [addr_zero] at hcell0
 obtain ⟨n0,hn0⟩:∃ n,r0.length=n:=⟨_,rfl⟩
 rw [hn0] at hcell0 lc0
 have ln0:n0≤9223372036854775807:=by unfold maxLen at lm0; omega
 have HR0:Hid (L.getD 0 [] = r0):=by show _=_; rw [List.getD_eq_getElem?_getD,he0]; rfl
 have HN0:Hid ((L.getD 0 []).length=n0):=by show _=_; rw [HR0.out]; exact hn0
 have HC0:Hid (∀ W,Below w.heap.size w W→W.cell? a=some (.slice B0 n0 c0)):=fun W hW=>cell_keep (X:=fun _=>False) hcell0 hab id (.of_below hW)
 have cz:=HC0.out _ (below1 w (.cells #[.slice (some a) m cap] 120))
 have k00:(0:Int)<(m:Int):=by omega
 clear he0 hcell0 hn0
 by_cases h3:1≤n0
 case neg=>
  obtain rfl:n0=0:=by omega
  have HV:Hid (TOT L 0):=TOT.no (fun h=>by have:=h.2.2.1; rw [HN0.out] at this; omega)
  go_enter Tryz.func169,Tryz.ntmps169
  go_wp2_with fail
  go_ret
  exact ⟨⟨_,rfl,HV⟩,bel⟩
 have d3:decide ((n0:Int)<1)=false:=decide_eq_false (by omega)
 by_cases h4:256<n0
 ·have HV:Hid (TOT L 0):=TOT.no (fun h=>by have:=h.2.2.2.1; rw [HN0.out] at this; omega)
  have d4:decide ((256:Int)<(n0:Int))=true:=decide_eq_true (by omega)
  have d4':decide (256<n0)=true:=decide_eq_true h4
  go_enter Tryz.func169,Tryz.ntmps169
  go_wp2_with fail
  go_ret
  exact ⟨⟨_,rfl,HV⟩,bel⟩
 have d4:decide ((256:Int)<(n0:Int))=false:=decide_eq_false (by omega)
 have d4':decide (256<n0)=false:=decide_eq_false h4
 have HLG:Hid (Loc (w.alloc (.cells #[.slice (some a) m cap] 120)) w.heap.size 120 #[.slice (some a) m cap]):=LG
 go_enter Tryz.func169,Tryz.ntmps169
 go_wp2_with fail
 clear e1 g1 cz LG
 go_loopw [3,38] (fun tv i wr=>∃ (c:Nat) (t:Int),c≤m∧i = .int .i64 c∧tv = .int .i64 t∧Hid ((c=0→t=0)∧(0<c→t=rsumA 0 (L.getD 0 []))∧∀ (j:Nat) (l:List Int),j<c→L[j]? = some l→l.length=(L.getD 0 []).length∧rsumA 0 l=rsumA 0 (L.getD 0 [])∧rsumA 0 l ≠ -1)∧Hid (0≤t∧t≤1048576)∧Hid (Loc wr w.heap.size 120 #[.slice (some a) m cap])∧Below w.heap.size w wr) (fun _ i _=>m - (intOf i).toNat)
 case atStart=>exact ⟨0,0,by omega,rfl,rfl,⟨fun _=>rfl,fun h=>absurd h (by omega),fun j l h=>absurd h (by omega)⟩,by show _∧_; decide,HLG,bel⟩
 case round=>
  clear HLG
  obtain ⟨c,t,hc,rfl,rfl,hall,htr,hLG,hB⟩:=hrel
  obtain ⟨wo,rfl⟩:∃ wo:World,wo=wr:=⟨_,rfl⟩
  have y5:=hB.size; (try simp only [zs] at y5)
  have HBO:=Lib.hid hB
  by_cases hlt:c<m
  ·obtain ⟨l,hl⟩:∃ l,L[c]? = some l:=⟨_,List.getElem?_eq_getElem (by rw [HM.out]; exact hlt)⟩
   obtain ⟨a',B,cb,ea,hab',hcell',hil,lcb,lmb⟩:=(H.out.keep (.of_below hB)).at hl
   injection ea with ea
   subst ea
   obtain ⟨n,hn⟩:∃ n,l.length=n:=⟨_,rfl⟩
   have HN:=Lib.hid hn
   rw [hn] at hcell' hil lcb
   have ln:n≤9223372036854775807:=by unfold maxLen at lmb; omega
   have HIL:=Lib.hid hil
   have HL:=Lib.hid hl
   have k0:(0:Int)≤(c:Int):=by omega
   have k1:(c:Int)<(m:Int):=by omega
   clear hl hn hil
   go_wp2_with fail
   clear hcell'
   go_loopw [6,45] (fun sv i wr=>∃ (j:Nat) (s:Int),j≤n∧i = .int .i64 j∧sv = .int .i64 s∧0≤s∧s≤1048576∧Hid (rsumA s (l.drop j)=rsumA 0 l)∧Hid (Loc wr w.heap.size 120 #[.slice (some a) m cap])∧Below wo.heap.size wo wr) (fun _ i _=>n - (intOf i).toNat)
   case atStart=>exact ⟨0,0,by omega,rfl,rfl,by decide,by decide,Lib.hid rfl,hLG,Below.refl _ _⟩
   case round=>
    clear hLG hB
    obtain ⟨j,s,hj,rfl,rfl,hs0,hs1,hr,hLG,hB⟩:=hrel
    obtain ⟨wp,rfl⟩:∃ wp:World,wp=wr:=⟨_,rfl⟩
    have y6:=hB.size; (try simp only [zs] at y6)
    have HBE:Hid (Below w.heap.size w wp):=HBO.out.trans (hB.mono y5)
    by_cases hlt2:j<n
    ·obtain ⟨z,hz⟩:∃ z,l[j]? = some z:=⟨_,List.getElem?_eq_getElem (by rw [HN.out]; exact hlt2)⟩
     obtain ⟨aB,rfl,hb,x0,zb1,zb2⟩:=(HIL.out.keep (.of_below hB)).at hz
     have k2:(0:Int)≤(j:Int):=by omega
     have k3:(j:Int)<(n:Int):=by omega
     have hd:=drop_at hz
     have HS:Hid ((if z<0∨1048576 - s<z then -1 else rsumA (s+z) (l.drop (j+1)))=rsumA 0 l):=by
      have h9:=hr.out
      rw [hd] at h9
      exact h9
     have HBAD:Hid (rsumA 0 l = -1→TOT L 0):=fun h=>TOT.no (fun hv=>by
      have h8:=hv.2.2.2.2.1
      have h9:=(hv.2.2.2.2.2 l (List.mem_of_getElem? HL.out)).2
      omega)
     clear hz hd hr
     by_cases hz0:z<0
     ·have HE:Hid (TOT L 0):=HBAD.out (by have h9:=HS.out; rw [if_pos (.inl hz0)] at h9; exact h9.symm)
      have d5:decide (z<0)=true:=decide_eq_true hz0
      go_wp2_with fail
      go_ret
      exact ⟨⟨_,rfl,HE⟩,HBE.out⟩
     ·have d5:decide (z<0)=false:=decide_eq_false hz0
      have hw:IntKind.i64.wrap (1048576 - s)=1048576 - s:=by rw [IntKind.wrap_i64]; omega
      by_cases hz1:1048576 - s<z
      ·have HE:Hid (TOT L 0):=HBAD.out (by have h9:=HS.out; rw [if_pos (.inr hz1)] at h9; exact h9.symm)
       have d6:decide (1048576 - s<z)=true:=decide_eq_true hz1
       go_wp2_with fail
       go_ret
       exact ⟨⟨_,rfl,HE⟩,HBE.out⟩
      ·have HE:Hid (rsumA (s+z) (l.drop (j+1))=rsumA 0 l):=by have h9:=HS.out; rw [if_neg (by omega)] at h9; exact h9
       have d6:decide (1048576 - s<z)=false:=decide_eq_false hz1
       have hw2:IntKind.i64.wrap (s+z)=s+z:=by rw [IntKind.wrap_i64]; omega
       go_wp2_with fail
       go_roundw
       case rel=>exact ⟨j+1,s+z,by omega,by go_num,by first | rfl | go_num,by omega,by omega,HE,hLG,hB⟩
       case measure=>simp only [intOf]; omega
    ·obtain rfl:j=n:=by omega
     have HE:Hid (rsumA 0 l=s):=by
      have h9:=hr.out
      rw [List.drop_eq_nil_of_le (by rw [HN.out]; exact Nat.le_refl _)] at h9
      exact h9.symm
     have cz:=HC0.out _ HBE.out
     obtain ⟨e1,g1, -⟩:=Loc.all hLG.out (w':=wp)
     clear hr
     by_cases hc0:c=0
     ·have hcc:((c:Int) == 0)=true:=beq_iff_eq.2 (by omega)
      have HLR:Hid (l=L.getD 0 []):=by
       show _=_
       have h9:=HL.out
       rw [hc0] at h9
       rw [List.getD_eq_getElem?_getD,h9]
       rfl
      obtain rfl:j=n0:=by rw [←HN.out,← HN0.out,HLR.out]
      have HNX:Hid ((c+1=0→s=0)∧(0<c+1→s=rsumA 0 (L.getD 0 []))∧∀ (i:Nat) (l:List Int),i<c+1→L[i]? = some l→l.length=(L.getD 0 []).length∧rsumA 0 l=rsumA 0 (L.getD 0 [])∧rsumA 0 l ≠ -1):=by
       refine ⟨fun h=>absurd h (by omega),fun _=>by rw [←HE.out,HLR.out],fun i l' hi hl'=>?_⟩
       obtain rfl:i=c:=by omega
       rw [HL.out] at hl'
       injection hl' with hl'
       rw [←hl']
       exact ⟨by rw [HLR.out],by rw [HLR.out],by rw [HE.out]; omega⟩
      clear hc0
      go_wp2_with fail
      go_roundw
      case rel=>exact ⟨c+1,s,by omega,by go_num,rfl,HNX,⟨hs0,hs1⟩,hLG,HBE.out⟩
      case measure=>simp only [intOf]; omega
     ·have hcc:((c:Int) == 0)=false:=beq_eq_false_iff_ne.2 (by omega)
      by_cases hn:j=n0
      case neg=>
       have HV:Hid (TOT L 0):=TOT.no (fun hv=>hn (by
        have h9:=(hv.2.2.2.2.2 l (List.mem_of_getElem? HL.out)).1
        rw [←HN.out,← HN0.out]; exact h9))
       have d7:((j:Int) == (n0:Int))=false:=beq_eq_false_iff_ne.2 (by omega)
       have d7':((j:Int) != (n0:Int))=true:=bne_iff_ne.2 (by omega)
       clear hn hc0
       go_wp2_with fail
       go_ret
       exact ⟨⟨_,rfl,HV⟩,HBE.out⟩
      have HJ:=Lib.hid hn
      have d7:((j:Int) == (n0:Int))=true:=beq_iff_eq.2 (by omega)
      have d7':((j:Int) != (n0:Int))=false:=by simp only [bne,d7]; rfl
      by_cases hst:s=t
      case neg=>
       have HV:Hid (TOT L 0):=TOT.no (fun hv=>hst (by
        have h9:=(hv.2.2.2.2.2 l (List.mem_of_getElem? HL.out)).2
        rw [←HE.out,h9]; exact (hall.out.2.1 (by omega)).symm))
       have d8:(s == t)=false:=beq_eq_false_iff_ne.2 hst
       have d8':(s != t)=true:=bne_iff_ne.2 hst
       clear hn hc0 hst
       go_wp2_with fail
       go_ret
       exact ⟨⟨_,rfl,HV⟩,HBE.out⟩
      have d8:(s == t)=true:=beq_iff_eq.2 hst
      have d8':(s != t)=false:=by simp only [bne,d8]; rfl
      have HST:=Lib.hid hst
      have HNX:Hid ((c+1=0→t=0)∧(0<c+1→t=rsumA 0 (L.getD 0 []))∧∀ (i:Nat) (l:List Int),i<c+1→L[i]? = some l→l.length=(L.getD 0 []).length∧rsumA 0 l=rsumA 0 (L.getD 0 [])∧rsumA 0 l ≠ -1):=by
       have ht:=hall.out.2.1 (by omega)
       refine ⟨fun h=>absurd h (by omega),fun _=>ht,fun i l' hi hl'=>?_⟩
       by_cases hic:i<c
       ·exact hall.out.2.2 i l' hic hl'
       obtain rfl:i=c:=by omega
       rw [HL.out] at hl'
       injection hl' with hl'
       rw [←hl']
       exact ⟨by rw [HN.out,HJ.out,HN0.out],by rw [HE.out,HST.out,ht],by rw [HE.out]; omega⟩
      clear hn hc0 hst
      go_wp2_with fail
      go_roundw
      case rel=>exact ⟨c+1,t,by omega,by go_num,rfl,HNX,htr,hLG,HBE.out⟩
      case measure=>simp only [intOf]; omega
  ·obtain rfl:c=m:=by omega
   have HV:Hid (TOT L t):=by
    show TOT _ _
    have ht:=hall.out.2.1 (by omega)
    by_cases h0:1≤t
    ·have hv:VC L:=⟨by rw [HM.out]; omega,by rw [HM.out]; omega,by rw [HN0.out]; omega,by rw [HN0.out]; omega,by rw [←ht]; exact h0,fun l hl=>by
      obtain ⟨i,hi,rfl⟩:=List.mem_iff_getElem.1 hl
      have h9:=hall.out.2.2 i _ (by rw [←HM.out]; exact hi) (List.getElem?_eq_getElem hi)
      exact ⟨h9.1,h9.2.1⟩⟩
     exact ⟨fun _=>ht,fun h=>absurd hv h⟩
    ·obtain rfl:t=0:=by have:=htr.out; omega
     exact TOT.no (fun hv=>by have:=hv.2.2.2.2.1; omega)
   go_wp2_with fail
   go_ret
   exact ⟨⟨_,rfl,HV⟩,hB⟩
end Go.Proofs.YtbdcjhoedhhabaaGreat

/- The least index rule ends: no basis comes again. -/
namespace Go.Proofs.YtbdcjhoedhhabaaGreat

/-- A tableau and its basis. -/
structure St where
 T:Nat→Nat→Rat
 b:Nat→Nat
/-- No basic value is below zero. -/
def Feas (m n:Nat) (S:St):Prop:=∀ i,i<m→0≤S.T i (n+m)
/-- The row that leaves at the unknown j. -/
def Out (m n:Nat) (S:St) (j r:Nat):Prop:=
 r<m∧0<S.T r j∧∀ i,i<m→0<S.T i j→S.T r (n+m) / S.T r j≤S.T i (n+m) / S.T i j∧(S.T r (n+m) / S.T r j=S.T i (n+m) / S.T i j→S.b r≤S.b i)
/-- The unknown that enters. -/
def In (m n:Nat) (d:Nat→Rat) (S:St) (j:Nat):Prop:=j<n∧rho m d S.T S.b j<0∧∀ c,c<j→0≤rho m d S.T S.b c
/-- One pivot. -/
def St.at (S:St) (r j:Nat):St:=⟨piv S.T r j,bup S.b r j⟩
def Bl (m n:Nat) (d:Nat→Rat) (S S':St):Prop:=∃ j r,In m n d S j∧Out m n S j r∧S'=S.at r j
/-- At most k pivots follow. -/
def Lim (m n:Nat) (d:Nat→Rat):Nat→St→Prop
 | 0,S=>∀ S',¬ Bl m n d S S'
 | k+1,S=>∀ S',Bl m n d S S'→Lim m n d k S'

section
variable {m n:Nat} {T0:Nat→Nat→Rat} {d:Nat→Rat} {S S':St}

theorem div_le_mul {a p x q:Rat} (hq:0<q) (h:a / p≤x / q):q*(a / p)≤x:=by
 have h1:0≤q*(x / q - a / p):=Rat.mul_nonneg (Rat.le_of_lt hq) (by grind)
 have h2:q*(x / q)=x:=by grind
 grind
theorem div_nonneg {a p:Rat} (ha:0≤a) (hp:0<p):0≤a / p:=by
 rw [Rat.div_def]; exact Rat.mul_nonneg ha (Rat.le_of_lt (Rat.inv_pos.mpr hp))
theorem mul_neg_nonneg {a b:Rat} (ha:a≤0) (hb:0≤b):a*b≤0:=by
 have:=Rat.mul_nonneg (a:= -a) (b:=b) (by grind) hb
 grind
theorem pos_of_mul {a b:Rat} (ha:0≤a) (h:0<a*b):0<b:=by
 by_cases hb:0<b
 ·exact hb
 ·have:=Rat.mul_nonneg (a:=a) (b:= -b) ha (by grind)
  exact absurd h (by grind)

theorem Feas.at (hF:Feas m n S) {j r:Nat} (h:Out m n S j r):Feas m n (S.at r j):=fun i hi=>by
 obtain ⟨hr,hp,ho⟩:=h
 show 0≤piv S.T r j i (n+m)
 have hq:=div_nonneg (hF r hr) hp
 unfold piv
 by_cases hir:i=r
 ·rw [if_pos hir]; exact hq
 ·rw [if_neg hir]
  by_cases hij:0<S.T i j
  ·have:=div_le_mul hij (ho i hi hij).1
   grind
  ·have:=mul_neg_nonneg (a:=S.T i j) (by grind) hq
   have:=hF i hi
   grind

theorem Good.at (G:Good m n T0 S.T S.b) {j r:Nat} (hj:j<n) (h:Out m n S j r):Good m n T0 (S.at r j).T (S.at r j).b:=
 G.pvt h.1 (by omega) (by have:=h.2.1; grind)

theorem around (P:Nat→Prop) (k:Nat) (hs:∀ t,t<k→P t→P (t+1)) (h0:P k→P 0) {t1 t2:Nat} (h1:t1≤k) (h2:t2≤k) (h:P t1):P t2:=by
 have up:∀ j t,t+j≤k→P t→P (t+j):=fun j=>by
  induction j with
  | zero=>intro t _ h; exact h
  | succ j ih=>intro t hk h; exact hs (t+j) (by omega) (ih t (by omega) h)
 have hk:P k:=by have:=up (k - t1) t1 (by omega) h; rwa [show t1+(k - t1)=k by omega] at this
 have:=up t2 0 (by omega) (h0 hk)
 rwa [Nat.zero_add] at this

theorem most (f:Nat→Nat):∀ k,0<k→∃ t,t<k∧∀ u,u<k→f u≤f t
 | 0,h=>by omega
 | 1,_=>⟨0,by omega,fun u hu=>by rw [show u=0 by omega]; exact Nat.le_refl _⟩
 | k + 2, _ => by
   obtain ⟨t,ht,h⟩:=most f (k+1) (by omega)
   by_cases hk:f (k+1)≤f t
   ·exact ⟨t,by omega,fun u hu=>if e:u=k+1 then by rw [e]; exact hk else h u (by omega)⟩
   ·exact ⟨k+1,by omega,fun u hu=>if e:u=k+1 then by rw [e]; exact Nat.le_refl _ else by have:=h u (by omega); omega⟩

theorem climb (f:Nat→Rat) (k:Nat) (h:∀ t,t<k→f t≤f (t+1)) (he:f k=f 0):∀ t,t<k→f (t+1)=f t:=by
 have up:∀ j t,t+j≤k→f t≤f (t+j):=fun j=>by
  induction j with
  | zero=>intro t _; exact Rat.le_refl
  | succ j ih=>intro t hk; exact Rat.le_trans (ih t (by omega)) (h (t+j) (by omega))
 intro t ht
 have h1:=up t 0 (by omega)
 have h2:=h t ht
 have h3:=up (k - (t+1)) (t+1) (by omega)
 rw [show t+1+(k - (t+1))=k by omega] at h3
 rw [Nat.zero_add] at h1
 grind

theorem bland_cycle (k:Nat) (hk:0<k) (s:Nat→St) (hG0:Good m n T0 (s 0).T (s 0).b) (hF0:Feas m n (s 0)) (hs:∀ t,t<k→Bl m n d (s t) (s (t+1))) (hb:∀ i,i<m→(s k).b i=(s 0).b i):False:=by
 have hx:∀ t,∃ j,∃ r,t<k→In m n d (s t) j∧Out m n (s t) j r∧s (t+1)=(s t).at r j:=fun t=>by
  by_cases ht:t<k
  ·obtain ⟨j,r,h⟩:=hs t ht; exact ⟨j,r,fun _=>h⟩
  ·exact ⟨0,0,fun h=>absurd h ht⟩
 obtain ⟨J,hJ⟩:=Classical.axiomOfChoice hx
 obtain ⟨R,hR⟩:=Classical.axiomOfChoice hJ
 have hGF:∀ t,t≤k→Good m n T0 (s t).T (s t).b∧Feas m n (s t):=fun t=>by
  induction t with
  | zero=>exact fun _=>⟨hG0,hF0⟩
  | succ t ih =>
    intro ht
    obtain ⟨g,f⟩:=ih (by omega)
    obtain ⟨h1,h2,h3⟩:=hR t (by omega)
    rw [h3]
    exact ⟨g.at h1.1 h2,f.at h2⟩
 have hTk:∀ i,i<m→(s k).T i (n+m)=(s 0).T i (n+m):=fun i hi=>(hGF k (Nat.le_refl _)).1.uniq hG0 hb hi (Nat.le_refl _)
 have hstep:∀ t,t<k→rho m d (s (t+1)).T (s (t+1)).b (n+m)=rho m d (s t).T (s t).b (n+m) - rho m d (s t).T (s t).b (J t)*((s t).T (R t) (n+m) / (s t).T (R t) (J t)):=fun t ht=>by
  obtain ⟨h1,h2,h3⟩:=hR t ht
  rw [h3]
  exact rho_piv d h2.1 (by have:=h2.2.1; grind) (n+m)
 have hq:∀ t,t<k→0≤(s t).T (R t) (n+m) / (s t).T (R t) (J t):=fun t ht=>by
  obtain ⟨h1,h2,h3⟩:=hR t ht
  exact div_nonneg ((hGF t (by omega)).2 _ h2.1) h2.2.1
 have hconst:=climb (fun t=>rho m d (s t).T (s t).b (n+m)) k (fun t ht=>by
  have h1:=mul_neg_nonneg (Rat.le_of_lt (hR t ht).1.2.1) (hq t ht)
  have h2:=hstep t ht
  grind) (by
   unfold rho
   rw [sm_congr (fun i hi=>by rw [hb i hi,hTk i hi])])
 have hZ:∀ t,t<k→(s t).T (R t) (n+m)=0:=fun t ht=>by
  have h1:=hstep t ht
  have h2:=hconst t ht
  have h3:=(hR t ht).1.2.1
  have h4:=(hR t ht).2.1.2.1
  have h5:rho m d (s t).T (s t).b (J t)*((s t).T (R t) (n+m) / (s t).T (R t) (J t))=0:=by grind
  have h6:(s t).T (R t) (n+m) / (s t).T (R t) (J t)=0:=by
   rcases Rat.mul_eq_zero.1 h5 with h | h
   ·exact absurd h3 (by grind)
   ·exact h
  grind
 have hT1:∀ t,t<k→∀ i,i<m→(s (t+1)).T i (n+m)=(s t).T i (n+m):=fun t ht i hi=>by
  have h1:=hZ t ht
  rw [(hR t ht).2.2]
  show piv _ _ _ _ _=_
  unfold piv
  by_cases hir:i=R t
  ·rw [if_pos hir,h1,hir,h1]; grind
  ·rw [if_neg hir,h1]; grind
 have hB1:∀ t,t<k→∀ i,(s (t+1)).b i=if i=R t then J t else (s t).b i:=fun t ht i=>by rw [(hR t ht).2.2]; rfl
 -- the greatest unknown that enters
 obtain ⟨t1,ht1,hmax⟩:=most J k hk
 have hnb:∀ i,i<m→(s t1).b i ≠ J t1:=fun i hi he=>by
  have h1:=(hGF t1 (by omega)).1.rho_basic (d:=d) hi
  rw [he] at h1
  have:=(hR t1 ht1).1.2.1
  grind
 -- it leaves
 obtain ⟨t2,ht2,hlv⟩:∃ t,t<k∧(s t).b (R t)=J t1:=by
  refine Classical.byContradiction fun hno=>?_
  have:=around (fun t=>∃ i,i<m∧(s t).b i=J t1) k (fun t ht ⟨i,hi,he⟩=>⟨i,hi,by
   rw [hB1 t ht i]
   by_cases hir:i=R t
   ·exact absurd ⟨t,ht,by rw [←hir]; exact he⟩ hno
   ·rw [if_neg hir]; exact he⟩) (fun ⟨i,hi,he⟩=>⟨i,hi,by rw [←hb i hi]; exact he⟩) (t1:=t1+1) (t2:=t1) (by omega) (by omega) ⟨R t1,(hR t1 ht1).2.1.1,by rw [hB1 t1 ht1,if_pos rfl]⟩
  obtain ⟨i,hi,he⟩:=this
  exact hnb i hi he
 have G1:=(hGF t1 (by omega)).1
 have G2:=(hGF t2 (by omega)).1
 obtain ⟨hin,hou, -⟩:=hR t2 ht2
 have hs1:J t2 ≠ J t1:=fun he=>by
  have h1:=G2.rho_basic (d:=d) hou.1
  rw [hlv,← he] at h1
  have:=hin.2.1
  grind
 have hs2:J t2<J t1:=by have:=hmax t2 ht2; omega
 have hc1:=(hR t1 ht1).1.2.2 (J t2) hs2
 have hrel:=Good.rho2 (d:=d) G1 G2 (c:=J t2) (by have:=hin.1; omega)
 obtain ⟨i,hi,hpos⟩:=sm_pos (m:=m) (f:=fun i=>rho m d (s t1).T (s t1).b ((s t2).b i)*(s t2).T i (J t2)) (by have:=hin.2.1; grind)
 have hnb2:∀ i',i'<m→(s t1).b i' ≠ (s t2).b i:=fun i' hi' he=>by
  have h1:=G1.rho_basic (d:=d) hi'
  rw [he] at h1
  rw [h1] at hpos
  grind
 obtain ⟨t3,ht3,hen⟩:∃ t,t<k∧J t=(s t2).b i:=by
  refine Classical.byContradiction fun hno=>?_
  have:=around (fun t=>∀ i',i'<m→(s t).b i' ≠ (s t2).b i) k (fun t ht h i' hi'=>by
   rw [hB1 t ht i']
   by_cases hir:i'=R t
   ·rw [if_pos hir]; exact fun he=>hno ⟨t,ht,he⟩
   ·rw [if_neg hir]; exact h i' hi') (fun h i' hi'=>by rw [←hb i' hi']; exact h i' hi') (t1:=t1) (t2:=t2) (by omega) (by omega) hnb2
  exact this i hi rfl
 have hle:(s t2).b i≤J t1:=by rw [←hen]; exact hmax t3 ht3
 have hne:(s t2).b i ≠ J t1:=fun he=>by
  have hir:=G2.inj hi hou.1 (he.trans hlv.symm)
  have h1:=(hR t1 ht1).1.2.1
  rw [he,hir] at hpos
  have h3:=mul_neg_nonneg (Rat.le_of_lt h1) (Rat.le_of_lt hou.2.1)
  grind
 have hc2:=(hR t1 ht1).1.2.2 ((s t2).b i) (by omega)
 have hTp:=pos_of_mul hc2 hpos
 have hv0:=around (fun t=>∀ i',i'<m→(s t).b i'=(s t2).b i→(s t).T i' (n+m)=0) k (fun t ht h i' hi' he=>by
  rw [hB1 t ht i'] at he
  rw [hT1 t ht i' hi']
  by_cases hir:i'=R t
  ·rw [hir]; exact hZ t ht
  ·rw [if_neg hir] at he; exact h i' hi' he) (fun h i' hi' he=>by rw [←hTk i' hi']; exact h i' hi' (by rw [hb i' hi']; exact he)) (t1:=t1) (t2:=t2) (by omega) (by omega) (fun i' hi' he=>absurd he (hnb2 i' hi'))
 have hz2:=hv0 i hi rfl
 have:=(hou.2.2 i hi hTp).2 (by rw [hz2,hZ t2 ht2]; grind)
 rw [hlv] at this
 omega

theorem pig:∀ (N:Nat) (f:Nat→Nat),(∀ i,i≤N→f i<N)→∃ i j,i<j∧j≤N∧f i=f j
 | 0,f,h=>absurd (h 0 (by omega)) (by omega)
 | N + 1, f, h => by
   by_cases hv:∃ i,i≤N∧f i=f (N+1)
   ·obtain ⟨i,hi,he⟩:=hv; exact ⟨i,N+1,by omega,by omega,he⟩
   ·have hv':∀ i,i≤N→f i ≠ f (N+1):=fun i hi he=>hv ⟨i,hi,he⟩
    obtain ⟨i,j,hij,hj,he⟩:=pig N (fun i=>if f i=N then f (N+1) else f i) (fun i hi=>by
     have h1:=hv' i hi
     have h2:=h i (by omega)
     have h3:=h (N+1) (by omega)
     split <;> omega)
    refine ⟨i,j,hij,by omega,?_⟩
    have h1:=hv' i (by omega)
    have h2:=hv' j (by omega)
    split at he <;> split at he <;> omega

/-- A basis as a number. -/
def enc (B:Nat) (b:Nat→Nat):Nat→Nat
 | 0=>0
 | m+1=>enc B b m*B+b m
theorem enc_lt (B:Nat) (b:Nat→Nat):∀ m,(∀ i,i<m→b i<B)→enc B b m<B ^ m
 | 0,_=>by simp [enc]
 | m + 1, h => by
   unfold enc
   have h1:=enc_lt B b m (fun i hi=>h i (by omega))
   have h2:=h m (by omega)
   have h3:(enc B b m+1)*B≤B ^ m*B:=Nat.mul_le_mul_right B h1
   rw [Nat.pow_succ]
   rw [Nat.add_mul] at h3
   omega
theorem enc_inj (B:Nat) (b b':Nat→Nat):∀ m,(∀ i,i<m→b i<B)→(∀ i,i<m→b' i<B)→enc B b m=enc B b' m→∀ i,i<m→b i=b' i
 | 0,_,_,_,i,hi=>by omega
 | m + 1, h, h', he, i, hi => by
   unfold enc at he
   have h2:=h m (by omega)
   have h3:=h' m (by omega)
   have e1:b m=b' m:=by
    have:=congrArg (· % B) he
    rwa [Nat.mul_comm,Nat.mul_add_mod,Nat.mul_comm,Nat.mul_add_mod,Nat.mod_eq_of_lt h2,Nat.mod_eq_of_lt h3] at this
   have e2:enc B b m=enc B b' m:=by
    rw [e1] at he
    exact Nat.eq_of_mul_eq_mul_right (show 0<B by omega) (by omega)
   by_cases hm:i=m
   ·rw [hm]; exact e1
   ·exact enc_inj B b b' m (fun i hi=>h i (by omega)) (fun i hi=>h' i (by omega)) e2 i (by omega)

theorem chain_of:∀ (N:Nat) (S:St),¬ Lim m n d N S→∃ s:Nat→St,s 0=S∧∀ t,t≤N→Bl m n d (s t) (s (t+1))
 | 0, S, h => by
   unfold Lim at h
   obtain ⟨S',hS⟩:=Classical.not_forall.1 h
   refine ⟨fun t=>if t=0 then S else S',rfl,fun t ht=>?_⟩
   obtain rfl:t=0:=by omega
   exact Classical.not_not.1 hS
 | N + 1, S, h => by
   unfold Lim at h
   obtain ⟨S',hS⟩:=Classical.not_forall.1 h
   obtain ⟨hb,hl⟩:=Classical.not_imp.1 hS
   obtain ⟨s,h0,hs⟩:=chain_of N S' hl
   refine ⟨fun t=>match t with | 0=>S | t+1=>s t,rfl,fun t ht=>?_⟩
   match t with
   | 0=>show Bl m n d S (s 0); rw [h0]; exact hb
   | t+1=>exact hs t (by omega)

/-- The rule ends. -/
theorem bland (G:Good m n T0 S.T S.b) (hF:Feas m n S):Lim m n d ((n+m) ^ m) S:=by
 refine Classical.byContradiction fun h=>?_
 obtain ⟨s,h0,hs⟩:=chain_of _ S h
 have hGF:∀ t,t≤(n+m) ^ m→Good m n T0 (s t).T (s t).b∧Feas m n (s t):=fun t=>by
  induction t with
  | zero=>intro _; rw [h0]; exact ⟨G,hF⟩
  | succ t ih =>
    intro ht
    obtain ⟨g,f⟩:=ih (by omega)
    obtain ⟨j,r,h1,h2,h3⟩:=hs t (by omega)
    rw [h3]
    exact ⟨g.at h1.1 h2,f.at h2⟩
 obtain ⟨i,j,hij,hj,he⟩:=pig ((n+m) ^ m) (fun t=>enc (n+m) (s t).b m) (fun t ht=>enc_lt _ _ m (hGF t ht).1.lt)
 have hb:=enc_inj (n+m) _ _ m (hGF i (by omega)).1.lt (hGF j hj).1.lt he
 refine bland_cycle (m:=m) (n:=n) (T0:=T0) (d:=d) (j - i) (by omega) (fun t=>s (i+t)) (hGF i (by omega)).1 (hGF i (by omega)).2 (fun t ht=>hs (i+t) (by omega)) (fun a ha=>?_)
 rw [show i+(j - i)=j by omega]
 exact (hb a ha).symm
end
end Go.Proofs.YtbdcjhoedhhabaaGreat

