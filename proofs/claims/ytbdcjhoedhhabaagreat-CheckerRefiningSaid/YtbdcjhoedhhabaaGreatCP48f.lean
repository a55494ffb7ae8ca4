/- For every input the law returns true: the law's walk, and the statement out of it. -/
import Derived.Test.YtbdcjhoedhhabaaGreatRows
import Derived.Test.YtbdcjhoedhhabaaGreatF17
import Derived.Test.YtbdcjhoedhhabaaGreatF26
import Derived.Test.YtbdcjhoedhhabaaGreatF28
import Derived.Test.YtbdcjhoedhhabaaGreatF39
import Derived.Test.YtbdcjhoedhhabaaGreatF49
import Derived.Test.YtbdcjhoedhhabaaGreatF50
set_option linter.unusedSimpArgs false
set_option linter.unusedVariables false

/- CheckerRefining: the law's walk. -/
namespace Go.Proofs.YtbdcjhoedhhabaaGreat
open Go.RowKit
attribute [local go_sem ↓] Go.wp_at_zero Go.wp_at_succ

theorem sz_of_small {L1 L2:List (List Int)} (h1:∀ x y,x<L1.length→y<wid L1→tot L2*en L1 x y≤1099511627776) (h2:∀ x z,x<L1.length→z<wid L2→tot L1*en L2 x z≤1099511627776) (hM:neq L1 L2≤30):SZ L1 L2:=fun _ _ _ _ _=>
 ⟨1099511627776,by decide,h1,h2,by
  refine pow_bits (e:=46) (k:=44) ?_ (by omega)
  have:2*((neq L1 L2+1)*1099511627776)≤2*(31*1099511627776):=Nat.mul_le_mul_left 2 (Nat.mul_le_mul_right _ (by omega))
  exact Nat.le_trans this (by decide)⟩
theorem sz_few {L1 L2:List (List Int)} (h1:L1.length≤5) (h2:∀ l∈L1,l.length≤5) (h3:L2.length≤5) (h4:∀ l∈L2,l.length≤5):SZ L1 L2:=fun v1 v2 hl hnk hM=>by
 have hw1:wid L1≤5:=h2 _ (getD_mem v1.1)
 have hw2:wid L2≤5:=h4 _ (getD_mem v2.1)
 refine sz_of_small (fun x y hx hy=>?_) (fun x z hx hz=>?_) ?_ v1 v2 hl hnk hM
 ·obtain ⟨_,_,_,a⟩:=v1.en hx hy
  exact (mul40 v2.tot a).2
 ·obtain ⟨_,_,_,a⟩:=v2.en (show x<L2.length by omega) hz
  exact (mul40 v1.tot a).2
 ·unfold neq
  have:L1.length*wid L2≤5*5:=Nat.mul_le_mul h1 hw2
  omega
theorem wid_few {L:List (List Int)} (h:∀ l∈L,l.length≤5):wid L≤5:=by
 unfold wid
 by_cases h0:0<L.length
 ·exact h _ (getD_mem h0)
 ·have:L = []:=List.eq_nil_of_length_eq_zero (by omega)
  subst this
  exact Nat.zero_le _
theorem lens_few {M:List (List RF)} (h:TK 6 M):∀ i,i<M.length→lens M i≤200:=fun i hi=>by
 rw [lens_get (List.getElem?_eq_getElem hi)]
 have:=(h _ (List.getElem_mem hi)).1
 omega

set_option maxHeartbeats 4000000 in
theorem lwide_any (w:World) (A:Option Addr) (n c:Nat) :
 Calls Tryz.prog 59 (#[.slice A n c] ++ #[]) w fun e w'=>Tells (5<n) e∧Below w.heap.size w w':=by
 by_cases h:5<n
 ·have H:=Lib.hid h
  have d1:decide ((5:Int)<(n:Int))=true:=decide_eq_true (by omega)
  have d2:decide (5<n)=true:=decide_eq_true h
  clear h
  go_enter Tryz.func59,Tryz.ntmps59
  go_wp2_with fail
  go_ret
  exact ⟨by first | exact Tells.yes H.out | (rw [d1]; exact Tells.yes H.out),bel⟩
 ·have H:Hid (¬ 5<n):=h
  have d1:decide ((5:Int)<(n:Int))=false:=decide_eq_false (by omega)
  have d2:decide (5<n)=false:=decide_eq_false h
  clear h
  go_enter Tryz.func59,Tryz.ntmps59
  go_wp2_with fail
  go_ret
  exact ⟨by first | exact Tells.no H.out | (rw [d1]; exact Tells.no H.out),bel⟩

set_option maxRecDepth 100000 in
set_option maxHeartbeats 32000000 in
theorem refining48_walk (w:World) (v1 v2 vw vg:Value) (b:Bool) (L1 L2:List (List Int)) (M1 M2:List (List RF)) (h1:IMat w v1 L1) (h2:IMat w v2 L2) (h3:RMat w vw M1) (h4:RMat w vg M2) :
 Calls Tryz.prog 13 #[.agg #[v1], .agg #[v2], .agg #[.bool b,vw,vg]] w fun e w'=>e = .returned (.bool true)∧Below w.heap.size w w':=by
 have H10:=Lib.hid h1
 have H20:=Lib.hid h2
 have H30:=Lib.hid h3
 have H40:=Lib.hid h4
 obtain ⟨A1,c1,rfl, -,la1,la2⟩:=h1.op
 obtain ⟨A2,c2,rfl, -,lb1,lb2⟩:=h2.op
 obtain ⟨A,cA,rfl, -,l1,l2⟩:=h3.op
 obtain ⟨A',cA',rfl, -,l1',l2'⟩:=h4.op
 obtain ⟨r,hr⟩:∃ r,L1.length=r:=⟨_,rfl⟩
 obtain ⟨s,hs⟩:∃ s,L2.length=s:=⟨_,rfl⟩
 obtain ⟨m,hm⟩:∃ m,M1.length=m:=⟨_,rfl⟩
 obtain ⟨n,hn⟩:∃ n,M2.length=n:=⟨_,rfl⟩
 have HR:=Lib.hid hr
 have HS:=Lib.hid hs
 have HM:=Lib.hid hm
 have HN:=Lib.hid hn
 have HI1:Hid (IMat w (.slice A1 r c1) L1):=by have h9:=H10.out; rw [hr] at h9; exact h9
 have HI2:Hid (IMat w (.slice A2 s c2) L2):=by have h9:=H20.out; rw [hs] at h9; exact h9
 have HI3:Hid (RMat w (.slice A m cA) M1):=by have h9:=H30.out; rw [hm] at h9; exact h9
 have HI4:Hid (RMat w (.slice A' n cA') M2):=by have h9:=H40.out; rw [hn] at h9; exact h9
 rw [hr,hs,hm,hn]
 obtain ⟨w0,hw0⟩:∃ W,((w.alloc (.cells #[.slice A1 r c1] 120)).alloc (.cells #[.slice A2 s c2] 120)).alloc (.cells #[.bool b, .slice A m cA, .slice A' n cA'] 122)=W:=⟨_,rfl⟩
 have HW0:=Lib.hid hw0
 have L0:Loc w0 w.heap.size 120 #[.slice A1 r c1]:=by rw [←hw0]; exact Loc.alloc (Loc.alloc (made1 w _ _) _) _
 have M0:Loc w0 (w.heap.size+1) 120 #[.slice A2 s c2]:=by rw [←hw0]; exact Loc.alloc (made2 w _ _ _) _
 have N0:Loc w0 (w.heap.size+1+1) 122 #[.bool b, .slice A m cA, .slice A' n cA']:=by rw [←hw0]; exact made3 w _ _ _ _
 have HB0:Hid (Below w.heap.size w w0):=by show Below _ _ _; rw [←hw0]; exact bel
 have hs0:w.heap.size+1+1<w0.heap.size:=N0.lt
 have HLM:Hid (∀ W,Below w0.heap.size w0 W→(W.cell? ⟨w.heap.size,0,none⟩=some (.slice A1 r c1)∧W.cell? ⟨w.heap.size+1,0,none⟩=some (.slice A2 s c2))∧(W.cell? ⟨w.heap.size+1+1,0,none⟩=some (.bool b)∧W.cell? ⟨w.heap.size+1+1,1,none⟩=some (.slice A m cA))∧W.cell? ⟨w.heap.size+1+1,2,none⟩=some (.slice A' n cA')):=fun W hW=>
  ⟨⟨Loc.cell (L0.below hW) 0,Loc.cell (M0.below hW) 0⟩,⟨Loc.cell (N0.below hW) 0,Loc.cell (N0.below hW) 1⟩,Loc.cell (N0.below hW) 2⟩
 have H1:Hid (IMat w0 (.slice A1 r c1) L1):=HI1.out.keep (.of_below HB0.out)
 have H2:Hid (IMat w0 (.slice A2 s c2) L2):=HI2.out.keep (.of_below HB0.out)
 have H3:Hid (RMat w0 (.slice A m cA) M1):=HI3.out.keep (.of_below HB0.out)
 have H4:Hid (RMat w0 (.slice A' n cA') M2):=HI4.out.keep (.of_below HB0.out)
 have HBW:Hid (∀ W,Below w0.heap.size w0 W→Below w.heap.size w W):=fun W hW=>HB0.out.trans (hW.mono (by omega))
 clear hr hs hm hn h1 h2 h3 h4 H10 H20 H30 H40 HI1 HI2 HI3 HI4 hw0 L0 M0 N0 la1 la2 lb1 lb2 l1 l2 l1' l2'
 go_enter Tryz.func13,Tryz.ntmps13
 go_wp2_with (rw [HW0.out])
 refine (known48_any _).mono ?_
 rintro e w1 ⟨rfl,hb1⟩
 have y1:=hb1.size; (try simp only [zs] at y1)
 obtain ⟨⟨c01,c02⟩,⟨c03,c04⟩,c05⟩:=HLM.out w1 hb1
 have q1:w.heap.size<w1.heap.size:=by omega
 have q2:w.heap.size+1<w1.heap.size:=by omega
 have q3:w.heap.size+1+1<w1.heap.size:=by omega
 by_cases h5:5<r
 ·have d1:decide ((5:Int)<(r:Int))=true:=decide_eq_true (by omega)
  have d2:decide (5<r)=true:=decide_eq_true h5
  clear h5
  go_wp2_with fail
  go_ret
  exact ⟨rfl,HBW.out _ hb1⟩
 have d1:decide ((5:Int)<(r:Int))=false:=decide_eq_false (by omega)
 have d2:decide (5<r)=false:=decide_eq_false h5
 by_cases h6:5<s
 ·have d3:decide ((5:Int)<(s:Int))=true:=decide_eq_true (by omega)
  have d4:decide (5<s)=true:=decide_eq_true h6
  clear h5 h6
  go_wp2_with fail
  go_ret
  exact ⟨rfl,HBW.out _ hb1⟩
 have d3:decide ((5:Int)<(s:Int))=false:=decide_eq_false (by omega)
 have d4:decide (5<s)=false:=decide_eq_false h6
 have HL1:Hid (L1.length≤5):=by show _≤_; rw [HR.out]; omega
 have HL2:Hid (L2.length≤5):=by show _≤_; rw [HS.out]; omega
 clear h5 h6
 go_wp2_with fail
 refine (containsI_any _ 59 #[] (fun l=>5<l.length) _ L1 (H1.out.keep (.of_below hb1)) (enters Tryz.func59 (by kernel_rfl) (by kernel_rfl)) (show TellsI _ 59 #[] (fun l=>5<l.length) L1 from fun W A c l _ _ _=>lwide_any W A l.length c)).mono ?_
 rintro e w2 ⟨⟨x,rfl,hx⟩,hb2⟩
 have hb2:Below w0.heap.size w0 w2:=hb1.trans (hb2.mono y1)
 have y2:=hb2.size; (try simp only [zs] at y2)
 clear c01 c02 c03 c04 c05 q1 q2 q3 hb1 y1
 obtain ⟨⟨c01,c02⟩,⟨c03,c04⟩,c05⟩:=HLM.out w2 hb2
 have q1:w.heap.size<w2.heap.size:=by omega
 have q2:w.heap.size+1<w2.heap.size:=by omega
 have q3:w.heap.size+1+1<w2.heap.size:=by omega
 cases x
 case true=>
  clear hx
  go_wp2_with fail
  go_ret
  exact ⟨rfl,HBW.out _ hb2⟩
 have HF1:Hid (∀ l∈L1,l.length≤5):=fun l hl=>Classical.byContradiction fun h=>by
  have:=hx.out.2 ⟨l,hl,by omega⟩
  cases this
 clear hx
 go_wp2_with fail
 refine (containsI_any _ 59 #[] (fun l=>5<l.length) _ L2 (H2.out.keep (.of_below hb2)) (enters Tryz.func59 (by kernel_rfl) (by kernel_rfl)) (show TellsI _ 59 #[] (fun l=>5<l.length) L2 from fun W A c l _ _ _=>lwide_any W A l.length c)).mono ?_
 rintro e w3 ⟨⟨x,rfl,hx⟩,hb3⟩
 have hb3:Below w0.heap.size w0 w3:=hb2.trans (hb3.mono y2)
 have y3:=hb3.size; (try simp only [zs] at y3)
 clear c01 c02 c03 c04 c05 q1 q2 q3 hb2 y2
 obtain ⟨⟨c01,c02⟩,⟨c03,c04⟩,c05⟩:=HLM.out w3 hb3
 have q1:w.heap.size<w3.heap.size:=by omega
 have q2:w.heap.size+1<w3.heap.size:=by omega
 have q3:w.heap.size+1+1<w3.heap.size:=by omega
 cases x
 case true=>
  clear hx
  go_wp2_with fail
  go_ret
  exact ⟨rfl,HBW.out _ hb3⟩
 have HF2:Hid (∀ l∈L2,l.length≤5):=fun l hl=>Classical.byContradiction fun h=>by
  have:=hx.out.2 ⟨l,hl,by omega⟩
  cases this
 clear hx
 by_cases h5:6<m
 ·have d5:decide ((6:Int)<(m:Int))=true:=decide_eq_true (by omega)
  have d6:decide (6<m)=true:=decide_eq_true h5
  clear h5
  go_wp2_with fail
  go_ret
  exact ⟨rfl,HBW.out _ hb3⟩
 have d5:decide ((6:Int)<(m:Int))=false:=decide_eq_false (by omega)
 have d6:decide (6<m)=false:=decide_eq_false h5
 by_cases h6:6<n
 ·have d7:decide ((6:Int)<(n:Int))=true:=decide_eq_true (by omega)
  have d8:decide (6<n)=true:=decide_eq_true h6
  clear h5 h6
  go_wp2_with fail
  go_ret
  exact ⟨rfl,HBW.out _ hb3⟩
 have d7:decide ((6:Int)<(n:Int))=false:=decide_eq_false (by omega)
 have d8:decide (6<n)=false:=decide_eq_false h6
 have hm6:m≤6:=by omega
 have hn6:n≤6:=by omega
 clear h5 h6
 go_wp2_with fail
 refine (rats_any _ 6 _ M1 (H3.out.keep (.of_below hb3)) (by decide) (by rw [HM.out]; omega)).mono ?_
 rintro e w4 ⟨⟨x,rfl,hx⟩,hb4⟩
 have hb4:Below w0.heap.size w0 w4:=hb3.trans (hb4.mono y3)
 have y4:=hb4.size; (try simp only [zs] at y4)
 clear c01 c02 c03 c04 c05 q1 q2 q3 hb3 y3
 obtain ⟨⟨c01,c02⟩,⟨c03,c04⟩,c05⟩:=HLM.out w4 hb4
 have q1:w.heap.size<w4.heap.size:=by omega
 have q2:w.heap.size+1<w4.heap.size:=by omega
 have q3:w.heap.size+1+1<w4.heap.size:=by omega
 cases x
 case false=>
  clear hx
  go_wp2_with fail
  go_ret
  exact ⟨rfl,HBW.out _ hb4⟩
 have HT1:Hid (TK 6 M1):=hx.out.1 rfl
 clear hx
 go_wp2_with fail
 refine (rats_any _ 6 _ M2 (H4.out.keep (.of_below hb4)) (by decide) (by rw [HN.out]; omega)).mono ?_
 rintro e w5 ⟨⟨x,rfl,hx⟩,hb5⟩
 have hb5:Below w0.heap.size w0 w5:=hb4.trans (hb5.mono y4)
 have y5:=hb5.size; (try simp only [zs] at y5)
 clear c01 c02 c03 c04 c05 q1 q2 q3 hb4 y4
 obtain ⟨⟨c01,c02⟩,⟨c03,c04⟩,c05⟩:=HLM.out w5 hb5
 have q1:w.heap.size<w5.heap.size:=by omega
 have q2:w.heap.size+1<w5.heap.size:=by omega
 have q3:w.heap.size+1+1<w5.heap.size:=by omega
 cases x
 case false=>
  clear hx
  go_wp2_with fail
  go_ret
  exact ⟨rfl,HBW.out _ hb5⟩
 have HT2:Hid (TK 6 M2):=hx.out.1 rfl
 clear hx
 have HMA:Hid (∀ W,Below w0.heap.size w0 W→Mat 2 W (fun _=>False) (.slice A m cA) m (lens M1) (qm M1)):=fun W hW=>by
  have h9:=(H3.out.keep (.of_below hW)).mat (fun i l hl j e he=>(HT1.out l (List.mem_of_getElem? hl)).2 e (List.mem_of_getElem? he))
  rw [HM.out] at h9
  exact h9
 have HMB:Hid (∀ W,Below w0.heap.size w0 W→Mat 2 W (fun _=>False) (.slice A' n cA') n (lens M2) (qm M2)):=fun W hW=>by
  have h9:=(H4.out.keep (.of_below hW)).mat (fun i l hl j e he=>(HT2.out l (List.mem_of_getElem? hl)).2 e (List.mem_of_getElem? he))
  rw [HN.out] at h9
  exact h9
 have HLS:Hid (∀ i,i<m→lens M1 i≤200):=fun i hi=>lens_few HT1.out i (by rw [HM.out]; exact hi)
 have HW1:Hid (wid L1≤200):=Nat.le_trans (wid_few HF1.out) (by decide)
 have HW2:Hid (wid L2≤200):=Nat.le_trans (wid_few HF2.out) (by decide)
 have HSZ:Hid (SZ L1 L2):=sz_few HL1.out HF1.out HL2.out HF2.out
 have HBND:Hid ((2+2+1)*L1.length+2≤2000):=by have:=HL1.out; show _≤_; omega
 have HREF:=fun W (hW:Below w0.heap.size w0 W)=>krefining_any W (.slice A1 r c1) (.slice A2 s c2) (.slice A m cA) (.slice A' n cA') b L1 L2 m n 2 2000 (lens M1) (lens M2) (qm M1) (qm M2) (H1.out.keep (.of_below hW)) (H2.out.keep (.of_below hW)) (HMA.out W hW) (HMB.out W hW) (by omega) HLS.out (by omega) HW1.out HW2.out (by have:=HL1.out; omega) (by decide) (by decide) HBND.out (by decide)
 have HREF:=Lib.hid HREF
 obtain ⟨P,hP⟩:∃ P,PRF L1 L2 b m (lens M1) (qm M1) n (lens M2) (qm M2)=P:=⟨_,rfl⟩
 have HCHK:=fun W (hW:Below w0.heap.size w0 W)=>check40_any W (.slice A1 r c1) (.slice A2 s c2) (.slice A m cA) (.slice A' n cA') b L1 L2 m n 2 2 2000 (lens M1) (lens M2) (qm M1) (qm M2) (H1.out.keep (.of_below hW)) (H2.out.keep (.of_below hW)) (HMA.out W hW) (HMB.out W hW) (by omega) HLS.out (by omega) HW1.out HW2.out (by decide) (by decide) (by decide) (by decide) HBND.out (by decide)
 have HCHK:=Lib.hid HCHK
 rw [hP] at HREF HCHK
 clear hP
 go_wp2_with fail
 refine (decide_any _ _ _ L1 L2 (H1.out.keep (.of_below hb5)) (H2.out.keep (.of_below hb5)) HSZ.out).mono ?_
 rintro e w6 ⟨bD,vW,vG,mD,KD,FD,GD,code,rfl,hMM,hD,hb6⟩
 obtain ⟨AW,cW,rfl, -⟩:=hMM.out.1.op
 obtain ⟨AG,cG,rfl, -⟩:=hMM.out.2.op
 clear hMM
 have hb6:Below w0.heap.size w0 w6:=hb5.trans (hb6.mono y5)
 have y6:=hb6.size; (try simp only [zs] at y6)
 clear c01 c02 c03 c04 c05 q1 q2 q3 hb5 y5
 obtain ⟨w7,hw7⟩:∃ W,w6.alloc (.cells #[.bool bD, .slice AW mD cW, .slice AG KD cG] 122)=W:=⟨_,rfl⟩
 have HW7:=Lib.hid hw7
 have hb7:Below w0.heap.size w0 w7:=by rw [←hw7]; exact hb6.alloc (by omega) _
 have y7:=hb7.size; (try simp only [zs] at y7)
 have HB7:=Lib.hid hb7
 obtain ⟨⟨c01,c02⟩,⟨c03,c04⟩,c05⟩:=HLM.out w7 hb7
 have q1:w.heap.size<w7.heap.size:=by omega
 have q2:w.heap.size+1<w7.heap.size:=by omega
 have q3:w.heap.size+1+1<w7.heap.size:=by omega
 clear hw7 hb6 hb7
 by_cases hc1:¬ (VC L1∧VC L2)
 ·obtain rfl:code=1:=hD.out.1 hc1
  have HC:Hid (∀ z,RefCode L1 L2 P z→z=1):=fun z hz=>hz.1 hc1
  clear hD hc1
  go_wp2_with (rw [HW7.out])
  refine (HREF.out _ HB7.out).mono ?_
  rintro e w8 ⟨⟨z,rfl,hz⟩,hb8⟩
  obtain rfl:=HC.out _ hz.out
  have y8:=hb8.size; (try simp only [zs] at y8)
  clear hz
  go_wp2_with fail
  go_ret
  exact ⟨rfl,HBW.out _ (HB7.out.trans (hb8.mono y7))⟩
 have hvv:VC L1∧VC L2:=Classical.not_not.1 hc1
 by_cases hc2:L1.length=L2.length
 case neg=>
  obtain rfl:code=2:=hD.out.2.1 hvv hc2
  have HC:Hid (∀ z,RefCode L1 L2 P z→z=2):=fun z hz=>hz.2.1 hvv hc2
  clear hD hc1 hc2 hvv
  go_wp2_with (rw [HW7.out])
  refine (HREF.out _ HB7.out).mono ?_
  rintro e w8 ⟨⟨z,rfl,hz⟩,hb8⟩
  obtain rfl:=HC.out _ hz.out
  have y8:=hb8.size; (try simp only [zs] at y8)
  clear hz
  go_wp2_with fail
  go_ret
  exact ⟨rfl,HBW.out _ (HB7.out.trans (hb8.mono y7))⟩
 have hcode:code=4∨code=0:=by
  by_cases hh:80<wid L1*wid L2∨80<neq L1 L2
  ·exact .inl (hD.out.2.2.1 hvv hc2 hh)
  ·exact .inr (hD.out.2.2.2.1 hvv hc2 hh)
 have HC0:Hid (∀ z,RefCode L1 L2 P z→P→z=0):=fun z hz hp=>hz.2.2.1 hvv hc2 hp
 have HC13:Hid (∀ z,RefCode L1 L2 P z→¬ P→z=13):=fun z hz hp=>hz.2.2.2 hvv hc2 hp
 clear hD hc1 hc2 hvv
 rcases hcode with rfl | rfl
 all_goals
  go_wp2_with (rw [HW7.out])
  refine (HCHK.out _ HB7.out).mono ?_
  rintro e w8 ⟨⟨x,rfl,hx⟩,hb8⟩
  have hb8:Below w0.heap.size w0 w8:=HB7.out.trans (hb8.mono y7)
  have y8:=hb8.size; (try simp only [zs] at y8)
  clear c01 c02 c03 c04 c05
  obtain ⟨⟨c01,c02⟩,⟨c03,c04⟩,c05⟩:=HLM.out w8 hb8
  have q4:w.heap.size<w8.heap.size:=by omega
  have q5:w.heap.size+1<w8.heap.size:=by omega
  have q6:w.heap.size+1+1<w8.heap.size:=by omega
  have HB8:=Lib.hid hb8
  cases x
  ·have HP:Hid (¬ P):=fun h=>by have:=hx.out.2 h; cases this
   clear hx hb8
   go_wp2_with fail
   refine (HREF.out _ HB8.out).mono ?_
   rintro e w9 ⟨⟨z,rfl,hz⟩,hb9⟩
   obtain rfl:=HC13.out _ hz.out HP.out
   have y9:=hb9.size; (try simp only [zs] at y9)
   clear hz
   go_wp2_with fail
   go_ret
   exact ⟨rfl,HBW.out _ (HB8.out.trans (hb9.mono y8))⟩
  ·have HP:Hid P:=hx.out.1 rfl
   clear hx hb8
   go_wp2_with fail
   refine (HREF.out _ HB8.out).mono ?_
   rintro e w9 ⟨⟨z,rfl,hz⟩,hb9⟩
   obtain rfl:=HC0.out _ hz.out HP.out
   have y9:=hb9.size; (try simp only [zs] at y9)
   clear hz
   go_wp2_with fail
   go_ret
   exact ⟨rfl,HBW.out _ (HB8.out.trans (hb9.mono y8))⟩
end Go.Proofs.YtbdcjhoedhhabaaGreat

/- The statement 'CheckerRefining' out of its walk. The frame is the guide's own (proof-skeleton), printed by lawgen.py. -/
namespace Go.Proofs.YtbdcjhoedhhabaaGreat.checkerRefining
open Go.ChangeShapes Go.WideShapes Go.ChangeAt Go.RowKit Go.Proofs.YtbdcjhoedhhabaaGreat
open Go.ChangeMaps (open_string shut_string)
set_option linter.unusedVariables false

set_option maxRecDepth 100000 in
theorem lifted (os:Os) (started:os.Started) (H:Type) (enc:TypeId×Value→H) :
 ReturnsInHanded {} Tryz.checked os 13 .any (Rows.checkerRefiningSpec.pre6 enc Tryz.prog Tryz.f13 Rows.checkerRefiningRow.domain false) (Rows.checkerRefiningSpec.post enc Tryz.prog Tryz.f13 false true false false):=by
 refine returnsInHanded_of_change (C:=Tryz.checked) own started (by kernel_rfl) Tryz.func13
  (ChangeSpec.witness6 (enc:=enc) (C:=Tryz.checked) false ⟨#[],#[.agg #[.slice none 0 0], .agg #[.slice none 0 0], .agg #[.bool false, .slice none 0 0, .slice none 0 0]],[]⟩ 8 (by kernel_rfl) (by kernel_rfl) (by kernel_rfl) (by kernel_rfl)) ?_
 intro W base args ds gs before hval0 hW hcnd _
 have hval:∀ (j:Nat) t v,Tryz.f13.params[j]? = some t→args[j]? = some v→Value.okWide Tryz.prog W .any base t v:=hval0
 have hW':=hW
 obtain ⟨p,q,hA0,hV,rfl,hfz,hnd⟩:=hW
 have hA:DataW.TrodAll enc Tryz.prog W 0 (fun _=>true) true Tryz.f13.params.toList args.toList ds p:=hA0
 rw [Tryz.params13] at hA hval
 obtain ⟨v0,vs0,d0,ds0,p0,q0,hargs,rfl,rfl,h0,r0⟩:=trodAll_cons hA
 obtain ⟨v1,vs1,d1,ds1,p1,q1,rfl,rfl,rfl,h1,r1⟩:=trodAll_cons r0
 obtain ⟨v2,vs2,d2,ds2,p2,q2,rfl,rfl,rfl,h2,r2⟩:=trodAll_cons r1
 obtain ⟨rfl,rfl,rfl⟩:=trodAll_nil r2
 obtain rfl:args=#[v0,v1,v2]:=by cases args; simp_all
 obtain ⟨rfl,rfl⟩:=trodVars_none hV
 have lt0:∀ x∈p0,x.block<W.heap.size:=by obtain ⟨m,hm⟩:=h0; exact DataW.trod_lt m _ _ _ hm
 have k0:=fun (W':World) (bel:Below W.heap.size W W')=>Below.trod laidOut (by kernel_rfl) (of_decide_eq_true (by kernel_rfl)) h0 bel lt0
 obtain ⟨va0,L0,e0,ha0⟩:=open_Channel (hval 0 120 v0 rfl rfl) h0
 have lt1:∀ x∈p1,x.block<W.heap.size:=by obtain ⟨m,hm⟩:=h1; exact DataW.trod_lt m _ _ _ hm
 have k1:=fun (W':World) (bel:Below W.heap.size W W')=>Below.trod laidOut (by kernel_rfl) (of_decide_eq_true (by kernel_rfl)) h1 bel lt1
 obtain ⟨va1,L1,e1,ha1⟩:=open_Channel (hval 1 120 v1 rfl rfl) h1
 have lt2:∀ x∈p2,x.block<W.heap.size:=by obtain ⟨m,hm⟩:=h2; exact DataW.trod_lt m _ _ _ hm
 have k2:=fun (W':World) (bel:Below W.heap.size W W')=>Below.trod laidOut (by kernel_rfl) (of_decide_eq_true (by kernel_rfl)) h2 bel lt2
 obtain ⟨b2,va2,vb2,L2,M2,e2,ha2,hb2⟩:=open_Refining (hval 2 122 v2 rfl rfl) h2
 subst e0
 subst e1
 subst e2
 refine (refining48_walk _ _ _ _ _ _ _ _ _ _ ha0 ha1 ha2 hb2).mono fun e W' ⟨he,bel⟩=>?_
 subst he
 exact ⟨_,rfl,_,_,_,[],_,[],hW',trodAll_mk1 (shut_bool Tryz.underlying4 _),(trodAll_cons_mk (k0 _ bel) (trodAll_cons_mk (k1 _ bel) (trodAll_cons_mk (k2 _ bel) trodAll_mk0))),rfl,bel.frame _,fun h=>by cases h⟩

theorem in_place:(Rows.checkerRefiningRow.inPlace == Tryz.prog.inPlace 13)=true:=by kernel_rfl
theorem unfollowed:(Rows.checkerRefiningRow.unfollowed == Tryz.prog.unfollowed 13)=true:=by kernel_rfl
theorem recurses:(Rows.checkerRefiningRow.recurses == Tryz.prog.recurses 13)=true:=by kernel_rfl
theorem named:(Rows.checkerRefiningRow.named == Tryz.prog.varsNamed 13)=true:=by kernel_rfl
theorem cheap:cheapFacts Tryz.prog Tryz.f13 Rows.checkerRefiningSpec Rows.checkerRefiningRow=true:=by kernel_rfl

theorem over:Rows.checkerRefiningRow.holds Tryz.pinned (OpenSpec.ofChange Rows.checkerRefiningSpec):=
 OpenClaim.holds_of_wide 13 Tryz.f13 rfl rfl rfl rfl rfl rfl rfl ⟨rfl,rfl,rfl,rfl,rfl⟩ rfl rfl rfl rfl rfl (by kernel_rfl) Tryz.func13 (joined_mk laidOut rowed in_place unfollowed recurses named cheap)
  (of_decide_eq_true (by kernel_rfl)) (by unfold Func.isWrapper; first | (rw [if_pos (by decide +kernel)]; kernel_rfl) | (rw [if_neg (by decide +kernel)]; exact ⟨rfl,rfl⟩))
  (fun os started H enc _=>lifted os started H enc)

/-- The statement: for every input the law returns true; each argument reads behind the call as it read before. -/
theorem proved:Rows.CheckerRefiningSaid:=over
end Go.Proofs.YtbdcjhoedhhabaaGreat.checkerRefining

