/- Contracts of the functions that the statements reach, part 35. -/
import Derived.Test.YtbdcjhoedhhabaaGreatRows
import Derived.Test.YtbdcjhoedhhabaaGreatF33
import Derived.Test.YtbdcjhoedhhabaaGreatF34
set_option linter.unusedSimpArgs false
set_option linter.unusedVariables false

/- checker.witness. -/
namespace Go.Proofs.YtbdcjhoedhhabaaGreat
open Go.RowKit
attribute [local go_sem ↓] Go.wp_at_zero Go.wp_at_succ

theorem ktotal_ok (w:World) (v:Value) (L:List (List Int)) (h:IMat w v L) (hV:VC L) :
 Calls Tryz.prog 169 #[.agg #[v]] w fun e w'=>e = .returned (.int .i64 (tot L))∧Below w.heap.size w w':=by
 refine (ktotal_any w v L h).mono ?_
 rintro e w' ⟨⟨t,rfl,ht⟩,hb⟩
 exact ⟨by rw [ht.out.1 hV],hb⟩

theorem wit_iff {L1 L2:List (List Int)} {m:Nat} {N:Nat→Nat} {F:Nat→Nat→Rat} (h1:VC L1) (h2:VC L2) (hl:L1.length=L2.length) :
 WIT L1 L2 m N F↔KMX m (wid L1) (wid L2) N F∧(∀ i,i<m→sm (wid L2) (F i)=1)∧∀ x,x<L1.length→∀ z,z<wid L2→((tot L2:Int):Rat)*sm m (fun y=>ce L1 x y*F y z)=((tot L1:Int):Rat)*ce L2 x z:=by
 have a1:1≤wid L1:=h1.2.2.1
 have a2:1≤wid L2:=h2.2.2.1
 constructor
 ·rintro ⟨-, -, -,hs,hm,hn,he⟩
  refine ⟨⟨by omega,fun _=>hm,fun i hi=>⟨by rw [(hs.1.2.2 i hi).1,hn],(hs.1.2.2 i hi).2⟩⟩,fun i hi=>?_,he⟩
  rw [←hn,← (hs.1.2.2 i hi).1]
  exact hs.2 i hi
 ·rintro ⟨hk,hs,he⟩
  have hm:=hk.2.1 (by omega)
  have hn:N 0=wid L2:=(hk.2.2 0 (by omega)).1
  exact ⟨h1,h2,hl,⟨⟨hk.1,by omega,fun i hi=>⟨by rw [(hk.2.2 i hi).1,hn],(hk.2.2 i hi).2⟩⟩,fun i hi=>by rw [(hk.2.2 i hi).1]; exact hs i hi⟩,hm,hn,he⟩

set_option maxRecDepth 100000 in
set_option maxHeartbeats 16000000 in
theorem kwitness_any (w:World) (v1 v2 vw:Value) (L1 L2:List (List Int)) (m k:Nat) (N:Nat→Nat) (F:Nat→Nat→Rat) (h1:IMat w v1 L1) (h2:IMat w v2 L2) (h:Mat k w (fun _=>False) vw m N F) (hV1:VC L1) (hV2:VC L2) (hLL:L1.length=L2.length)
 (hm:m≤200) (hN:∀ i,i<m→N i≤200) (hk1:1≤k) (hk:k≤900) :
 Calls Tryz.prog 170 #[.agg #[v1], .agg #[v2],vw] w fun e w'=>Tells (WIT L1 L2 m N F) e∧Below w.heap.size w w':=by
 have HIFF:Hid (WIT L1 L2 m N F↔_):=wit_iff hV1 hV2 hLL
 have HV1:=Lib.hid hV1
 have HV2:=Lib.hid hV2
 have HNN:=Lib.hid hN
 have HFZ:=Lib.hid (h.rsz hk1)
 have H10:=Lib.hid h1
 have H20:=Lib.hid h2
 have H0:=Lib.hid h
 obtain ⟨A1,c1,rfl, -,la1,la2⟩:=h1.op
 obtain ⟨A2,c2,rfl, -,lb1,lb2⟩:=h2.op
 obtain ⟨A,cA,rfl, -,l1,l2⟩:=h.op
 obtain ⟨r,hr⟩:∃ r,L1.length=r:=⟨_,rfl⟩
 have hr2:r≤256:=by have:=hV1.2.1; omega
 have hr1:0<r:=by have:=hV1.1; omega
 have HR:=Lib.hid hr
 have HS:Hid (L2.length=r):=by show _=_; omega
 have HI1:Hid (IMat w (.slice A1 r c1) L1):=by have h9:=H10.out; rw [hr] at h9; exact h9
 have HI2:Hid (IMat w (.slice A2 r c2) L2):=by have h9:=H20.out; rw [HS.out] at h9; exact h9
 rw [hr] at la1 ⊢
 rw [HS.out] at lb1 ⊢
 obtain ⟨l1',he1⟩:∃ l,L1[0]? = some l:=⟨_,List.getElem?_eq_getElem (by have:=HR.out; omega)⟩
 obtain ⟨l2',he2⟩:∃ l,L2[0]? = some l:=⟨_,List.getElem?_eq_getElem (by have:=HS.out; omega)⟩
 obtain ⟨a1,D1,d1,rfl,hab1,hcell1, -,lc1, -⟩:=HI1.out.at he1
 obtain ⟨a2,D2,d2,rfl,hab2,hcell2, -,lc2, -⟩:=HI2.out.at he2
 obtain ⟨n1,hn1⟩:∃ n1,wid L1=n1:=⟨_,rfl⟩
 obtain ⟨n2,hn2⟩:∃ n2,wid L2=n2:=⟨_,rfl⟩
 have HN1:=Lib.hid hn1
 have HN2:=Lib.hid hn2
 rw [(hV1.row he1).1,hn1,addr_zero] at hcell1
 rw [(hV1.row he1).1,hn1] at lc1
 rw [(hV2.row he2).1,hn2,addr_zero] at hcell2
 rw [(hV2.row he2).1,hn2] at lc2
 have hn12:n1≤256:=by rw [←hn1]; exact hV1.2.2.2.1
 have hn22:n2≤256:=by rw [←hn2]; exact hV2.2.2.2.1
 obtain ⟨p1,hp1⟩:∃ p,tot L1=p:=⟨_,rfl⟩
 obtain ⟨p2,hp2⟩:∃ p,tot L2=p:=⟨_,rfl⟩
 have ht1:=hV1.tot
 have ht2:=hV2.tot
 rw [hp1] at ht1
 rw [hp2] at ht2
 have HT1:=Lib.hid hp1
 have HT2:=Lib.hid hp2
 obtain ⟨w0,hw0⟩:∃ W,(w.alloc (.cells #[.slice (some a1) r c1] 120)).alloc (.cells #[.slice (some a2) r c2] 120)=W:=⟨_,rfl⟩
 have HW0:=Lib.hid hw0
 have L0:Loc w0 w.heap.size 120 #[.slice (some a1) r c1]:=by rw [←hw0]; exact Loc.alloc (made1 w _ _) _
 have M0:Loc w0 (w.heap.size+1) 120 #[.slice (some a2) r c2]:=by rw [←hw0]; exact made2 w _ _ _
 have HB0:Hid (Below w.heap.size w w0):=by show Below _ _ _; rw [←hw0]; exact bel
 have hs0:w.heap.size+1<w0.heap.size:=M0.lt
 have HLM:Hid (∀ W,Below w0.heap.size w0 W→((W.cell? ⟨w.heap.size,0,none⟩=some (.slice (some a1) r c1)∧W.cell? ⟨w.heap.size+1,0,none⟩=some (.slice (some a2) r c2))∧W.cell? a1=some (.slice D1 n1 d1))∧W.cell? a2=some (.slice D2 n2 d2)):=fun W hW=>
  ⟨⟨⟨Loc.cell (L0.below hW) 0,Loc.cell (M0.below hW) 0⟩,cell_keep (X:=fun _=>False) hcell1 hab1 id ((Keep.of_below HB0.out).trans (.of_below hW))⟩,cell_keep (X:=fun _=>False) hcell2 hab2 id ((Keep.of_below HB0.out).trans (.of_below hW))⟩
 have H1:Hid (IMat w0 (.slice (some a1) r c1) L1):=HI1.out.keep (.of_below HB0.out)
 have H2:Hid (IMat w0 (.slice (some a2) r c2) L2):=HI2.out.keep (.of_below HB0.out)
 have H:Hid (Mat k w0 (fun _=>False) (.slice A m cA) m N F):=Mat.keep H0.out (.of_below HB0.out)
 have i1:(0:Int)<(r:Int):=by omega
 have hmi:m≤1000:=by omega
 clear he1 he2 hcell1 hcell2 hn1 hn2 hp1 hp2 hr h h1 h2 hN hV1 hV2 hLL H10 H20 H0 HI1 HI2 hw0 L0 M0
 obtain ⟨⟨⟨c01,c02⟩,c03⟩,c04⟩:=HLM.out w0 (Below.refl _ _)
 go_enter Tryz.func170,Tryz.ntmps170
 go_wp2_with (rw [HW0.out])
 refine wp_region_noPanic ?_
 refine wp_region_held_drew (S:=(fun W=>((W.cell? ⟨w.heap.size,0,none⟩=some (.slice (some a1) r c1)∧W.cell? ⟨w.heap.size+1,0,none⟩=some (.slice (some a2) r c2))∧W.cell? a1=some (.slice D1 n1 d1))∧W.cell? a2=some (.slice D2 n2 d2))) (by kernel_rfl) ?_ (fun hHeld=>?_)
 ·exact HLM.out _ (Below.refl _ _).drew
 refine takeT 0 hHeld ?_
 (try simp only [Act.put,ly])
 refine takeT 1 hHeld ?_
 (try simp only [Act.put,ly])
 refine takeT 2 hHeld ?_
 (try simp only [Act.put,ly])
 refine takeT 3 hHeld ?_
 (try simp only [Act.put,ly])
 refine takeT 4 hHeld ?_
 (try simp only [Act.put,ly])
 refine takeT 5 hHeld ?_
 (try simp only [Act.put,ly])
 refine takeT 6 hHeld ?_
 (try simp only [Act.put,ly])
 refine takeT 7 hHeld ?_
 (try simp only [Act.put,ly])
 refine takeT 8 hHeld ?_
 (try simp only [Act.put,ly])
 refine takeT 9 hHeld ?_
 (try simp only [Act.put,ly])
 refine takeT 10 hHeld ?_
 (try simp only [Act.put,ly])
 refine wpAnyH_ready (rs:=[11]) (by kernel_rfl) (by simp) ?_
 refine AllReadyH.cons rfl (fun K hK=>?_) AllReadyH.nil
 go_simp
 refine (kmatrix_any _ _ m k n1 n2 N F (Mat.keep H.out (.of_below (Below.refl _ _).drew)) hk1 (by omega) (by omega)).mono ?_
 rintro e w1 ⟨⟨b,rfl,hb⟩,hb1⟩
 have hb1:Below w0.heap.size w0 w1:=((Below.refl _ _).drew).trans hb1
 have y1:=hb1.size; (try simp only [zs] at y1)
 (try go_wp2_with fail)
 refine hK.out _ _ ?_ (fun hHeld=>?_)
 ·(try dsimp only)
  exact HLM.out _ hb1
 clear hK K
 (try simp only [Act.put,ly])
 refine takeT 12 hHeld ?_
 (try simp only [Act.put,ly])
 refine wpAnyH_done (by kernel_rfl) ?_ _
 refine NoPanic.normal ?_
 clear c01 c02 c03 c04
 have HBW:Hid (∀ W,Below w0.heap.size w0 W→Below w.heap.size w W):=fun W hW=>HB0.out.trans (hW.mono (by omega))
 cases b
 case false=>
  have HV:Hid (¬ WIT L1 L2 m N F):=fun h=>by
   have h9:=(HIFF.out.1 h).1
   rw [HN1.out,HN2.out] at h9
   have:=hb.out.2 h9
   cases this
  clear hb
  go_wp2_with fail
  go_ret
  exact ⟨Tells.no HV.out,HBW.out _ hb1⟩
 have HK:Hid (KMX m n1 n2 N F):=hb.out.1 rfl
 clear hb
 have HM1:Hid (m=n1∨n1=0):=by
  by_cases e:0<n1
  ·exact .inl (HK.out.2.1 e)
  ·exact .inr (by omega)
 obtain rfl:m=n1:=by
  have:=HV1.out.2.2.1
  have h9:=HN1.out
  unfold wid at h9
  rcases HM1.out with h | h <;> omega
 clear HM1
 have hm1:0<m:=HK.out.1
 obtain ⟨a0,D0,d0,rfl, -, -, -, -, -, -⟩:=Mat.at H.out hm1
 (try simp only [Bool.not_true])
 go_wp2_with fail
 go_loopw [31] (fun i wr=>∃ (c:Nat),c≤m∧i = .int .i64 c∧Hid (∀ i,i<c→sm n2 (F i)=1)∧Below w0.heap.size w0 wr) (fun i _=>m - (intOf i).toNat)
 case atStart=>exact ⟨0,by omega,rfl,Lib.hid (fun i hi=>absurd hi (by omega)),hb1⟩
 case round=>
  clear hb1
  obtain ⟨c,hc,rfl,hall,hB⟩:=hrel
  obtain ⟨wo,rfl⟩:∃ wo:World,wo=wr:=⟨_,rfl⟩
  have y2:=hB.size; (try simp only [zs] at y2)
  have HBO:=Lib.hid hB
  by_cases hlt:c<m
  ·obtain ⟨aM,D5,d5,ea,hab5, -,hcell5,hnum5,l9,l10⟩:=Mat.at (Mat.keep H.out (.of_below hB)) hlt
   injection ea with ea
   subst ea
   have HNC:Hid (N c=n2):=(HK.out.2.2 c hlt).1
   rw [HNC.out] at hcell5 l9 hnum5
   have HNU:=Lib.hid hnum5
   have hn200:n2≤200:=by rw [←HNC.out]; exact HNN.out c hlt
   have k0:(0:Int)≤(c:Int):=by omega
   have k1:(c:Int)<(m:Int):=by omega
   have HSZ:Hid (Rsz 900000 (sm n2 (F c))):=(sum_rsz (fun i hi=>HFZ.out c hlt i (by rw [HNC.out]; exact hi)) n2 (Nat.le_refl _)).mono (by
    have:(k+1)*n2≤901*200:=Nat.mul_le_mul (by omega) hn200
    omega)
   clear hnum5
   go_wp2_with fail
   refine (ksum_any _ _ n2 k (F c) HNU.out hn200 hk1 (by omega)).mono ?_
   rintro e w3 ⟨v3,rfl,i3,hb3⟩
   obtain ⟨b3,A3,m3,c3,b3',A3',m3',c3',rfl,i3, -, -⟩:=i3.op
   have y3:=hb3.size; (try simp only [zs] at y3)
   go_wp2_with fail
   refine (kwhole_any _ 1 (by decide) (by decide)).mono ?_
   rintro e w4 ⟨v4,rfl,i4,hb4⟩
   obtain ⟨b4,A4,m4,c4,b4',A4',m4',c4',rfl,i4, -, -⟩:=i4.op
   have y4:=hb4.size; (try simp only [zs] at y4)
   obtain ⟨q,hq⟩:∃ q,rcmp (sm n2 (F c)) ((1:Int):Rat)=q:=⟨_,rfl⟩
   have HQ:=Lib.hid hq
   have HZ:Hid (q=0↔sm n2 (F c)=1):=by show _↔_; rw [←hq]; exact rcmp_zero _ _
   clear hq
   go_wp2_with fail
   refine (ratcompare_any _ (fun _=>False) _ _ (sm n2 (F c)) ((1:Int):Rat) (RatL.to ((i3.len HSZ.out).mono (by omega))) (RatL.to (i4.len ((rsz_int (by omega) (by omega)).mono (show 2≤10000000 by omega))))).mono ?_
   rintro e w5 ⟨he,hb5⟩
   rw [HQ.out] at he
   subst he
   have y5:=hb5.size; (try simp only [zs] at y5)
   have HB5:Hid (Below w0.heap.size w0 w5):=HBO.out.trans ((bel:Below wo.heap.size wo w5).mono (by omega))
   by_cases h0:q=0
   ·have HV:Hid (sm n2 (F c)=1):=HZ.out.1 h0
    have d1:(q == 0)=true:=beq_iff_eq.2 h0
    have d2:(q != 0)=false:=by simp only [bne,d1]; rfl
    clear HZ h0
    go_wp2_with fail
    go_roundw
    case rel=>
     refine ⟨c+1,by omega,by go_num,Lib.hid (fun i hi=>?_),HB5.out⟩
     by_cases hic:i<c
     ·exact hall.out i hic
     ·obtain rfl:i=c:=by omega
      exact HV.out
    case measure=>simp only [intOf]; omega
   ·have HV:Hid (¬ WIT L1 L2 m N F):=fun h=>h0 (HZ.out.2 (by
     have h9:=(HIFF.out.1 h).2.1 c hlt
     rw [HN2.out] at h9
     exact h9))
    have d1:(q == 0)=false:=beq_eq_false_iff_ne.2 h0
    have d2:(q != 0)=true:=bne_iff_ne.2 h0
    clear HZ h0
    go_wp2_with fail
    go_ret
    exact ⟨Tells.no HV.out,HBW.out _ HB5.out⟩
  ·obtain rfl:c=m:=by omega
   have HSUM:Hid (∀ i,i<c→sm n2 (F i)=1):=hall
   have hn200:n2≤200:=by rw [←(HK.out.2.2 0 hm1).1]; exact HNN.out 0 hm1
   obtain ⟨⟨⟨c01,c02⟩, -⟩, -⟩:=HLM.out wo hB
   have q1:w.heap.size<wo.heap.size:=by omega
   have q2:w.heap.size+1<wo.heap.size:=by omega
   go_wp2_with fail
   clear c01 c02
   go_loopw [44] (fun i wr=>∃ (x:Nat),x≤r∧i = .int .i64 x∧Hid (∀ x',x'<x→∀ z,z<n2→((p2:Int):Rat)*sm c (fun y=>ce L1 x' y*F y z)=((p1:Int):Rat)*ce L2 x' z)∧Below w0.heap.size w0 wr) (fun i _=>r - (intOf i).toNat)
   case atStart=>exact ⟨0,by omega,rfl,Lib.hid (fun i hi=>absurd hi (by omega)),hB⟩
   case round=>
    clear hB q1 q2 hall
    obtain ⟨x,hx,rfl,hallx,hB⟩:=hrel
    obtain ⟨wx,rfl⟩:∃ wx:World,wx=wr:=⟨_,rfl⟩
    have y3:=hB.size; (try simp only [zs] at y3)
    have HBX:=Lib.hid hB
    by_cases hltx:x<r
    ·obtain ⟨lx,hex⟩:∃ l,L1[x]? = some l:=⟨_,List.getElem?_eq_getElem (by rw [HR.out]; exact hltx)⟩
     obtain ⟨ly,hey⟩:∃ l,L2[x]? = some l:=⟨_,List.getElem?_eq_getElem (by rw [HS.out]; exact hltx)⟩
     obtain ⟨a1',Dx,dx,ea,habx,hcx0,hintx,lcx,lmx⟩:=H1.out.at hex
     injection ea with ea
     subst ea
     obtain ⟨a2',Dy,dy,ea,haby,hcy0,hinty,lcy,lmy⟩:=H2.out.at hey
     injection ea with ea
     subst ea
     rw [(HV1.out.row hex).1,HN1.out] at hcx0 hintx lcx
     rw [(HV2.out.row hey).1,HN2.out] at hcy0 hinty lcy
     have HCX:Hid (∀ W,Below w0.heap.size w0 W→W.cell? (a1.add x)=some (.slice Dx c dx)):=fun W hW=>cell_keep (X:=fun _=>False) hcx0 (by rw [addr_block]; exact habx) id (.of_below hW)
     have HCY:Hid (∀ W,Below w0.heap.size w0 W→W.cell? (a2.add x)=some (.slice Dy n2 dy)):=fun W hW=>cell_keep (X:=fun _=>False) hcy0 (by rw [addr_block]; exact haby) id (.of_below hW)
     have HIX:=Lib.hid hintx
     have HIY:=Lib.hid hinty
     have HEX:=Lib.hid hex
     have HEY:=Lib.hid hey
     have k0:(0:Int)≤(x:Int):=by omega
     have k1:(x:Int)<(r:Int):=by omega
     obtain ⟨⟨⟨c01,c02⟩, -⟩, -⟩:=HLM.out wx hB
     have c03:=HCX.out wx hB
     have c04:=HCY.out wx hB
     have q1:w.heap.size<wx.heap.size:=by omega
     have q2:w.heap.size+1<wx.heap.size:=by omega
     clear hcx0 hcy0 hintx hinty hex hey
     go_wp2_with fail
     clear c01 c02 c03 c04
     go_loopw [55] (fun i wr=>∃ (z:Nat),z≤n2∧i = .int .i64 z∧Hid (∀ z',z'<z→((p2:Int):Rat)*sm c (fun y=>ce L1 x y*F y z')=((p1:Int):Rat)*ce L2 x z')∧Below w0.heap.size w0 wr) (fun i _=>n2 - (intOf i).toNat)
     case atStart=>exact ⟨0,by omega,rfl,Lib.hid (fun i hi=>absurd hi (by omega)),hB⟩
     case round=>
      clear hB q1 q2
      obtain ⟨z,hz,rfl,hallz,hB⟩:=hrel
      obtain ⟨wz,rfl⟩:∃ wz:World,wz=wr:=⟨_,rfl⟩
      have y4:=hB.size; (try simp only [zs] at y4)
      have HBZ:=Lib.hid hB
      by_cases hltz:z<n2
      ·have k2:(0:Int)≤(z:Int):=by omega
       have k3:(z:Int)<(n2:Int):=by omega
       have HSM:Hid (Rsz 900000 (sm c (fun y=>ce L1 x y*F y z))):=wsum_rsz HV1.out (by rw [HR.out]; exact hltx) HN1.out.symm hm (fun i hi=>HFZ.out i hi z (by rw [(HK.out.2.2 i hi).1]; exact hltz)) (by omega) c (Nat.le_refl _)
       go_wp2_with fail
       go_loopw [12,60] (fun v i wr=>∃ (y:Nat) (rs:List R4),y≤c∧i = .int .i64 y∧OwnR wr wz.heap.size v rs∧rs.length=y∧ValL (k+2) wr (fun b=>v.ownBlock=some b) rs (fun y=>ce L1 x y*F y z)∧Below wz.heap.size wz wr) (fun _ i _=>c - (intOf i).toNat)
       case atStart=>exact ⟨0,[],by omega,rfl,OwnR.nil _ _,rfl,fun i r hr=>by simp at hr,Below.refl _ _⟩
       case round=>
        clear hB
        obtain ⟨y,rs,hy,rfl,hown,hrl,hv,hBy⟩:=hrel
        obtain ⟨wy,rfl⟩:∃ wy:World,wy=wr:=⟨_,rfl⟩
        have y5:=hBy.size; (try simp only [zs] at y5)
        have hB:Below w0.heap.size w0 wy:=HBZ.out.trans (hBy.mono y4)
        by_cases hlty:y<c
        ·obtain ⟨ny,hny⟩:∃ n,lx[y]? = some n:=⟨_,List.getElem?_eq_getElem (by have:=(HV1.out.row HEX.out).1; have:=HN1.out; omega)⟩
         have hny2:=(HV1.out.row HEX.out).2 ny (List.mem_of_getElem? hny)
         obtain ⟨ax,rfl,hbx,hcx, -, -⟩:=(HIX.out.keep (.of_below hB)).at hny
         obtain ⟨a7,D7,d7,ea,hab7, -,hcell7,hnum7,lc7, -⟩:=Mat.at H.out hlty
         injection ea with ea
         subst ea
         rw [(HK.out.2.2 y hlty).1] at hcell7 hnum7 lc7
         obtain ⟨a8,b8,A8,m8,c8,b8',A8',m8',c8',rfl,hab8, -,x0,x1,x2,x3,r80⟩:=Nums.at hnum7 hltz
         have HCE:Hid (ce L1 x y=(ny:Rat)):=ce_get HEX.out hny
         have HF1:Hid (Rsz k (F y z)):=HFZ.out y hlty z (by rw [(HK.out.2.2 y hlty).1]; exact hltz)
         have HM:Hid (Rsz (k+2) ((ny:Rat)*F y z)):=((rsz_int (by omega) (by omega)).mul HF1.out).mono (by omega)
         have hb8:(a8.add (z*4)).block<w0.heap.size:=by rw [addr_block]; exact hab8
         have HL:Hid (∀ W,Below w0.heap.size w0 W→(W.cell? (a0.add y)=some (.slice (some a8) n2 d7)∧W.cell? (a8.add (z*4))=some (.bool b8))∧(W.cell? ⟨(a8.add (z*4)).block,(a8.add (z*4)).off+1,none⟩=some (.slice A8 m8 c8)∧W.cell? ⟨(a8.add (z*4)).block,(a8.add (z*4)).off+2,none⟩=some (.bool b8'))∧W.cell? ⟨(a8.add (z*4)).block,(a8.add (z*4)).off+3,none⟩=some (.slice A8' m8' c8')):=fun W hW=>
          ⟨⟨cell_keep (X:=fun _=>False) hcell7 (by rw [addr_block]; exact hab7) id (.of_below hW),cell_keep (X:=fun _=>False) x0 hb8 id (.of_below hW)⟩,⟨cell_keep (X:=fun _=>False) x1 hb8 id (.of_below hW),cell_keep (X:=fun _=>False) x2 hb8 id (.of_below hW)⟩,cell_keep (X:=fun _=>False) x3 hb8 id (.of_below hW)⟩
         have r8:=RatL.keep r80 (.of_below hB)
         have hown7:Hid (∀ b,u12.ownBlock=some b→b<wy.heap.size):=fun b hb=>(hown.lt hb).1
         have k5:(0:Int)≤(y:Int):=by omega
         have k6:(y:Int)<(c:Int):=by omega
         clear hny hcell7 x0 x1 x2 x3 r80 hnum7
         go_wp2_with fail
         go_region_held3 (fun W=>(W.cell? (a0.add y)=some (.slice (some a8) n2 d7)∧W.cell? (a8.add (z*4))=some (.bool b8))∧(W.cell? ⟨(a8.add (z*4)).block,(a8.add (z*4)).off+1,none⟩=some (.slice A8 m8 c8)∧W.cell? ⟨(a8.add (z*4)).block,(a8.add (z*4)).off+2,none⟩=some (.bool b8'))∧W.cell? ⟨(a8.add (z*4)).block,(a8.add (z*4)).off+3,none⟩=some (.slice A8' m8' c8'))
          (first | exact HL.out _ bel | exact HL.out _ (below_own (bel:Below w0.heap.size w0 (u1.alloc (.cells #[.bool b5, .slice A5 m5 c5, .bool b5', .slice A5' m5' c5'] 213))) (hown.below (bel:Below wy.heap.size wy (u1.alloc (.cells #[.bool b5, .slice A5 m5 c5, .bool b5', .slice A5' m5' c5'] 213)))) hg9 y4 (by simp only [World.size_alloc]; omega)))
          (first
           | (go_at_call 298; refine (kwhole_any _ ny (by omega) (by omega)).mono ?_; rintro e u2 ⟨v2,rfl,j2,hb2⟩; obtain ⟨b12,A12,m12,c12,b12',A12',m12',c12',rfl,j2, -, -⟩:=j2.op; have y12:=hb2.size; (try simp only [zs] at y12))
           | (go_at_call 293; refine (mul_rat _ (fun _=>False) _ _ (ny:Rat) (F y z) (RatL.to (j2.len ((rsz_int (by omega) (by omega)).mono (show 2≤10000000 by omega)))) (RatL.to (r8.mono (by omega)))).mono ?_; rintro e u1 ⟨v5,rfl,i5,hb5⟩; obtain ⟨b5,A5,m5,c5,b5',A5',m5',c5',rfl,i5, -, -⟩:=i5.op; have y6:=hb5.size; (try simp only [zs] at y6))
           | (refine step_pushR _ rfl _ _ rfl wz.heap.size u12 rs rfl (hown.below (bel:Below wy.heap.size wy (u1.alloc (.cells #[.bool b5, .slice A5 m5 c5, .bool b5', .slice A5' m5' c5'] 213)))) _ ⟨b5,A5,m5,c5,b5',A5',m5',c5'⟩ rfl (heap_alloc_new u1 _) (by omega) (by simp only [World.size_alloc]; omega) ?_; intro g cap w9 hown9 hg9 ho9 hl9))
         all_goals
          have hb99:Below wz.heap.size wz w9:=below_own (hBy.trans ((bel:Below wy.heap.size wy (u1.alloc (.cells #[.bool b5, .slice A5 m5 c5, .bool b5', .slice A5' m5' c5'] 213))).mono y5)) (hown.below (bel:Below wy.heap.size wy (u1.alloc (.cells #[.bool b5, .slice A5 m5 c5, .bool b5', .slice A5' m5' c5'] 213)))) hg9 (Nat.le_refl _) (by simp only [World.size_alloc]; omega)
          have hvv:ValL (k+2) (u1.alloc (.cells #[.bool b5, .slice A5 m5 c5, .bool b5', .slice A5' m5' c5'] 213)) (fun b=>u12.ownBlock=some b) rs (fun y=>ce L1 x y*F y z):=hv.keep (Keep.of_below (bel:Below wy.heap.size wy (u1.alloc (.cells #[.bool b5, .slice A5 m5 c5, .bool b5', .slice A5' m5' c5'] 213))))
          have hrr9:RatL (k+2) (u1.alloc (.cells #[.bool b5, .slice A5 m5 c5, .bool b5', .slice A5' m5' c5'] 213)) (fun b=>u12.ownBlock=some b) (R4.v ⟨b5,A5,m5,c5,b5',A5',m5',c5'⟩) (ce L1 x rs.length*F rs.length z):=by
           rw [hrl,HCE.out]
           exact RatL.keep (RatL.weak (i5.len HM.out) (fun b _ hb=>by have:=hown7.out b hb; show b<_; simp only [size_drew] at *; omega)) kp
          have hg3:=ValL.grow hvv hrr9 hg9 ho9
          clear hvv hrr9 hb5
          go_wp2_with fail
          go_roundw
          case rel=>
           refine ⟨y+1,rs ++ [⟨b5,A5,m5,c5,b5',A5',m5',c5'⟩],by omega,by go_num,(by rw [hrl] at hown9; exact hown9),by simp [hrl],hg3.weak (fun b _ hb=>?_),hb99⟩
           injection hb with hb
           exact hb.symm
          case measure=>simp only [intOf]; omega
        ·obtain rfl:c=y:=by omega
         have hnums:Nums (k+2) wy (fun _=>False) u12 rs.length (fun y=>ce L1 x y*F y z):=hown.nums hv (fun _ _ h=>h.elim) (fun _ _ h=>h)
         rw [hrl] at hnums
         have HNU:=Lib.hid hnums
         obtain ⟨SM,hSM⟩:∃ q,sm c (fun y=>ce L1 x y*F y z)=q:=⟨_,rfl⟩
         have HSE:=Lib.hid hSM
         have HSZ:Hid (Rsz 900000 SM):=by show Rsz _ _; rw [←hSM]; exact HSM.out
         have HPM:Hid (Rsz 900004 ((p2:Rat)*SM)):=((rsz_int (by omega) (by omega)).mul HSZ.out).mono (by omega)
         obtain ⟨nz,hnz⟩:∃ n,ly[z]? = some n:=⟨_,List.getElem?_eq_getElem (by have:=(HV2.out.row HEY.out).1; have:=HN2.out; omega)⟩
         have hnz2:=(HV2.out.row HEY.out).2 nz (List.mem_of_getElem? hnz)
         have HCE:Hid (ce L2 x z=(nz:Rat)):=ce_get HEY.out hnz
         obtain ⟨ay,rfl,hby,hcy, -, -⟩:=HIY.out.at hnz
         have HCZ:Hid (∀ W,Below w0.heap.size w0 W→W.cell? (ay.add z)=some (.int .i64 nz)):=fun W hW=>cell_keep (X:=fun _=>False) hcy (by rw [addr_block]; exact hby) id (.of_below hW)
         obtain ⟨⟨⟨c01,c02⟩, -⟩, -⟩:=HLM.out wy hB
         have q1:w.heap.size<wy.heap.size:=by omega
         have q2:w.heap.size+1<wy.heap.size:=by omega
         obtain ⟨P,hP⟩:∃ P,p1*nz=P:=⟨_,rfl⟩
         have hPb:0≤P∧P≤1099511627776:=by
          have h1:0≤p1*nz:=Int.mul_nonneg (by omega) (by omega)
          have h2:p1*nz≤1048576*1048576:=Int.mul_le_mul ht1.2 hnz2.2 hnz2.1 (by omega)
          omega
         have hPw:IntKind.i64.wrap (p1*nz)=P:=by rw [hP,IntKind.wrap_i64]; omega
         have HPE:Hid ((P:Rat)=(p1:Rat)*ce L2 x z):=by show _=_; rw [HCE.out,← hP,Rat.intCast_mul]
         clear hown hv hnums hnz hcy hSM hP
         go_wp2_with fail
         refine (ktotal_ok _ _ L2 (H2.out.keep (.of_below hB)) HV2.out).mono ?_
         rintro e w5 ⟨he,hb5⟩
         rw [HT2.out] at he
         subst he
         have y6:=hb5.size; (try simp only [zs] at y6)
         clear c01 c02
         go_wp2_with fail
         refine (kwhole_any _ p2 (by omega) (by omega)).mono ?_
         rintro e w6 ⟨v6,rfl,i6,hb6⟩
         obtain ⟨b6,A6,m6,c6,b6',A6',m6',c6',rfl,i6, -, -⟩:=i6.op
         have y7:=hb6.size; (try simp only [zs] at y7)
         go_wp2_with fail
         refine (ksum_any _ _ c (k+2) _ (Nums.keep HNU.out (.of_below (hb5.trans (hb6.mono (by omega))))) hm (by omega) (by omega)).mono ?_
         rintro e w7 ⟨v7,rfl,i7,hb7⟩
         rw [HSE.out] at i7
         obtain ⟨b7,A7,m7,c7,b7',A7',m7',c7',rfl,i7, -, -⟩:=i7.op
         have y8:=hb7.size; (try simp only [zs] at y8)
         go_wp2_with fail
         refine (mul_rat _ (fun _=>False) _ _ (p2:Rat) SM (RatL.to (i6.len ((rsz_int (by omega) (by omega)).mono (show 2≤10000000 by omega)))) (RatL.to ((i7.len HSZ.out).mono (by omega)))).mono ?_
         rintro e w8 ⟨v8,rfl,i8,hb8⟩
         obtain ⟨b8,A8,m8,c8,b8',A8',m8',c8',rfl,i8, -, -⟩:=i8.op
         have y9:=hb8.size; (try simp only [zs] at y9)
         have h8:Below w0.heap.size w0 w8:=(hB.trans (hb5.mono (by omega))).trans ((hb6.trans ((hb7.trans (hb8.mono (by omega))).mono (by omega))).mono (by omega))
         obtain ⟨wA,hwA⟩:∃ W,w8.alloc (.cells #[.bool b8, .slice A8 m8 c8, .bool b8', .slice A8' m8' c8'] 213)=W:=⟨_,rfl⟩
         have HWA:=Lib.hid hwA
         have LA:Loc wA w8.heap.size 213 #[.bool b8, .slice A8 m8 c8, .bool b8', .slice A8' m8' c8']:=by rw [←hwA]; exact made1 w8 _ _
         have hBA:Below w0.heap.size w0 wA:=by rw [←hwA]; exact h8.alloc (by omega) _
         have s8:RatL 900004 wA (fun _=>False) (.agg #[.bool b8, .slice A8 m8 c8, .bool b8', .slice A8' m8' c8']) ((p2:Rat)*SM):=by rw [←hwA]; exact RatL.to (i8.len HPM.out)
         have hA0:w0.heap.size≤wA.heap.size:=hBA.size
         have HBA:Hid (∀ W,Below wA.heap.size wA W→Below w0.heap.size w0 W):=fun W hW=>hBA.trans (hW.mono hA0)
         have HSS:Hid (∀ W,Below wA.heap.size wA W→(((W.cell? ⟨w8.heap.size,0,none⟩=some (.bool b8)∧W.cell? ⟨w8.heap.size,1,none⟩=some (.slice A8 m8 c8))∧W.cell? ⟨w8.heap.size,2,none⟩=some (.bool b8')∧W.cell? ⟨w8.heap.size,3,none⟩=some (.slice A8' m8' c8'))∧(W.cell? ⟨w.heap.size,0,none⟩=some (.slice (some a1) r c1)∧W.cell? ⟨w.heap.size+1,0,none⟩=some (.slice (some a2) r c2))∧W.cell? (a2.add x)=some (.slice (some ay) n2 dy)∧W.cell? (ay.add z)=some (.int .i64 nz))):=fun W hW=>
          ⟨⟨⟨Loc.cell (LA.below hW) 0,Loc.cell (LA.below hW) 1⟩,Loc.cell (LA.below hW) 2,Loc.cell (LA.below hW) 3⟩,(HLM.out W (HBA.out W hW)).1.1,HCY.out W (HBA.out W hW),HCZ.out W (HBA.out W hW)⟩
         obtain ⟨q,hq⟩:∃ q,rcmp ((p2:Rat)*SM) (P:Rat)=q:=⟨_,rfl⟩
         have HQ:=Lib.hid hq
         have HZ:Hid (q=0↔(p2:Rat)*SM=(P:Rat)):=by show _↔_; rw [←hq]; exact rcmp_zero _ _
         have q8:w8.heap.size<wA.heap.size:=LA.lt
         clear hq hwA hBA h8 hb5 hb6 hb7 hb8 hB hBy i6 i7 i8 LA
         go_wp2_with (rw [HWA.out])
         go_region_held3 (fun W=>(((W.cell? ⟨w8.heap.size,0,none⟩=some (.bool b8)∧W.cell? ⟨w8.heap.size,1,none⟩=some (.slice A8 m8 c8))∧W.cell? ⟨w8.heap.size,2,none⟩=some (.bool b8')∧W.cell? ⟨w8.heap.size,3,none⟩=some (.slice A8' m8' c8'))∧(W.cell? ⟨w.heap.size,0,none⟩=some (.slice (some a1) r c1)∧W.cell? ⟨w.heap.size+1,0,none⟩=some (.slice (some a2) r c2))∧W.cell? (a2.add x)=some (.slice (some ay) n2 dy)∧W.cell? (ay.add z)=some (.int .i64 nz)))
          (exact HSS.out _ bel)
          (first
           | (go_at_call 169; refine (ktotal_ok _ _ L1 (H1.out.keep (.of_below (HBA.out _ bel))) HV1.out).mono ?_; rintro e u1 ⟨he,hb1⟩; rw [HT1.out] at he; subst he; have y11:=hb1.size; (try simp only [zs] at y11))
           | (go_at_call 298; refine (kwhole_any _ P (by omega) (by omega)).mono ?_; rintro e u2 ⟨v2,rfl,j2,hb2⟩; obtain ⟨b12,A12,m12,c12,b12',A12',m12',c12',rfl,j2, -, -⟩:=j2.op; have y12:=hb2.size; (try simp only [zs] at y12))
           | (go_at_call 237; refine (ratcompare_any _ (fun _=>False) _ _ ((p2:Rat)*SM) (P:Rat) (RatL.to (s8.mono (by omega))) (RatL.to (j2.len ((rsz_int (by omega) (by omega)).mono (show 2≤10000000 by omega))))).mono ?_; rintro e u3 ⟨he,hb3⟩; rw [HQ.out] at he; subst he; have y13:=hb3.size; (try simp only [zs] at y13)))
         all_goals
          have HB10:Hid (Below w0.heap.size w0 u3):=HBA.out _ bel
          by_cases h0:q=0
          ·have HV:Hid ((p2:Rat)*SM=(P:Rat)):=HZ.out.1 h0
           have d1:(q == 0)=true:=beq_iff_eq.2 h0
           have d2:(q != 0)=false:=by simp only [bne,d1]; rfl
           clear HZ h0
           go_wp2_with fail
           go_roundw
           case rel=>
            refine ⟨z+1,by omega,by go_num,Lib.hid (fun z' hz'=>?_),HB10.out⟩
            by_cases hzz:z'<z
            ·exact hallz.out z' hzz
            ·obtain rfl:z'=z:=by omega
             rw [HSE.out,HV.out,HPE.out]
           case measure=>simp only [intOf]; omega
          ·have HV:Hid (¬ WIT L1 L2 c N F):=fun h=>h0 (HZ.out.2 (by
            rw [HPE.out,← HSE.out,← HT1.out,← HT2.out]
            exact (HIFF.out.1 h).2.2 x (by rw [HR.out]; exact hltx) z (by rw [HN2.out]; exact hltz)))
           have d1:(q == 0)=false:=beq_eq_false_iff_ne.2 h0
           have d2:(q != 0)=true:=bne_iff_ne.2 h0
           clear HZ h0
           go_wp2_with fail
           go_ret
           exact ⟨Tells.no HV.out,HBW.out _ HB10.out⟩
      ·obtain rfl:z=n2:=by omega
       go_wp2_with fail
       go_roundw
       case rel=>
        refine ⟨x+1,by omega,by go_num,Lib.hid (fun x' hx'=>?_),hB⟩
        by_cases hxx:x'<x
        ·exact hallx.out x' hxx
        ·obtain rfl:x'=x:=by omega
         exact hallz.out
       case measure=>simp only [intOf]; omega
    ·obtain rfl:x=r:=by omega
     have HV:Hid (WIT L1 L2 c N F):=HIFF.out.2 ⟨by rw [HN1.out,HN2.out]; exact HK.out,by rw [HN2.out]; exact HSUM.out,fun x hx z hz=>by
      rw [HT1.out,HT2.out]
      exact hallx.out x (by rw [←HR.out]; exact hx) z (by rw [←HN2.out]; exact hz)⟩
     go_wp2_with fail
     go_ret
     exact ⟨Tells.yes HV.out,HBW.out _ hB⟩
end Go.Proofs.YtbdcjhoedhhabaaGreat

