/- Contracts of the functions that the statements reach, part 37. -/
import Derived.Test.YtbdcjhoedhhabaaGreatRows
import Derived.Test.YtbdcjhoedhhabaaGreatF35
import Derived.Test.YtbdcjhoedhhabaaGreatF36
set_option linter.unusedSimpArgs false
set_option linter.unusedVariables false

/- checker.value. -/
namespace Go.Proofs.YtbdcjhoedhhabaaGreat
open Go.RowKit
attribute [local go_sem ↓] Go.wp_at_zero Go.wp_at_succ

set_option maxRecDepth 100000 in
set_option maxHeartbeats 16000000 in
theorem kvalue_any (w:World) (v1 vg:Value) (L1:List (List Int)) (K k B:Nat) (N:Nat→Nat) (F:Nat→Nat→Rat) (h1:IMat w v1 L1) (hV:VC L1) (h:Mat k w (fun _=>False) vg K N F)
 (hN:∀ i,i<K→N i=L1.length) (hK:K≤200) (hw:wid L1≤200) (hL:L1.length≤200) (hk1:1≤k) (hk:k≤900) (hB:(2+k+1)*L1.length+2≤B) (hB2:B≤2000) :
 Calls Tryz.prog 299 #[.agg #[v1],vg] w fun e w'=>∃ v',e = .returned v'∧RatV w' (Old w) v' (worthV (wid L1) K L1.length (ce L1) F)∧Below w.heap.size w w':=by
 have HV:=Lib.hid hV
 have HNN:=Lib.hid hN
 have HFZ:Hid (∀ i,i<K→∀ x,x<L1.length→Rsz k (F i x)):=fun i hi x hx=>h.rsz hk1 i hi x (by rw [hN i hi]; exact hx)
 have HGZ:Hid (∀ y,y<wid L1→∀ i,i<K→∀ x,x≤L1.length→Rsz B (sm x (fun x=>ce L1 x y*F i x))):=fun y hy i hi x hx=>(gain_rsz hV hy (HFZ.out i hi) x hx).mono (by
  have:=Nat.mul_le_mul_left (2+k+1) hx
  omega)
 have HBZ:Hid (∀ y,y<wid L1→∀ i,i≤K→Rsz B (best i (fun w=>sm L1.length (fun x=>ce L1 x y*F w x)))):=fun y hy i hi=>best_rsz (by omega) i (fun j hj=>HGZ.out y hy j (by omega) _ (Nat.le_refl _))
 have H10:=Lib.hid h1
 have H0:=Lib.hid h
 obtain ⟨A1,c1,rfl, -,la1,la2⟩:=h1.op
 obtain ⟨A,cA,rfl, -,l1,l2⟩:=h.op
 have hr1:=hV.1
 have hr2:=hV.2.1
 obtain ⟨r,hr⟩:∃ r,L1.length=r:=⟨_,rfl⟩
 have HR:=Lib.hid hr
 have HI1:Hid (IMat w (.slice A1 r c1) L1):=by have h9:=H10.out; rw [hr] at h9; exact h9
 rw [hr] at la1 hr1 hr2 HGZ HBZ HNN hL ⊢
 obtain ⟨n,hn⟩:∃ n,wid L1=n:=⟨_,rfl⟩
 have HN1:=Lib.hid hn
 rw [hn] at hw HGZ HBZ ⊢
 obtain ⟨l1',he1⟩:∃ l,L1[0]? = some l:=⟨_,List.getElem?_eq_getElem (by have:=HR.out; omega)⟩
 obtain ⟨a1,D1,d1,rfl,hab1,hcell1, -,lc1, -⟩:=HI1.out.at he1
 rw [(HV.out.row he1).1,hn] at hcell1 lc1
 rw [addr_zero] at hcell1
 unfold worthV
 obtain ⟨G,hG⟩:∃ G:Nat→Rat,(fun y=>best K (fun w=>sm r (fun x=>ce L1 x y*F w x)))=G:=⟨_,rfl⟩
 have HG:=Lib.hid hG
 rw [hG]
 have i1:(0:Int)<(r:Int):=by omega
 have HGE:Hid (∀ y,G y=best K (fun w=>sm r (fun x=>ce L1 x y*F w x))):=fun y=>by rw [←HG.out]
 obtain ⟨w0,hw0⟩:∃ W,(w.alloc (.cells #[.slice (some a1) r c1] 120)).alloc (.cells #[.bool false, .slice none 0 0, .bool false, .slice none 0 0] 213)=W:=⟨_,rfl⟩
 have HW0:=Lib.hid hw0
 have L0:Loc w0 w.heap.size 120 #[.slice (some a1) r c1]:=by rw [←hw0]; exact Loc.alloc (made1 w _ _) _
 have M0:Loc w0 (w.heap.size+1) 213 #[.bool false, .slice none 0 0, .bool false, .slice none 0 0]:=by rw [←hw0]; exact made2 w _ _ _
 have HB0:Hid (Below w.heap.size w w0):=by show Below _ _ _; rw [←hw0]; exact bel
 have hs0:w.heap.size+1<w0.heap.size:=M0.lt
 have HLM:Hid (∀ W,Below w0.heap.size w0 W→W.cell? ⟨w.heap.size,0,none⟩=some (.slice (some a1) r c1)∧W.cell? a1=some (.slice D1 n d1)):=fun W hW=>
  ⟨Loc.cell (L0.below hW) 0,cell_keep (X:=fun _=>False) hcell1 hab1 id ((Keep.of_below HB0.out).trans (.of_below hW))⟩
 have HM0:=Lib.hid M0
 have H1:Hid (IMat w0 (.slice (some a1) r c1) L1):=HI1.out.keep (.of_below HB0.out)
 have H:Hid (Mat k w0 (fun _=>False) (.slice A cA.succ.pred cA) K N F→True):=fun _=>trivial
 clear H
 have H:Hid (Mat k w0 (fun _=>False) (.slice A K cA) K N F):=Mat.keep H0.out (.of_below HB0.out)
 have HBW:Hid (∀ W,Below w0.heap.size w0 W→Below w.heap.size w W):=fun W hW=>HB0.out.trans (hW.mono (by omega))
 obtain ⟨c01,c02⟩:=HLM.out w0 (Below.refl _ _)
 have q1:w.heap.size<w0.heap.size:=by omega
 clear he1 hcell1 hn hr h h1 hN hV hG H10 H0 HI1 hw0 L0 M0
 go_enter Tryz.func299,Tryz.ntmps299
 go_wp2_with (rw [HW0.out])
 clear c01 c02 q1
 go_loopw [5,19] (fun v i wr=>∃ (y:Nat) (rs:List R4),y≤n∧i = .int .i64 y∧OwnR wr w0.heap.size v rs∧rs.length=y∧ValL B wr (fun b=>v.ownBlock=some b) rs G∧Below w0.heap.size w0 wr) (fun _ i _=>n - (intOf i).toNat)
 case atStart=>exact ⟨0,[],by omega,rfl,OwnR.nil _ _,rfl,fun i r hr=>by simp at hr,Below.refl _ _⟩
 case round=>
  obtain ⟨y,rs,hy,rfl,hown,hrl,hv,hB⟩:=hrel
  obtain ⟨wy,rfl⟩:∃ wy:World,wy=wr:=⟨_,rfl⟩
  have yy:=hB.size; (try simp only [zs] at yy)
  have HBY:=Lib.hid hB
  by_cases hlty:y<n
  ·have hown7:Hid (∀ b,u5.ownBlock=some b→b<wy.heap.size):=fun b hb=>(hown.lt hb).1
   go_wp2_with fail
   refine (kwhole_any _ 0 (by decide) (by decide)).mono ?_
   rintro e w2 ⟨v2,rfl,i6,hb2⟩
   rw [show ((0:Int):Rat)=0 from rfl] at i6
   have y2:=hb2.size; (try simp only [zs] at y2)
   obtain ⟨b7,A7,m7,c7,b7',A7',m7',c7',rfl,i6, -, -⟩:=i6.op
   have T7:=made1 w2 #[.bool b7, .slice A7 m7 c7, .bool b7', .slice A7' m7' c7'] 213
   have HW2:Hid (wy.heap.size≤w2.heap.size):=y2
   clear hB
   go_wp2_with fail
   go_loopw [25] (fun i wr=>∃ (c:Nat) (q:R4),c≤K∧i = .int .i64 c∧Loc wr w2.heap.size 213 #[.bool q.b, .slice q.A q.m q.c, .bool q.b', .slice q.A' q.m' q.c']∧RatV wr (fun b=>b=w2.heap.size∨b<wy.heap.size) q.v (best c (fun w=>sm r (fun x=>ce L1 x y*F w x)))∧Below wy.heap.size wy wr) (fun i _=>K - (intOf i).toNat)
   case atStart=>exact ⟨0,⟨b7,A7,m7,c7,b7',A7',m7',c7'⟩,by omega,rfl,T7,RatV.out i6,bel⟩
   case round=>
    obtain ⟨c,q,hc,rfl,T7,s7,hBc⟩:=hrel
    obtain ⟨wc,rfl⟩:∃ wc:World,wc=wr:=⟨_,rfl⟩
    obtain ⟨b8,A8,m8,c8,b8',A8',m8',c8'⟩:=q
    unfold R4.v at s7
    dsimp only at T7 s7
    clear i6
    have yc:=hBc.size; (try simp only [zs] at yc)
    have q8:=T7.lt
    have HBC:=Lib.hid hBc
    have hB:Below w0.heap.size w0 wc:=HBY.out.trans (hBc.mono yy)
    have HBA:=Lib.hid hB
    by_cases hltc:c<K
    ·obtain ⟨a9,D9,d9,rfl,hab9, -,hcell9,hnum9,lc9, -⟩:=Mat.at H.out hltc
     rw [HNN.out c hltc] at hcell9 hnum9 lc9
     have hc9:wc.cell? (a9.add c)=some (.slice D9 r d9):=cell_keep (X:=fun _=>False) hcell9 (by rw [addr_block]; exact hab9) id (.of_below hB)
     have k0:(0:Int)≤(c:Int):=by omega
     have k1:(c:Int)<(K:Int):=by omega
     have HNUM:=Lib.hid hnum9
     have HS7:=Lib.hid s7
     have HT7:=Lib.hid T7
     have HBE:Hid (best (c+1) (fun w=>sm r (fun x=>ce L1 x y*F w x))=if best c (fun w=>sm r (fun x=>ce L1 x y*F w x))<sm r (fun x=>ce L1 x y*F c x) then sm r (fun x=>ce L1 x y*F c x) else best c (fun w=>sm r (fun x=>ce L1 x y*F w x))):=rfl
     obtain ⟨c01,c02⟩:=HLM.out wc hB
     have q1:w.heap.size<wc.heap.size:=by omega
     clear hnum9 s7 hcell9
     go_wp2_with fail
     clear c01 c02 hc9
     go_loopw [10,32] (fun v i wr=>∃ (x:Nat) (rt:List R4),x≤r∧i = .int .i64 x∧OwnR wr wc.heap.size v rt∧rt.length=x∧ValL (k+2) wr (fun b=>v.ownBlock=some b) rt (fun x=>ce L1 x y*F c x)∧Below wc.heap.size wc wr) (fun _ i _=>r - (intOf i).toNat)
     case atStart=>exact ⟨0,[],by omega,rfl,OwnR.nil _ _,rfl,fun i r hr=>by simp at hr,Below.refl _ _⟩
     case round=>
      obtain ⟨x,rt,hx,rfl,hownt,hrlt,hvt,hBx⟩:=hrel
      obtain ⟨wx,rfl⟩:∃ wx:World,wx=wr:=⟨_,rfl⟩
      clear hB hBc
      have yx:=hBx.size; (try simp only [zs] at yx)
      have hB:Below w0.heap.size w0 wx:=HBA.out.trans (hBx.mono (by omega))
      by_cases hltx:x<r
      ·obtain ⟨lx,hex⟩:∃ l,L1[x]? = some l:=⟨_,List.getElem?_eq_getElem (by have:=HR.out; omega)⟩
       obtain ⟨a1',Dx,dx,ea,habx,hcellx0,hintx,lcx,lmx⟩:=H1.out.at hex
       injection ea with ea
       subst ea
       obtain ⟨nx,hnx⟩:∃ n,lx[y]? = some n:=⟨_,List.getElem?_eq_getElem (by have:=(HV.out.row hex).1; have:=HN1.out; omega)⟩
       have hnx2:=(HV.out.row hex).2 nx (List.mem_of_getElem? hnx)
       obtain ⟨ax,rfl,hbx,hcx, -, -⟩:=hintx.at hnx
       rw [(HV.out.row hex).1,HN1.out] at hcellx0 lcx
       have hcellx:wx.cell? (a1.add x)=some (.slice (some ax) n dx):=cell_keep (X:=fun _=>False) hcellx0 (by rw [addr_block]; exact habx) id (.of_below hB)
       obtain ⟨a8,b12,A12,m12,c12,b12',A12',m12',c12',rfl,hab8, -,x0,x1,x2,x3,r80⟩:=Nums.at HNUM.out hltx
       have HCE:Hid (ce L1 x y=(nx:Rat)):=ce_get hex hnx
       have HF1:Hid (Rsz k (F c x)):=HFZ.out c hltc x (by rw [HR.out]; exact hltx)
       have HM:Hid (Rsz (k+2) ((nx:Rat)*F c x)):=((rsz_int (by omega) (by omega)).mul HF1.out).mono (by omega)
       have hb8:(a8.add (x*4)).block<w0.heap.size:=by rw [addr_block]; exact hab8
       have HL:Hid (∀ W,Below w0.heap.size w0 W→(W.cell? (ax.add y)=some (.int .i64 nx)∧W.cell? (a8.add (x*4))=some (.bool b12))∧(W.cell? ⟨(a8.add (x*4)).block,(a8.add (x*4)).off+1,none⟩=some (.slice A12 m12 c12)∧W.cell? ⟨(a8.add (x*4)).block,(a8.add (x*4)).off+2,none⟩=some (.bool b12'))∧W.cell? ⟨(a8.add (x*4)).block,(a8.add (x*4)).off+3,none⟩=some (.slice A12' m12' c12')):=fun W hW=>
        ⟨⟨cell_keep (X:=fun _=>False) hcx (by rw [addr_block]; exact hbx) id (.of_below hW),cell_keep (X:=fun _=>False) x0 hb8 id (.of_below hW)⟩,⟨cell_keep (X:=fun _=>False) x1 hb8 id (.of_below hW),cell_keep (X:=fun _=>False) x2 hb8 id (.of_below hW)⟩,cell_keep (X:=fun _=>False) x3 hb8 id (.of_below hW)⟩
       have r8:=RatL.keep r80 (.of_below hB)
       have hown17:Hid (∀ b,u10.ownBlock=some b→b<wx.heap.size):=fun b hb=>(hownt.lt hb).1
       have k2:(0:Int)≤(x:Int):=by omega
       have k3:(x:Int)<(r:Int):=by omega
       have k4:(0:Int)≤(y:Int):=by omega
       have k5:(y:Int)<(n:Int):=by omega
       clear hnx hex x0 x1 x2 x3 hcx hintx r80 hcellx0
       go_wp2_with fail
       clear hcellx
       go_region_held3 (fun W=>(W.cell? (ax.add y)=some (.int .i64 nx)∧W.cell? (a8.add (x*4))=some (.bool b12))∧(W.cell? ⟨(a8.add (x*4)).block,(a8.add (x*4)).off+1,none⟩=some (.slice A12 m12 c12)∧W.cell? ⟨(a8.add (x*4)).block,(a8.add (x*4)).off+2,none⟩=some (.bool b12'))∧W.cell? ⟨(a8.add (x*4)).block,(a8.add (x*4)).off+3,none⟩=some (.slice A12' m12' c12'))
        (first | exact HL.out _ bel | exact HL.out _ (below_own (hB.trans ((bel:Below wx.heap.size wx (u1.alloc (.cells #[.bool b5, .slice A5 m5 c5, .bool b5', .slice A5' m5' c5'] 213))).mono (by omega))) (hownt.below (bel:Below wx.heap.size wx (u1.alloc (.cells #[.bool b5, .slice A5 m5 c5, .bool b5', .slice A5' m5' c5'] 213)))) hg9 (by omega) (by simp only [World.size_alloc]; omega)))
        (first
         | (go_at_call 298; refine (kwhole_any _ nx (by omega) (by omega)).mono ?_; rintro e u2 ⟨v2,rfl,j2,hb2⟩; obtain ⟨b22,A22,m22,c22,b22',A22',m22',c22',rfl,j2, -, -⟩:=j2.op; have y12:=hb2.size; (try simp only [zs] at y12))
         | (go_at_call 293; refine (mul_rat _ (fun _=>False) _ _ (nx:Rat) (F c x) (RatL.to (j2.len ((rsz_int (by omega) (by omega)).mono (show 2≤10000000 by omega)))) (RatL.to (r8.mono (by omega)))).mono ?_; rintro e u1 ⟨v5,rfl,i5,hb5⟩; obtain ⟨b5,A5,m5,c5,b5',A5',m5',c5',rfl,i5, -, -⟩:=i5.op; have y6:=hb5.size; (try simp only [zs] at y6))
         | (refine step_pushR _ rfl _ _ rfl wc.heap.size u10 rt rfl (hownt.below (bel:Below wx.heap.size wx (u1.alloc (.cells #[.bool b5, .slice A5 m5 c5, .bool b5', .slice A5' m5' c5'] 213)))) _ ⟨b5,A5,m5,c5,b5',A5',m5',c5'⟩ rfl (heap_alloc_new u1 _) (by omega) (by simp only [World.size_alloc]; omega) ?_; intro g cap w9 hown9 hg9 ho9 hl9))
       all_goals
        have hb99:Below wc.heap.size wc w9:=below_own (hBx.trans ((bel:Below wx.heap.size wx (u1.alloc (.cells #[.bool b5, .slice A5 m5 c5, .bool b5', .slice A5' m5' c5'] 213))).mono yx)) (hownt.below (bel:Below wx.heap.size wx (u1.alloc (.cells #[.bool b5, .slice A5 m5 c5, .bool b5', .slice A5' m5' c5'] 213)))) hg9 (Nat.le_refl _) (by simp only [World.size_alloc]; omega)
        have hvv:ValL (k+2) (u1.alloc (.cells #[.bool b5, .slice A5 m5 c5, .bool b5', .slice A5' m5' c5'] 213)) (fun b=>u10.ownBlock=some b) rt (fun x=>ce L1 x y*F c x):=hvt.keep (Keep.of_below (bel:Below wx.heap.size wx (u1.alloc (.cells #[.bool b5, .slice A5 m5 c5, .bool b5', .slice A5' m5' c5'] 213))))
        have hrr9:RatL (k+2) (u1.alloc (.cells #[.bool b5, .slice A5 m5 c5, .bool b5', .slice A5' m5' c5'] 213)) (fun b=>u10.ownBlock=some b) (R4.v ⟨b5,A5,m5,c5,b5',A5',m5',c5'⟩) (ce L1 rt.length y*F c rt.length):=by
         rw [hrlt,HCE.out]
         exact RatL.keep (RatL.weak (i5.len HM.out) (fun b _ hb=>by have:=hown17.out b hb; show b<_; simp only [size_drew] at *; omega)) kp
        have hg3:=ValL.grow hvv hrr9 hg9 ho9
        clear hvv hrr9 hb5
        go_wp2_with fail
        go_roundw
        case rel=>
         refine ⟨x+1,rt ++ [⟨b5,A5,m5,c5,b5',A5',m5',c5'⟩],by omega,by go_num,(by rw [hrlt] at hown9; exact hown9),by simp [hrlt],hg3.weak (fun b _ hb=>?_),hb99⟩
         injection hb with hb
         exact hb.symm
        case measure=>simp only [intOf]; omega
      ·obtain rfl:r=x:=by omega
       have hnums:Nums (k+2) wx (fun _=>False) u10 rt.length (fun x=>ce L1 x y*F c x):=hownt.nums hvt (fun _ _ h=>h.elim) (fun _ _ h=>h)
       rw [hrlt] at hnums
       have HNU:=Lib.hid hnums
       have HSB:=Lib.hid (HBZ.out y hlty c hc)
       have HSG:=Lib.hid (HGZ.out y hlty c hltc r (Nat.le_refl _))
       have HS70:=HS7.out
       obtain ⟨bv,hbv⟩:∃ q,best c (fun w=>sm r (fun x=>ce L1 x y*F w x))=q:=⟨_,rfl⟩
       obtain ⟨nv,hnv⟩:∃ q,sm r (fun x=>ce L1 x y*F c x)=q:=⟨_,rfl⟩
       have HNV:=Lib.hid hnv
       rw [hbv] at HS70 HSB HBE
       rw [hnv] at HSG HBE
       obtain ⟨q,hq⟩:∃ q,rcmp nv bv=q:=⟨_,rfl⟩
       have HQ:=Lib.hid hq
       have HZ:Hid (0<q↔bv<nv):=by show _↔_; rw [←hq]; exact rcmp_pos _ _
       clear hnums hvt hownt hbv hnv hq
       go_wp2_with fail
       refine (ksum_any _ _ r (k+2) _ HNU.out hL (by omega) (by omega)).mono ?_
       rintro e w3 ⟨v3,rfl,i3,hb3⟩
       rw [HNV.out] at i3
       obtain ⟨b10,A10,m10,c10,b10',A10',m10',c10',rfl,i3, -, -⟩:=i3.op
       have y3:=hb3.size; (try simp only [zs] at y3)
       obtain ⟨wA,hwA⟩:∃ W,w3.alloc (.cells #[.bool b10, .slice A10 m10 c10, .bool b10', .slice A10' m10' c10'] 213)=W:=⟨_,rfl⟩
       have HWA:=Lib.hid hwA
       have LA:Loc wA w3.heap.size 213 #[.bool b10, .slice A10 m10 c10, .bool b10', .slice A10' m10' c10']:=by rw [←hwA]; exact made1 w3 _ _
       have hcA:Below wc.heap.size wc wA:=by rw [←hwA]; exact (hBx.trans (hb3.mono yx)).alloc (by omega) _
       have T7A:Loc wA w2.heap.size 213 #[.bool b8, .slice A8 m8 c8, .bool b8', .slice A8' m8' c8']:=HT7.out.below hcA
       have S7A:RatV wA (fun b=>b=w2.heap.size∨b<wy.heap.size) (.agg #[.bool b8, .slice A8 m8 c8, .bool b8', .slice A8' m8' c8']) bv:=HS70.keep (.of_below hcA)
       have I3A:RatV wA (Old wx) (.agg #[.bool b10, .slice A10 m10 c10, .bool b10', .slice A10' m10' c10']) nv:=by rw [←hwA]; exact i3.keep (Keep.of_below (below1 _ _))
       have HI3:=Lib.hid I3A
       have HS7A:=Lib.hid S7A
       have HCA:Hid (Below wy.heap.size wy wA):=HBC.out.trans (hcA.mono yc)
       obtain ⟨e7,f7,l7⟩:=T7A.all (w':=wA)
       obtain ⟨e10,f10,l10⟩:=LA.all (w':=wA)
       have hxA:wx.heap.size≤wA.heap.size:=by have:=l10; omega
       clear hwA hb3 hBx hB i3 HS70 T7
       go_wp2_with (rw [HWA.out])
       refine (ratcompare_any _ (fun _=>False) _ _ nv bv (RatL.to ((I3A.len HSG.out).mono (by omega))) (RatL.to ((S7A.len HSB.out).mono (by omega)))).mono ?_
       rintro e w5 ⟨he,hb5⟩
       rw [HQ.out] at he
       subst he
       have y5:=hb5.size; (try simp only [zs] at y5)
       clear e7 f7 e10 f10 I3A S7A
       have HN5:Hid (RatV w5 (Old wx) (.agg #[.bool b10, .slice A10 m10 c10, .bool b10', .slice A10' m10' c10']) nv):=HI3.out.keep (Keep.of_below hb5)
       have T7y:Loc w5 w2.heap.size _ _:=T7A.below hb5
       have T10y:Loc w5 w3.heap.size _ _:=LA.below hb5
       obtain ⟨e7,f7,l7'⟩:=T7y.all (w':=w5)
       obtain ⟨e10,f10,l10'⟩:=T10y.all (w':=w5)
       have HBF:Hid (Below wy.heap.size wy w5):=HCA.out.trans (hb5.mono (by omega))
       by_cases h0:0<q
       ·have HV2:Hid (best (c+1) (fun w=>sm r (fun x=>ce L1 x y*F w x))=nv):=by show _=_; rw [HBE.out,if_pos (HZ.out.1 h0)]
        have d1:decide (0<q)=true:=decide_eq_true h0
        have HH:=HN5.out
        have HW:Hid (Below wy.heap.size wy ((((w5.setCell ⟨w2.heap.size,0,none⟩ (.bool b10)).setCell ⟨w2.heap.size,1,none⟩ (.slice A10 m10 c10)).setCell ⟨w2.heap.size,2,none⟩ (.bool b10')).setCell ⟨w2.heap.size,3,none⟩ (.slice A10' m10' c10'))):=(((HBF.out.setCell (by dsimp only; omega) _).setCell (by dsimp only; omega) _).setCell (by dsimp only; omega) _).setCell (by dsimp only; omega) _
        clear HZ h0 hb5
        go_wp2_with fail
        go_roundw
        case rel=>exact ⟨c+1,⟨b10,A10,m10,c10,b10',A10',m10',c10'⟩,by omega,by go_num,Loc.fill4 T7y,by rw [HV2.out]; exact RatV.out HH,HW.out⟩
        case measure=>simp only [intOf]; omega
       ·have HV2:Hid (best (c+1) (fun w=>sm r (fun x=>ce L1 x y*F w x))=bv):=by show _=_; rw [HBE.out,if_neg (fun h=>h0 (HZ.out.2 h))]
        have d1:decide (0<q)=false:=decide_eq_false h0
        have HH:=Lib.hid (HS7A.out.keep (.of_below hb5))
        clear HZ h0
        go_wp2_with fail
        go_roundw
        case rel=>exact ⟨c+1,⟨b8,A8,m8,c8,b8',A8',m8',c8'⟩,by omega,by go_num,T7y,by rw [HV2.out]; exact HH.out,HBF.out⟩
        case measure=>simp only [intOf]; omega
    ·obtain rfl:K=c:=by omega
     have HB1:=Lib.hid (HBZ.out y hlty K (Nat.le_refl _))
     have hownc:OwnR wc w0.heap.size u5 rs:=hown.below hBc
     have hownw:∀ b,u5.ownBlock=some b→b<wy.heap.size:=hown7.out
     have hw2y:wy.heap.size≤w2.heap.size:=HW2.out
     obtain ⟨e7,f7, -⟩:=T7.all (w':=wc)
     go_wp2_with (at_builtin; refine wpList_pushR _ rfl _ _ rfl w0.heap.size _ rs rfl (hownc.below (below1 wc _)) _ ⟨b8,A8,m8,c8,b8',A8',m8',c8'⟩ rfl (heap_alloc_new wc _) (by omega) (by simp only [World.size_alloc]; omega) ?_)
     intro g cap w9 hown9 hg9 ho9 hl9
     have hb99:Below w0.heap.size w0 w9:=below_own (hB.trans ((below1 wc (.cells #[.bool b8, .slice A8 m8 c8, .bool b8', .slice A8' m8' c8'] 213)).mono (by omega))) (hownc.below (below1 wc _)) hg9 (Nat.le_refl _) (by simp only [World.size_alloc]; omega)
     have hvv:ValL B (wc.alloc (.cells #[.bool b8, .slice A8 m8 c8, .bool b8', .slice A8' m8' c8'] 213)) (fun b=>u5.ownBlock=some b) rs G:=hv.keep (Keep.of_below (hBc.trans ((below1 wc _).mono yc)))
     have hrr9:RatL B (wc.alloc (.cells #[.bool b8, .slice A8 m8 c8, .bool b8', .slice A8' m8' c8'] 213)) (fun b=>u5.ownBlock=some b) (R4.v ⟨b8,A8,m8,c8,b8',A8',m8',c8'⟩) (G rs.length):=by
      rw [hrl,HGE.out]
      exact RatL.keep (RatL.weak (s7.len HB1.out) (fun b _ hb=> .inr (hownw b hb))) (.of_below (below1 _ _))
     have hg3:=ValL.grow (g:=g) hvv hrr9 hg9 (by simp only [World.size_alloc]; exact ho9)
     clear hvv hrr9 e7 f7
     go_wp2_with fail
     go_roundw
     case rel=>
      refine ⟨y+1,rs ++ [⟨b8,A8,m8,c8,b8',A8',m8',c8'⟩],by omega,by go_num,hown9,by simp [hrl],hg3.weak (fun b _ hb=>?_),hb99⟩
      injection hb with hb
      exact hb.symm
     case measure=>simp only [intOf]; omega
  ·obtain rfl:n=y:=by omega
   have hnums:Nums B wy (fun _=>False) u5 rs.length G:=hown.nums hv (fun _ _ h=>h.elim) (fun _ _ h=>h)
   rw [hrl] at hnums
   have HNU:=Lib.hid hnums
   have NM:Loc wy (w.heap.size+1) 213 #[.bool false, .slice none 0 0, .bool false, .slice none 0 0]:=HM0.out.below hB
   clear hnums hv
   go_wp2_with fail
   refine (ksum_any _ _ n B G HNU.out hw (by omega) (by omega)).mono ?_
   rintro e w3 ⟨v3,rfl,i3,hb3⟩
   obtain ⟨b3,A3,m3,c3,b3',A3',m3',c3',rfl,i3, -, -⟩:=i3.op
   have y7:=hb3.size; (try simp only [zs] at y7)
   have NM3:Loc w3 (w.heap.size+1) _ _:=NM.below hb3
   obtain ⟨e6,g6,l6⟩:=NM3.all (w':=w3)
   have LF:=Loc.fill4 (u:= .bool b3) (v:= .slice A3 m3 c3) (x:= .bool b3') (y:= .slice A3' m3' c3') NM3
   obtain ⟨e8,g8, -⟩:=LF.all (w':=((((w3.setCell ⟨w.heap.size+1,0,none⟩ (.bool b3)).setCell ⟨w.heap.size+1,1,none⟩ (.slice A3 m3 c3)).setCell ⟨w.heap.size+1,2,none⟩ (.bool b3')).setCell ⟨w.heap.size+1,3,none⟩ (.slice A3' m3' c3')))
   have HB3:Hid (Below w.heap.size w w3):=HBW.out _ (hB.trans (hb3.mono yy))
   go_wp2_with fail
   refine bodyPost_ret (by simp [results,Tryz.results299,go_sem,e8,g8] <;> rfl) rfl ⟨_,rfl,RatV.out i3,?_⟩
   exact (((HB3.out.setCell (by dsimp only; omega) _).setCell (by dsimp only; omega) _).setCell (by dsimp only; omega) _).setCell (by dsimp only; omega) _
end Go.Proofs.YtbdcjhoedhhabaaGreat

