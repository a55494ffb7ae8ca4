/- Contracts of the functions that the statements reach, part 36. -/
import Derived.Test.YtbdcjhoedhhabaaGreatRows
import Derived.Test.YtbdcjhoedhhabaaGreatF34
set_option linter.unusedSimpArgs false
set_option linter.unusedVariables false

/- refinement.worth. -/
namespace Go.Proofs.YtbdcjhoedhhabaaGreat
open Go.RowKit
attribute [local go_sem ↓] Go.wp_at_zero Go.wp_at_succ

theorem rcmp_pos (x y:Rat):0<rcmp x y↔y<x:=by
 have h:=rcmp_le x y
 have h2:x≤y↔¬ y<x:=by grind
 constructor
 ·intro h1
  exact Classical.not_not.1 (fun hn=>by have:=h.2 (h2.2 hn); omega)
 ·intro h1
  have:¬ rcmp x y≤0:=fun hn=>(h2.1 (h.1 hn)) h1
  omega
theorem best_rsz {f:Nat→Rat} {B:Nat} (hB:2≤B):∀ K,(∀ i,i<K→Rsz B (f i))→Rsz B (best K f)
 | 0,_=>(rsz_int (z:=0) (by decide) (by decide)).mono hB
 | K + 1, h => by
   unfold best
   split
   ·exact h K (by omega)
   ·exact best_rsz hB K (fun i hi=>h i (by omega))
theorem sum_le_rsz {f:Nat→Rat} {B n:Nat} (h:∀ i,i<n→Rsz B (f i)):∀ i,i≤n→Rsz ((B+1)*i+2) (sm i f)
 | 0,_=>(rsz_int (z:=0) (by decide) (by decide)).mono (by omega)
 | i + 1, hi => by
   rw [sm_succ]
   exact ((sum_le_rsz h i (by omega)).add (h i (by omega))).mono (by rw [Nat.mul_add]; omega)
/-- The sizes of the gains of an action. -/
theorem gain_rsz {L:List (List Int)} {k y:Nat} {f:Nat→Rat} (h:VC L) (hy:y<wid L) (hF:∀ x,x<L.length→Rsz k (f x)):∀ i,i≤L.length→Rsz ((2+k+1)*i+2) (sm i (fun x=>ce L x y*f x)):=
 sum_le_rsz (fun x hx=>(h.ce_rsz hx hy).mul (hF x hx))

set_option maxRecDepth 100000 in
set_option maxHeartbeats 16000000 in
theorem worth_any (w:World) (v1 vg:Value) (L1:List (List Int)) (K k B:Nat) (N:Nat→Nat) (F:Nat→Nat→Rat) (h1:IMat w v1 L1) (hV:VC L1) (h:Mat k w (fun _=>False) vg K N F)
 (hN:∀ i,i<K→N i=L1.length) (hK:K≤200) (hw:wid L1≤200) (hk1:1≤k) (hB:(2+k+1)*L1.length+2≤B) (hB2:B≤40000) :
 Calls Tryz.prog 295 #[.agg #[v1],vg] w fun e w'=>∃ v',e = .returned v'∧RatV w' (Old w) v' (worthV (wid L1) K L1.length (ce L1) F)∧Below w.heap.size w w':=by
 have H1:=Lib.hid h1
 have HV:=Lib.hid hV
 have H:=Lib.hid h
 have HNN:=Lib.hid hN
 have HFZ:Hid (∀ i,i<K→∀ x,x<L1.length→Rsz k (F i x)):=fun i hi x hx=>h.rsz hk1 i hi x (by rw [hN i hi]; exact hx)
 obtain ⟨A1,c1,rfl, -,la1,la2⟩:=h1.op
 obtain ⟨A,cA,rfl, -,l1,l2⟩:=h.op
 have HGZ:Hid (∀ y,y<wid L1→∀ i,i<K→∀ x,x≤L1.length→Rsz B (sm x (fun x=>ce L1 x y*F i x))):=fun y hy i hi x hx=>(gain_rsz hV hy (HFZ.out i hi) x hx).mono (by
  have:=Nat.mul_le_mul_left (2+k+1) hx
  omega)
 have HBZ:Hid (∀ y,y<wid L1→∀ i,i≤K→Rsz B (best i (fun w=>sm L1.length (fun x=>ce L1 x y*F w x)))):=fun y hy i hi=>best_rsz (by omega) i (fun j hj=>HGZ.out y hy j (by omega) _ (Nat.le_refl _))
 have HSZ:Hid (∀ y,y≤wid L1→Rsz 8100000 (sm y (fun y=>best K (fun w=>sm L1.length (fun x=>ce L1 x y*F w x))))):=fun y hy=>(sum_le_rsz (fun i hi=>HBZ.out i hi K (Nat.le_refl _)) y hy).mono (by
  have:(B+1)*y≤40001*200:=Nat.mul_le_mul (by omega) (by omega)
  omega)
 have hk2:k≤40000:=by have:=Nat.le_mul_of_pos_right (2+k+1) (show 0<L1.length from hV.1); omega
 have hr1:=hV.1
 have hr2:=hV.2.1
 obtain ⟨r,hr⟩:∃ r,L1.length=r:=⟨_,rfl⟩
 have HR:=Lib.hid hr
 rw [hr] at la1 H1 hr1 hr2 HGZ HBZ HSZ HNN
 rw [hr]
 obtain ⟨n,hn⟩:∃ n,wid L1=n:=⟨_,rfl⟩
 have HN1:=Lib.hid hn
 rw [hn] at hw HGZ HBZ HSZ
 rw [hn]
 obtain ⟨l1',he1⟩:∃ l,L1[0]? = some l:=⟨_,List.getElem?_eq_getElem (by have:=HR.out; omega)⟩
 obtain ⟨a1,D1,d1,rfl,hab1,hcell1, -,lc1, -⟩:=H1.out.at he1
 rw [(HV.out.row he1).1,hn] at hcell1 lc1
 rw [addr_zero] at hcell1
 unfold worthV
 obtain ⟨G,hG⟩:∃ G:Nat→Rat,(fun y=>best K (fun w=>sm r (fun x=>ce L1 x y*F w x)))=G:=⟨_,rfl⟩
 have HG:=Lib.hid hG
 rw [hG] at HSZ
 rw [hG]
 have i1:(0:Int)<(r:Int):=by omega
 have L:=made1 w #[.slice (some a1) r c1] 120
 have M:=made2 w (.cells #[.slice (some a1) r c1] 120) #[.bool false, .slice none 0 0, .bool false, .slice none 0 0] 213
 clear h1 hV h hr hN he1 hn hG
 go_enter Tryz.func295,Tryz.ntmps295
 go_wp2_with fail
 refine (rwhole_any _ 0 (by decide) (by decide)).mono ?_
 rintro e w1 ⟨v1,rfl,i5,hb1⟩
 rw [show ((0:Int):Rat)=0 from rfl] at i5
 obtain ⟨z1,z2⟩:=sz2 hb1
 obtain ⟨b5,A5,m5,c5,b5',A5',m5',c5',rfl,i5, -, -⟩:=i5.op
 have T:=made1 w1 #[.bool b5, .slice A5 m5 c5, .bool b5', .slice A5' m5' c5'] 213
 have NL:Loc w1 w.heap.size _ _:=L.to
 have NM:Loc w1 (w.heap.size+1) _ _:=M.to
 have hc1:(w1.alloc (.cells #[.bool b5, .slice A5 m5 c5, .bool b5', .slice A5' m5' c5'] 213)).cell? a1=_:=cell_keep (X:=fun _=>False) hcell1 hab1 id kp
 obtain ⟨e1,f1, -⟩:=NL.all (w':=w1.alloc (.cells #[.bool b5, .slice A5 m5 c5, .bool b5', .slice A5' m5' c5'] 213))
 go_wp2_with fail
 clear e1 f1 hc1 hcell1
 go_loopw [19] (fun i wr=>∃ (y:Nat) (q:R4),y≤n∧i = .int .i64 y∧Loc wr w1.heap.size 213 #[.bool q.b, .slice q.A q.m q.c, .bool q.b', .slice q.A' q.m' q.c']∧RatV wr (fun b=>b=w1.heap.size∨b≤w.heap.size+1) q.v (sm y G)∧
  Loc wr w.heap.size 120 #[.slice (some a1) r c1]∧Loc wr (w.heap.size+1) 213 #[.bool false, .slice none 0 0, .bool false, .slice none 0 0]∧Below w.heap.size w wr) (fun i _=>n - (intOf i).toNat)
 case atStart=>exact ⟨0,⟨b5,A5,m5,c5,b5',A5',m5',c5'⟩,by omega,rfl,T,RatV.out i5,NL.to,NM.to,bel⟩
 case round=>
  obtain ⟨y,q,hy,rfl,Ty,sy,NLy,NMy,hBy⟩:=hrel
  obtain ⟨wy,rfl⟩:∃ wy:World,wy=wr:=⟨_,rfl⟩
  obtain ⟨b6,A6,m6,c6,b6',A6',m6',c6'⟩:=q
  unfold R4.v at sy
  dsimp only at Ty sy
  clear i5 T NL NM L M hb1
  have yy:=hBy.size; (try simp only [zs] at yy)
  have q5:=Ty.lt
  have q6:=NLy.lt
  have q7:=NMy.lt
  by_cases hlty:y<n
  ·have HGE:Hid (sm (y+1) G=sm y G+best K (fun w=>sm r (fun x=>ce L1 x y*F w x))):=by show _=_; rw [sm_succ,← HG.out]
   have HBY:=Lib.hid hBy
   have HSY:=Lib.hid sy
   clear sy
   go_wp2_with fail
   refine (rwhole_any _ 0 (by decide) (by decide)).mono ?_
   rintro e w2 ⟨v2,rfl,i6,hb2⟩
   rw [show ((0:Int):Rat)=0 from rfl] at i6
   have y2:=hb2.size; (try simp only [zs] at y2)
   obtain ⟨b7,A7,m7,c7,b7',A7',m7',c7',rfl,i6, -, -⟩:=i6.op
   have T7:=made1 w2 #[.bool b7, .slice A7 m7 c7, .bool b7', .slice A7' m7' c7'] 213
   go_wp2_with fail
   go_loopw [25] (fun i wr=>∃ (c:Nat) (q:R4),c≤K∧i = .int .i64 c∧Loc wr w2.heap.size 213 #[.bool q.b, .slice q.A q.m q.c, .bool q.b', .slice q.A' q.m' q.c']∧RatV wr (fun b=>b=w2.heap.size∨b<wy.heap.size) q.v (best c (fun w=>sm r (fun x=>ce L1 x y*F w x)))∧Below wy.heap.size wy wr) (fun i _=>K - (intOf i).toNat)
   case atStart=>exact ⟨0,⟨b7,A7,m7,c7,b7',A7',m7',c7'⟩,by omega,rfl,T7,RatV.out i6,bel⟩
   case round=>
    obtain ⟨c,q,hc,rfl,T7,s7,hBc⟩:=hrel
    obtain ⟨wc,rfl⟩:∃ wc:World,wc=wr:=⟨_,rfl⟩
    obtain ⟨b8,A8,m8,c8,b8',A8',m8',c8'⟩:=q
    unfold R4.v at s7
    dsimp only at T7 s7
    clear i6
    have yc:=hBc.size; (try simp only [zs] at yc)
    have q8:=T7.lt
    by_cases hltc:c<K
    ·have HBA:=Lib.hid (HBY.out.trans (hBc.mono yy))
     obtain ⟨a9,D9,d9,rfl,hab9, -,hcell9,hnum9,lc9, -⟩:=Mat.at (Mat.keep H.out (.of_below HBA.out)) hltc
     rw [HNN.out c hltc] at hcell9 hnum9 lc9
     have k0:(0:Int)≤(c:Int):=by omega
     have k1:(c:Int)<(K:Int):=by omega
     have HNUM:=Lib.hid hnum9
     have HBC:=Lib.hid hBc
     have HS7:=Lib.hid s7
     have HBE:Hid (best (c+1) (fun w=>sm r (fun x=>ce L1 x y*F w x))=if best c (fun w=>sm r (fun x=>ce L1 x y*F w x))<sm r (fun x=>ce L1 x y*F c x) then sm r (fun x=>ce L1 x y*F c x) else best c (fun w=>sm r (fun x=>ce L1 x y*F w x))):=rfl
     clear hnum9 s7
     go_wp2_with fail
     refine (rwhole_any _ 0 (by decide) (by decide)).mono ?_
     rintro e w3 ⟨v3,rfl,i9,hb3⟩
     rw [show ((0:Int):Rat)=0 from rfl] at i9
     have y3:=hb3.size; (try simp only [zs] at y3)
     obtain ⟨b10,A10,m10,c10,b10',A10',m10',c10',rfl,i9, -, -⟩:=i9.op
     have T10:=made1 w3 #[.bool b10, .slice A10 m10 c10, .bool b10', .slice A10' m10' c10'] 213
     have NL3:Loc w3 w.heap.size _ _:=NLy.to
     obtain ⟨e6,f6, -⟩:=NL3.all (w':=w3.alloc (.cells #[.bool b10, .slice A10 m10 c10, .bool b10', .slice A10' m10' c10'] 213))
     go_wp2_with fail
     clear e6 f6 hcell9
     go_loopw [33] (fun i wr=>∃ (x:Nat) (q:R4),x≤r∧i = .int .i64 x∧Loc wr w3.heap.size 213 #[.bool q.b, .slice q.A q.m q.c, .bool q.b', .slice q.A' q.m' q.c']∧RatV wr (fun b=>b=w3.heap.size∨b<wc.heap.size) q.v (sm x (fun x=>ce L1 x y*F c x))∧Below wc.heap.size wc wr) (fun i _=>r - (intOf i).toNat)
     case atStart=>exact ⟨0,⟨b10,A10,m10,c10,b10',A10',m10',c10'⟩,by omega,rfl,T10,RatV.out i9,bel⟩
     case round=>
      obtain ⟨x,q,hx,rfl,T10,s10,hBx⟩:=hrel
      obtain ⟨wx,rfl⟩:∃ wx:World,wx=wr:=⟨_,rfl⟩
      obtain ⟨b11,A11,m11,c11,b11',A11',m11',c11'⟩:=q
      unfold R4.v at s10
      dsimp only at T10 s10
      clear i9
      have yx:=hBx.size; (try simp only [zs] at yx)
      have q9:=T10.lt
      have hBX:Hid (Below w.heap.size w wx):=HBA.out.trans (hBx.mono (by omega))
      by_cases hltx:x<r
      ·obtain ⟨lx,hex⟩:∃ l,L1[x]? = some l:=⟨_,List.getElem?_eq_getElem (by have:=HR.out; omega)⟩
       obtain ⟨a1',Dx,dx,ea,habx,hcellx,hintx,lcx,lmx⟩:=(H1.out.keep (.of_below hBX.out)).at hex
       injection ea with ea
       subst ea
       obtain ⟨nx,hnx⟩:∃ n,lx[y]? = some n:=⟨_,List.getElem?_eq_getElem (by have:=(HV.out.row hex).1; have:=HN1.out; omega)⟩
       have hnx2:=(HV.out.row hex).2 nx (List.mem_of_getElem? hnx)
       obtain ⟨ax,rfl,hbx,hcx, -, -⟩:=hintx.at hnx
       rw [(HV.out.row hex).1,HN1.out] at hcellx lcx
       obtain ⟨a8,b12,A12,m12,c12,b12',A12',m12',c12',rfl,hab8, -,x0,x1,x2,x3,r8⟩:=Nums.at (Nums.keep HNUM.out (.of_below hBx)) hltx
       have HE:Hid (sm (x+1) (fun x=>ce L1 x y*F c x)=sm x (fun x=>ce L1 x y*F c x)+(nx:Rat)*F c x):=by
        show _=_
        rw [sm_succ,ce_get hex hnx]
       have HS1:=Lib.hid (HGZ.out y hlty c hltc x hx)
       have HF1:Hid (Rsz k (F c x)):=HFZ.out c hltc x (by rw [HR.out]; exact hltx)
       have HLS:Hid (∀ W,Keep (fun _=>False) wx W→((W.cell? ⟨w3.heap.size,0,none⟩=some (.bool b11)∧W.cell? ⟨w3.heap.size,1,none⟩=some (.slice A11 m11 c11))∧W.cell? ⟨w3.heap.size,2,none⟩=some (.bool b11')∧W.cell? ⟨w3.heap.size,3,none⟩=some (.slice A11' m11' c11'))∧
        (W.cell? (ax.add y)=some (.int .i64 nx)∧W.cell? (a8.add (x*4))=some (.bool b12))∧(W.cell? ⟨(a8.add (x*4)).block,(a8.add (x*4)).off+1,none⟩=some (.slice A12 m12 c12)∧W.cell? ⟨(a8.add (x*4)).block,(a8.add (x*4)).off+2,none⟩=some (.bool b12'))∧W.cell? ⟨(a8.add (x*4)).block,(a8.add (x*4)).off+3,none⟩=some (.slice A12' m12' c12')):=fun W hW=>by
        have hb8:(a8.add (x*4)).block<wx.heap.size:=by rw [addr_block]; exact hab8
        exact ⟨⟨⟨cell_keep (Loc.c 0 T10) q9 id hW,cell_keep (Loc.c 1 T10) q9 id hW⟩,cell_keep (Loc.c 2 T10) q9 id hW,cell_keep (Loc.c 3 T10) q9 id hW⟩,⟨cell_keep hcx (by rw [addr_block]; exact hbx) id hW,cell_keep x0 hb8 id hW⟩,⟨cell_keep x1 hb8 id hW,cell_keep x2 hb8 id hW⟩,cell_keep x3 hb8 id hW⟩
       have k2:(0:Int)≤(x:Int):=by omega
       have k3:(x:Int)<(r:Int):=by omega
       have k4:(0:Int)≤(y:Int):=by omega
       have k5:(y:Int)<(n:Int):=by omega
       clear hnx hex x0 x1 x2 x3 hcx hintx
       go_upto_block 5 with fail
       go_cut [] from 35 to 50 (fun W=>∃ q:R4,Loc W w3.heap.size 213 #[.bool q.b, .slice q.A q.m q.c, .bool q.b', .slice q.A' q.m' q.c']∧RatV W (fun b=>b=w3.heap.size∨b<wc.heap.size) q.v (sm (x+1) (fun x=>ce L1 x y*F c x))∧Below wc.heap.size wc W)
       case first=>
        go_wp2_with fail
        refine wp_region_noPanic ?_
        refine wp_region_heldK (k:=12) (S:=(fun W=>((W.cell? ⟨w3.heap.size,0,none⟩=some (.bool b11)∧W.cell? ⟨w3.heap.size,1,none⟩=some (.slice A11 m11 c11))∧W.cell? ⟨w3.heap.size,2,none⟩=some (.bool b11')∧W.cell? ⟨w3.heap.size,3,none⟩=some (.slice A11' m11' c11'))∧(W.cell? (ax.add y)=some (.int .i64 nx)∧W.cell? (a8.add (x*4))=some (.bool b12))∧(W.cell? ⟨(a8.add (x*4)).block,(a8.add (x*4)).off+1,none⟩=some (.slice A12 m12 c12)∧W.cell? ⟨(a8.add (x*4)).block,(a8.add (x*4)).off+2,none⟩=some (.bool b12'))∧W.cell? ⟨(a8.add (x*4)).block,(a8.add (x*4)).off+3,none⟩=some (.slice A12' m12' c12'))) (by kernel_rfl) ?_ (fun hHeld=>?_)
        ·exact HLS.out _ kp
        refine tkK 0 ?_
        (try simp only [Act.put,ly])
        refine puK 1 ?_
        (try simp only [Act.put,ly])
        refine puK 2 ?_
        (try simp only [Act.put,ly])
        refine puK 3 ?_
        (try simp only [Act.put,ly])
        refine tkK 4 ?_
        (try simp only [Act.put,ly])
        refine puK 6 ?_
        (try simp only [Act.put,ly])
        refine puK 7 ?_
        (try simp only [Act.put,ly])
        refine puK 8 ?_
        (try simp only [Act.put,ly])
        refine tkK 9 ?_
        (try simp only [Act.put,ly])
        refine wpAnyK_ready (rs:=[5]) (by kernel_rfl) (by simp) ?_
        refine AllReadyK.cons rfl (fun KK hKK=>?_) AllReadyK.nil
        go_simp
        refine (rwhole_any _ nx (by omega) (by omega)).mono ?_
        rintro e u1 ⟨v1,rfl,j1,hb1⟩
        obtain ⟨b21,A21,m21,c21,b21',A21',m21',c21',rfl,j1, -, -⟩:=j1.op
        have y11:=hb1.size; (try simp only [zs] at y11)
        (try go_wp2_with fail)
        refine hKK.out _ _ ?_ (fun hHeld=>?_)
        ·(try dsimp only)
         exact HLS.out _ kp
        clear hKK KK
        (try simp only [Act.put,ly])
        refine wpAnyK_ready (rs:=[10]) (by kernel_rfl) (by simp) ?_
        refine AllReadyK.cons rfl (fun KK hKK=>?_) AllReadyK.nil
        go_simp
        refine (mul_rat _ (fun _=>False) _ _ (nx:Rat) (F c x) (RatL.to (j1.len ((rsz_int (by omega) (by omega)).mono (show 2≤10000000 by omega)))) (RatL.to (r8.mono (by omega)))).mono ?_
        rintro e u2 ⟨v2,rfl,j2,hb2⟩
        obtain ⟨b22,A22,m22,c22,b22',A22',m22',c22',rfl,j2, -, -⟩:=j2.op
        have y12:=hb2.size; (try simp only [zs] at y12)
        (try go_wp2_with fail)
        refine hKK.out _ _ ?_ (fun hHeld=>?_)
        ·(try dsimp only)
         exact HLS.out _ kp
        clear hKK KK
        (try simp only [Act.put,ly])
        refine wpAnyK_ready (rs:=[11]) (by kernel_rfl) (by simp) ?_
        refine AllReadyK.cons rfl (fun KK hKK=>?_) AllReadyK.nil
        go_simp
        refine (add_rat _ (fun _=>False) _ _ (sm x (fun x=>ce L1 x y*F c x)) ((nx:Rat)*F c x) (RatL.to ((s10.len HS1.out).mono (by omega))) (RatL.to ((j2.len ((rsz_int (by omega) (by omega)).mul HF1.out)).mono (by omega)))).mono ?_
        rintro e u3 ⟨v3,rfl,j3,hb3⟩
        rw [←HE.out] at j3
        obtain ⟨b23,A23,m23,c23,b23',A23',m23',c23',rfl,j3, -, -⟩:=j3.op
        have y13:=hb3.size; (try simp only [zs] at y13)
        obtain ⟨e3,f3, -⟩:=Loc.all T10 (w':=u3)
        (try go_wp2_with fail)
        refine hKK.out _ _ ?_ (fun hHeld=>?_)
        ·(try dsimp only)
         exact HLS.out _ kp
        clear hKK KK
        (try simp only [Act.put,ly])
        refine wpAnyK_ready (rs:=[12]) (by kernel_rfl) (by simp) ?_
        refine AllReadyK.last (by kernel_rfl) rfl (fun KK hKK=>?_) AllReadyK.nil
        go_simp
        refine hKK.out _ _ ?_
        clear hKK KK
        (try simp only [Act.put,ly])
        refine wpAnyK_done (by kernel_rfl) ?_ _
        refine NoPanic.normal ?_
        go_wp2_with fail
        go_meet
        exact ⟨⟨b23,A23,m23,c23,b23',A23',m23',c23'⟩,Loc.fill4 (Loc.to T10 (w':=u3)),RatV.out j3,bel⟩
       case rest=>
        obtain ⟨q,T9,s9,hB9⟩:=hcut
        obtain ⟨w9,rfl⟩:∃ w9:World,w9=wc:=⟨_,rfl⟩
        go_wp2_with fail
        go_roundw
        case rel=>exact ⟨x+1,q,by omega,by go_num,T9,s9,hB9⟩
        case measure=>simp only [intOf]; omega
      ·obtain rfl:x=r:=by omega
       have HN9:=Lib.hid s10
       have T7x:Loc wx w2.heap.size _ _:=T7.to
       obtain ⟨e7,f7,l7⟩:=T7x.all (w':=wx)
       obtain ⟨e10,f10,l10⟩:=T10.all (w':=wx)
       have S7x:=HS7.out.keep (Keep.of_below hBx)
       have HSB:=Lib.hid (HBZ.out y hlty c hc)
       have HSG:=Lib.hid (HGZ.out y hlty c hltc x (Nat.le_refl _))
       obtain ⟨bv,hbv⟩:∃ q,best c (fun w=>sm x (fun x=>ce L1 x y*F w x))=q:=⟨_,rfl⟩
       obtain ⟨nv,hnv⟩:∃ q,sm x (fun x=>ce L1 x y*F c x)=q:=⟨_,rfl⟩
       have HN9E:=Lib.hid hbv
       rw [hbv] at S7x HSB HBE
       rw [hnv] at s10 HSG HBE HN9
       obtain ⟨q,hq⟩:∃ q,rcmp nv bv=q:=⟨_,rfl⟩
       have HQ:=Lib.hid hq
       have HZ:Hid (0<q↔bv<nv):=by show _↔_; rw [←hq]; exact rcmp_pos _ _
       clear hbv hnv hq
       go_wp2_with fail
       refine (ratcompare_any _ (fun _=>False) _ _ nv bv (RatL.to ((s10.len HSG.out).mono (by omega))) (RatL.to ((S7x.len HSB.out).mono (by omega)))).mono ?_
       rintro e w5 ⟨he,hb5⟩
       rw [HQ.out] at he
       subst he
       have y5:=hb5.size; (try simp only [zs] at y5)
       clear S7x s10 e7 f7 e10 f10
       have HN5:Hid (RatV w5 (fun b=>b=w3.heap.size∨b<wc.heap.size) (.agg #[.bool b11, .slice A11 m11 c11, .bool b11', .slice A11' m11' c11']) nv):=HN9.out.keep (Keep.of_below hb5)
       have T7y:Loc w5 w2.heap.size _ _:=T7x.to
       have T10y:Loc w5 w3.heap.size _ _:=T10.to
       obtain ⟨e7,f7,l7'⟩:=T7y.all (w':=w5)
       obtain ⟨e10,f10,l10'⟩:=T10y.all (w':=w5)
       have HBF:Hid (Below wy.heap.size wy w5):=HBC.out.trans ((hBx.trans (hb5.mono yx)).mono yc)
       by_cases h0:0<q
       ·have HV2:Hid (best (c+1) (fun w=>sm x (fun x=>ce L1 x y*F w x))=nv):=by show _=_; rw [HBE.out,if_pos (HZ.out.1 h0)]
        have d1:decide (0<q)=true:=decide_eq_true h0
        have HH:=HN5.out
        have HW:Hid (Below wy.heap.size wy ((((w5.setCell ⟨w2.heap.size,0,none⟩ (.bool b11)).setCell ⟨w2.heap.size,1,none⟩ (.slice A11 m11 c11)).setCell ⟨w2.heap.size,2,none⟩ (.bool b11')).setCell ⟨w2.heap.size,3,none⟩ (.slice A11' m11' c11'))):=(((HBF.out.setCell (by dsimp only; omega) _).setCell (by dsimp only; omega) _).setCell (by dsimp only; omega) _).setCell (by dsimp only; omega) _
        clear HZ h0 hBx hb5 hBc hBy
        go_wp2_with fail
        go_roundw
        case rel=>exact ⟨c+1,⟨b11,A11,m11,c11,b11',A11',m11',c11'⟩,by omega,by go_num,Loc.fill4 T7y,by rw [HV2.out]; exact RatV.out HH,HW.out⟩
        case measure=>simp only [intOf]; omega
       ·have HV2:Hid (best (c+1) (fun w=>sm x (fun x=>ce L1 x y*F w x))=bv):=by show _=_; rw [HBE.out,if_neg (fun h=>h0 (HZ.out.2 h))]
        have d1:decide (0<q)=false:=decide_eq_false h0
        have HH:=Lib.hid (HS7.out.keep (.of_below (hBx.trans (hb5.mono yx))))
        rw [HN9E.out] at HH
        clear HZ h0
        go_wp2_with fail
        go_roundw
        case rel=>exact ⟨c+1,⟨b8,A8,m8,c8,b8',A8',m8',c8'⟩,by omega,by go_num,T7y,by rw [HV2.out]; exact HH.out,HBF.out⟩
        case measure=>simp only [intOf]; omega
    ·obtain rfl:c=K:=by omega
     have Ty':Loc wc w1.heap.size _ _:=Ty.to
     have HS1:=Lib.hid (HSZ.out y hy)
     have HB1:=Lib.hid (HBZ.out y hlty c (Nat.le_refl _))
     obtain ⟨e5,f5, -⟩:=Ty'.all (w':=wc)
     obtain ⟨e7,f7, -⟩:=T7.all (w':=wc)
     have s5:=HSY.out.keep (Keep.of_below hBc)
     obtain ⟨bv,hbv⟩:∃ q,best c (fun w=>sm r (fun x=>ce L1 x y*F w x))=q:=⟨_,rfl⟩
     rw [hbv] at s7 HB1 HGE
     clear hbv
     go_wp2_with fail
     refine (add_rat _ (fun _=>False) _ _ (sm y G) bv (RatL.to ((s5.len HS1.out).mono (by omega))) (RatL.to ((s7.len HB1.out).mono (by omega)))).mono ?_
     rintro e w4 ⟨v4,rfl,i9,hb4⟩
     rw [←HGE.out] at i9
     have y4:=hb4.size; (try simp only [zs] at y4)
     obtain ⟨b9,A9,m9,c9,b9',A9',m9',c9',rfl,i9, -, -⟩:=i9.op
     have Ty4:Loc w4 w1.heap.size _ _:=Ty'.to
     have NL4:Loc w4 w.heap.size _ _:=NLy.to
     have NM4:Loc w4 (w.heap.size+1) _ _:=NMy.to
     clear e5 f5 e7 f7 s5
     obtain ⟨e5,f5,l5⟩:=Ty4.all (w':=w4)
     go_wp2_with fail
     go_roundw
     case rel=>exact ⟨y+1,⟨b9,A9,m9,c9,b9',A9',m9',c9'⟩,by omega,by go_num,Loc.fill4 Ty4,RatV.out i9,NL4.to,NM4.to,bel⟩
     case measure=>simp only [intOf]; omega
  ·obtain rfl:y=n:=by omega
   obtain ⟨e5,f5, -⟩:=Ty.all (w':=wy)
   obtain ⟨e6,f6, -⟩:=NMy.all (w':=wy)
   have NMF:=Loc.fill4 (u:= .bool b6) (v:= .slice A6 m6 c6) (x:= .bool b6') (y:= .slice A6' m6' c6') NMy
   go_wp2_with fail
   refine bodyPost_ret (by simp [results,Tryz.results295,go_sem,e6,f6] <;> rfl) rfl ⟨_,rfl,RatV.out sy,bel⟩
end Go.Proofs.YtbdcjhoedhhabaaGreat

