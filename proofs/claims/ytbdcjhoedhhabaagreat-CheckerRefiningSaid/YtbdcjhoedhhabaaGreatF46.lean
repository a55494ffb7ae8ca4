/- Contracts of the functions that the statements reach, part 46. -/
import Derived.Test.YtbdcjhoedhhabaaGreatRows
import Derived.Deep.DeepCutAuto
import Derived.Test.YtbdcjhoedhhabaaGreatF26
import Derived.Test.YtbdcjhoedhhabaaGreatF32
import Derived.Test.YtbdcjhoedhhabaaGreatF44
import Derived.Test.YtbdcjhoedhhabaaGreatF45
set_option linter.unusedSimpArgs false
set_option linter.unusedVariables false

/- begin. -/
namespace Go.Proofs.YtbdcjhoedhhabaaGreat
open Go.RowKit
attribute [local go_sem ↓] Go.wp_at_zero Go.wp_at_succ

theorem c0_size {m n k:Nat} {F:Nat→Nat→Rat} {Bv:Nat→Rat} (hF:∀ i,i<m→∀ j,j<n→Rsz k (F i j)) (hB:∀ i,i<m→Rsz k (Bv i)):∀ r,r≤m→∀ c,Rsz ((k+1)*m+2) (c0 m n F Bv r c):=fun r hr c=>by
 have h0:Rsz ((k+1)*m+2) (0:Rat):=(rsz_int (z:=0) (by decide) (by decide)).mono (by omega)
 unfold c0
 split
 ·rename_i hc
  have key:∀ r,r≤m→Rsz ((k+1)*r+2) (sm r (fun i=>t0 m n F Bv i c)):=fun r=>by
   induction r with
   | zero=>intro _; exact rsz_int (z:=0) (by decide) (by decide)
   | succ r ih =>
     intro hr
     rw [sm_succ]
     have ht:Rsz k (t0 m n F Bv r c):=by
      rcases hc with hc | hc
      ·rw [t0_left hc]; exact rsz_sgn r (hF r (by omega) c hc)
      ·rw [hc,t0_right]; exact rsz_sgn r (hB r (by omega))
     exact ((ih (by omega)).add ht).mono (by rw [Nat.mul_add]; omega)
  refine (key r hr).neg.mono ?_
  have:=Nat.mul_le_mul_left (k+1) hr
  omega
 ·exact h0

set_option maxRecDepth 100000 in
set_option maxHeartbeats 32000000 in
theorem begin_any (w:World) (m n k:Nat) (N:Nat→Nat) (F:Nat→Nat→Rat) (Bv:Nat→Rat) (va vb:Value) (hA:Mat k w (fun _=>False) va m N F) (hB:Nums k w (fun _=>False) vb m Bv) (hN:∀ i,i<m→N i=n) (hm1:1≤m) (hn1:1≤n) (hm:m≤80) (hn:n≤80) (hk:k≤1000) (hk1:1≤k) :
 Calls Tryz.prog 378 #[.agg #[va,vb]] w fun e w'=>∃ l:Lay,e = .returned (.pointer (some ⟨l.p,0,none⟩))∧Tab w' l m n ⟨t0 m n F Bv,fun i=>n+i⟩ (c0 m n F Bv m) (sgn Bv)∧Below w.heap.size w w'∧∀ b,l.X m b→w.heap.size≤b:=by
 have HA:=Lib.hid hA
 have HB:=Lib.hid hB
 obtain ⟨A,cA,rfl,hA,la1,la2⟩:=hA.op
 obtain ⟨C,cB,rfl,hB,lb1,lb2⟩:=hB.op
 obtain ⟨a,D,d,rfl,hab, -,hcell,hnum,l7,l8⟩:=Mat.at hA (show 0<m by omega)
 have e0:a.add 0=a:=by simp [Addr.add]
 rw [e0,hN 0 (by omega)] at hcell
 have hc2:(w.alloc (.cells #[.slice (some a) m cA, .slice C m cB] 73)).cell? a=_:=cell_keep (X:=fun _=>False) hcell hab id kp
 have q0:(0:Int)<(m:Int):=by omega
 have q1:0<m:=by omega
 have HN:=Lib.hid hN
 have L:=made1 w #[.slice (some a) m cA, .slice C m cB] 73
 clear hA hB hN hnum
 obtain ⟨M,hM⟩:∃ M,n+m+1=M:=⟨_,rfl⟩
 have HM:=Lib.hid hM
 obtain ⟨R,hR⟩:∃ R,n+m=R:=⟨_,rfl⟩
 have HR:=Lib.hid hR
 have hRi:(n:Int)+(m:Int)=(R:Int):=by omega
 have hMi:(R:Int)+1=(M:Int):=by omega
 have r0:(0:Int)≤(R:Int):=by omega
 have r1:(R:Int)<(M:Int):=by omega
 clear hR
 go_enter Tryz.func378,Tryz.ntmps378
 go_wp2_with fail
 go_region_held3 (fun W=>(W.cell? ⟨w.heap.size,0,none⟩=some (.slice (some a) m cA))∧W.cell? a=some (.slice D n d))
  (exact ⟨Loc.c 0 L,cell_keep (X:=fun _=>False) hcell hab id kp⟩) (fail)
 all_goals
  go_wp2_with (at_make; refine wpList_makeR _ rfl _ _ rfl (w.heap.size+1) M rfl rfl (by omega) (by omega) (by omega) (by simp only [size_drew,World.size_alloc]; omega) ?_)
  intro w7 K7 hg7
  have hb1:Below w.heap.size w (w.alloc (.cells #[.slice (some a) m cA, .slice C m cB] 73)).drew:=bel
  have hb7:Below w.heap.size w w7:=hb1.grown hg7 (by simp only [size_drew,World.size_alloc]; omega) (fun k hk=>by cases hk)
  have L7:Loc w7 w.heap.size _ _:=Loc.to L (k:=(Stay.refl.drew).grown hg7 (fun e=>by cases e))
  obtain ⟨gc,hgc⟩:∃ gc,w.heap.size+1=gc:=⟨_,rfl⟩
  rw [hgc] at K7
  simp only [size_drew,World.size_alloc,hgc]
  clear hc2 hcell
  have q7:=K7.lt
  have y7:=hb7.size
  go_wp2_with fail
  obtain ⟨gp,hgp⟩:∃ gp,w7.heap.size=gp:=⟨_,rfl⟩
  have hbox0:=made1 w7 #[.int .i64 n, .slice none 0 0, .slice none 0 0, .slice (some ⟨gc,0,none⟩) M M, .slice none 0 0] 444
  obtain ⟨w8,hw8⟩:∃ w8,w7.alloc (.cells #[.int .i64 n, .slice none 0 0, .slice none 0 0, .slice (some ⟨gc,0,none⟩) M M, .slice none 0 0] 444)=w8:=⟨_,rfl⟩
  have hB8:Below w.heap.size w w8:=by rw [←hw8]; exact bel
  have K8:Line w8 gc (List.replicate M zR4):=by rw [←hw8]; exact Loc.to K7
  have L8:Loc w8 w.heap.size 73 #[.slice (some a) m cA, .slice C m cB]:=by rw [←hw8]; exact Loc.to L7
  have hs8:gp<w8.heap.size:=by rw [←hw8]; simp only [World.size_alloc]; omega
  rw [hw8,hgp] at hbox0
  simp only [hw8,hgp]
  clear K7 L7 hb7 hg7 hb1 hw8
  go_loopw [36] (fun i wr=>∃ (ci:Nat) (rs:List R4),ci≤M∧i = .int .i64 ci∧Line wr gc rs∧rs.length=M∧ValL 2 wr (fun b=>b=gc∨b=gp) rs (fun _=>0)∧Keep (fun b=>b=gc) w8 wr∧Below w.heap.size w wr) (fun i _=>M - (intOf i).toNat)
  case atStart=>exact ⟨0,_,by omega,rfl,K8,by simp,zvals _ _ _ _,Keep.refl _ _,hB8⟩
  case round=>
   obtain ⟨ci,rs,hci,rfl,K9,hrl,hvz,hK9,hB9⟩:=hrel
   obtain ⟨wi,rfl⟩:∃ wi:World,wi=wr:=⟨_,rfl⟩
   have hbi:Loc wi _ _ _:=Loc.keep hbox0 hK9 (fun e=>by have:gp=gc:=e; omega)
   have q9:=K9.lt
   have q10:=hbi.lt
   have hs9:=hK9.size
   by_cases hlt:ci<M
   ·
    have d0:(0:Int)≤(ci:Int):=by omega
    have d1':(ci:Int)<(M:Int):=by omega
    obtain ⟨qr,hqr⟩:∃ q,rs[ci]? = some q:=⟨_,List.getElem?_eq_getElem (by omega)⟩
    go_wp2_with fail
    go_region_held3 (fun W=>W.cell? ⟨gp,3,none⟩=some (.slice (some ⟨gc,0,none⟩) M M))
     (exact Loc.c 3 hbi)
     (first
      | (go_at_call 347; refine (zero_lin _).mono ?_; rintro e v1 ⟨v9,rfl,i9,hb9⟩; obtain ⟨b9,A9,m9,c9,b9',A9',m9',c9',rfl,i9, -, -⟩:=i9.op; have y10:=hb9.size; (try simp only [zs] at y10); have K10:Line v1 gc rs:=Loc.to K9; obtain ⟨g0,g1,g2',g3'⟩:=K10.cells hqr; have f9:=K10.frz; have l10:=K10.lt))
    all_goals
     go_wp2_with fail
     go_roundw
     case rel=>
      refine ⟨ci+1,rs.set ci ⟨b9,A9,m9,c9,b9',A9',m9',c9'⟩,by omega,by go_num,K10.put (by omega) ⟨b9,A9,m9,c9,b9',A9',m9',c9'⟩,by simpa using hrl,?_,hK9.trans kp,bel⟩
      refine ValL.set0 (hvz.keep ((kp:Keep (fun b=>b=gc) wi _).weak (fun b _ h=> .inl h))) ?_
      have h1:=i9.weak (Y:=fun b=>b=gc∨b=gp) (fun b _ hx=>by show b<wi.heap.size; omega)
      exact (RatV.len h1 (rsz_zero 2 (by omega))).keep ((kp:Keep (fun b=>b=gc) v1 _).weak (fun b _ h=> .inl h))
     case measure=>simp only [intOf]; omega
   ·obtain rfl:M=ci:=by omega
    have L9:Loc wi w.heap.size _ _:=Loc.keep L8 hK9 (fun e=>by have:w.heap.size=gc:=e; omega)
    have HB0:Hid (Beg (w.heap.size+1) wi m n 0 F Bv gp gc (.slice none 0 0) (.slice none 0 0) (.slice none 0 0) (fun _=>0) (fun b=>if b=gp then 1 else if b=gc then 2 else 0)):=by
     refine ⟨by rw [hM]; exact hbi,Own1.nil _ _ _,Own1.nil _ _ _,Own1.nil _ _ _,fun i hi=>absurd hi (by omega),⟨rs,K9,by rw [hM]; exact hrl,?_⟩,if_pos rfl,by rw [if_neg (by omega),if_pos rfl],fun g h=>(by cases h),fun g h=>(by cases h),fun g h=>(by cases h),fun i hi=>absurd hi (by omega),fun b hb=>?_⟩
     ·refine ((hvz.weak (fun b _ hb=>?_)).up (by omega)).congr (fun x _=>c0_zero x)
      by_cases h1:b=gp
      ·exact .inr h1
      ·by_cases h2:b=gc
       ·exact .inl h2
       ·rw [if_neg h1,if_neg h2] at hb; exact absurd rfl hb
     ·by_cases h1:b=gp
      ·omega
      ·by_cases h2:b=gc
       ·omega
       ·rw [if_neg h1,if_neg h2] at hb; exact absurd rfl hb
    have HFS:Hid (∀ i,i<m→∀ j,j<n→Rsz k (F i j)):=fun i hi j hj=>by
     obtain ⟨_,_,_, -, -, -, -,hnum, -, -⟩:=Mat.at HA.out hi
     rw [HN.out i hi] at hnum
     exact hnum.rsz hk1 j hj
    have HBS:Hid (∀ i,i<m→Rsz k (Bv i)):=HB.out.rsz hk1
    have HCS:Hid (∀ r,r≤m→∀ c,Rsz ((k+1)*m+2) (c0 m n F Bv r c)):=c0_size HFS.out HBS.out
    obtain ⟨e9,f9,l9⟩:=L9.all (w':=wi)
    clear K9 hvz hK9 hbi hrl
    go_wp2_with fail
    go_loopw [50] (fun i wr=>∃ (c:Nat) (vS vR vB:Value) (G K:Nat→Nat),c≤m∧i = .int .i64 c∧Hid (Beg (w.heap.size+1) wr m n c F Bv gp gc vS vR vB G K)∧Below (w.heap.size+1) wi wr) (fun i _=>m - (intOf i).toNat)
    case atStart=>exact ⟨0,_,_,_,_,_,by omega,rfl,HB0,Below.refl _ _⟩
    case round=>
     clear e9 f9
     obtain ⟨c,vS,vR,vB,G,K,hcm,rfl,HBg,hB10⟩:=hrel
     obtain ⟨wo,rfl⟩:∃ wo:World,wo=wr:=⟨_,rfl⟩
     have y11:=hB10.size; (try simp only [zs] at y11)
     have Lo:Loc wo w.heap.size _ _:=L9.below' hB10 (by omega)
     have hBo:Below w.heap.size w wo:=hB9.trans (hB10.mono (by omega))
     obtain ⟨e9,f9,l9o⟩:=Lo.all (w':=wo)
     by_cases hlt:c<m
     ·obtain ⟨a2,D2,d2,ea2,ha2, -,hcell2,hnum2,l72,l82⟩:=Mat.at (Mat.keep HA.out (.of_below hBo)) hlt
      injection ea2 with ea2
      subst ea2
      rw [HN.out c hlt] at hcell2 hnum2 l72
      have HN2:=Lib.hid hnum2
      obtain ⟨a3,b3,A3,m3,c3,b3',A3',m3',c3',rfl,ha3, -,z0,z1,z2,z3,r3⟩:=Nums.at (Nums.keep HB.out (.of_below hBo)) hlt
      have HL3:Hid (∀ W,Below wo.heap.size wo W→(W.cell? (a3.add (c*4))=some (.bool b3)∧W.cell? ⟨(a3.add (c*4)).block,(a3.add (c*4)).off+1,none⟩=some (.slice A3 m3 c3))∧W.cell? ⟨(a3.add (c*4)).block,(a3.add (c*4)).off+2,none⟩=some (.bool b3')∧W.cell? ⟨(a3.add (c*4)).block,(a3.add (c*4)).off+3,none⟩=some (.slice A3' m3' c3')):=fun W hW=>by
       refine ⟨⟨?_,?_⟩,?_,?_⟩
       ·exact cell_keep (X:=fun _=>False) z0 (by rw [add_block]; exact ha3) id (.of_below hW)
       ·exact cell_keep (X:=fun _=>False) z1 (by simp only [add_block]; exact ha3) id (.of_below hW)
       ·exact cell_keep (X:=fun _=>False) z2 (by simp only [add_block]; exact ha3) id (.of_below hW)
       ·exact cell_keep (X:=fun _=>False) z3 (by simp only [add_block]; exact ha3) id (.of_below hW)
      obtain ⟨⟨t0',t1'⟩,t2',t3'⟩:=HL3.out wo (Below.refl _ _)
      obtain ⟨sg,hsg⟩:∃ s,sgn Bv c=s:=⟨_,rfl⟩
      have HSG:=Lib.hid hsg
      have hsl : -1≤sg∧sg≤1:=by have:=sgn_or Bv c; omega
      obtain ⟨hsl1,hsl2⟩:=hsl
      obtain ⟨bn,hbn⟩:∃ b,decide (Bv c<0)=b:=⟨_,rfl⟩
      have HBN:Hid (sg=if bn=true then -1 else 1):=by
       show _=_
       rw [←hsg,← hbn]; unfold sgn; simp
      have HBN2:=Lib.hid hbn
      have hK0:(0:Int)≤(c:Int):=by omega
      have hK1:(c:Int)<(m:Int):=by omega
      clear hnum2 hsg hbn z0 z1 z2 z3
      go_wp2_with fail
      refine (negative_any _ k _ (Bv c) (RatL.to r3)).mono ?_
      rintro e w1 ⟨he,hb1⟩
      rw [HBN2.out] at he
      subst he
      have y12:=hb1.size; (try simp only [zs] at y12)
      clear t0' t1' t2' t3' hcell2
      go_upto_if 60 with fail
      go_cut [9] (fun v W=>v = .int .i64 sg∧w1=W)
      case first=>
       cases bn
       ·obtain rfl:(1:Int)=sg:=HBN.out.symm
        go_wp2_with fail
        go_meet
        exact ⟨rfl,rfl⟩
       ·obtain rfl:(-1:Int)=sg:=HBN.out.symm
        go_wp2_with fail
        go_meet
        exact ⟨rfl,rfl⟩
      case rest=>
       obtain ⟨rfl,rfl⟩:=hcut
       clear e9 f9
       go_wp2_with (at_make; refine wpList_makeR _ rfl _ _ rfl w1.heap.size M rfl rfl (by omega) (by omega) (by have:=HM.out; omega) (Nat.le_refl _) ?_)
       intro w2 K2 hg2
       have hb2:Below w1.heap.size w1 w2:=(Below.refl _ _).grown hg2 (Nat.le_refl _) (fun k hk=>by cases hk)
       have y13:=hb2.size; (try simp only [zs] at y13)
       have q2:=K2.lt
       obtain ⟨gRow,hgR⟩:∃ g,w1.heap.size=g:=⟨_,rfl⟩
       rw [hgR] at K2 q2
       rw [hgR]
       have hgo:wo.heap.size≤gRow:=by omega
       have hb2o:Below wo.heap.size wo w2:=bel
       clear hb2 hg2 hb1 hgR y12 y13
       go_wp2_with fail
       go_loopw [68] (fun i wr=>∃ (cj:Nat) (rs:List R4),cj≤M∧i = .int .i64 cj∧Line wr gRow rs∧rs.length=M∧ValP cj wr (fun b=>b≤gRow) rs (fun _=>0)∧Below wo.heap.size wo wr) (fun i _=>M - (intOf i).toNat)
       case atStart=>exact ⟨0,_,by omega,rfl,K2,by simp,ValP.zero _ _ _ _,hb2o⟩
       case round=>
        clear K2 q2
        obtain ⟨cj,rs,hcj,rfl,K3,hrl,hvz,hB3⟩:=hrel
        obtain ⟨w3,rfl⟩:∃ w3:World,w3=wr:=⟨_,rfl⟩
        have q3:=K3.lt
        have y14:=hB3.size; (try simp only [zs] at y14)
        by_cases hj:cj<M
        ·
         have d0:(0:Int)≤(cj:Int):=by omega
         have d1':(cj:Int)<(M:Int):=by omega
         obtain ⟨qr,hqr⟩:∃ q,rs[cj]? = some q:=⟨_,List.getElem?_eq_getElem (by omega)⟩
         go_wp2_with fail
         refine (zero_lin _).mono ?_
         rintro e u1 ⟨v9,rfl,i9,hb9⟩
         obtain ⟨b9,A9,m9,c9,b9',A9',m9',c9',rfl,i9, -, -⟩:=i9.op
         have y10:=hb9.size; (try simp only [zs] at y10)
         have K9:Line u1 gRow rs:=Loc.to K3
         obtain ⟨g0,g1,g2',g3'⟩:=K9.cells hqr
         have f9:=K9.frz
         have l9':=K9.lt
         go_wp2_with fail
         go_roundw
         case rel=>
          refine ⟨cj+1,rs.set cj ⟨b9,A9,m9,c9,b9',A9',m9',c9'⟩,by omega,by go_num,K9.put (by omega) ⟨b9,A9,m9,c9,b9',A9',m9',c9'⟩,by simpa using hrl,?_,bel⟩
          refine ValP.set (hvz.keep kp) ?_
          exact (i9.weak (fun b _ hx=>by show b<w3.heap.size; have:b≤gRow:=hx; omega)).keep kp
         case measure=>simp only [intOf]; omega
        ·obtain rfl:M=cj:=by omega
         have V0:ValV w3 (fun b=>b≤gRow) rs (fun _=>0):=hvz.all hrl
         clear hvz
         go_wp2_with fail
         go_loopw [78] (fun i wr=>∃ (cj:Nat) (rs:List R4),cj≤n∧i = .int .i64 cj∧Line wr gRow rs∧rs.length=M∧ValV wr (fun b=>b≤gRow) rs (fun x=>if x<cj then (sg:Rat)*F c x else 0)∧Below wo.heap.size wo wr) (fun i _=>n - (intOf i).toNat)
         case atStart=>exact ⟨0,rs,by omega,rfl,K3,hrl,V0.congr (fun x _=>if_neg (by omega)),hB3⟩
         case round=>
          clear K3 hrl V0 hB3 q3 y14
          obtain ⟨cj,rs,hcj,rfl,K3,hrl,hv,hB3⟩:=hrel
          obtain ⟨w3,rfl⟩:∃ w3:World,w3=wr:=⟨_,rfl⟩
          have q3:=K3.lt
          have y14:=hB3.size; (try simp only [zs] at y14)
          by_cases hj:cj<n
          ·
           have d0:(0:Int)≤(cj:Int):=by omega
           have d1':(cj:Int)<(n:Int):=by omega
           have d2':(cj:Int)<(M:Int):=by have:=HM.out; omega
           have hcjM:cj<M:=by omega
           obtain ⟨qr,hqr⟩:∃ q,rs[cj]? = some q:=⟨_,List.getElem?_eq_getElem (by omega)⟩
           obtain ⟨a4,b4,A4,m4,c4,b4',A4',m4',c4',rfl,ha4, -,x0,x1,x2,x3,r4⟩:=Nums.at (Nums.keep HN2.out (.of_below hB3)) hj
           have LX:=made1 w3 #[.bool b4, .slice A4 m4 c4, .bool b4', .slice A4' m4' c4'] 213
           have HSZ:Hid (Rsz 1000 (F c cj)):=(r4.rsz hk1).mono hk
           replace x1:w3.cell? ⟨(a4.add (cj*4)).block,(a4.add (cj*4)).off+1,none⟩=some (.slice A4 m4 c4):=x1
           replace x2:w3.cell? ⟨(a4.add (cj*4)).block,(a4.add (cj*4)).off+2,none⟩=some (.bool b4'):=x2
           replace x3:w3.cell? ⟨(a4.add (cj*4)).block,(a4.add (cj*4)).off+3,none⟩=some (.slice A4' m4' c4'):=x3
           go_wp2_with fail
           go_region_held3 (fun W=>(W.cell? ⟨w3.heap.size,0,none⟩=some (.bool b4)∧W.cell? ⟨w3.heap.size,1,none⟩=some (.slice A4 m4 c4))∧W.cell? ⟨w3.heap.size,2,none⟩=some (.bool b4')∧W.cell? ⟨w3.heap.size,3,none⟩=some (.slice A4' m4' c4'))
            (exact ⟨⟨Loc.c 0 LX,Loc.c 1 LX⟩,Loc.c 2 LX,Loc.c 3 LX⟩)
            (first
             | (go_at_call 381; refine (whole_lin _ sg (by omega) (by omega)).mono ?_; rintro e u1 ⟨v5,rfl,i5,hb5⟩; obtain ⟨b5,A5,m5,c5,b5',A5',m5',c5',rfl,i5, -, -⟩:=i5.op; have y5:=hb5.size; (try simp only [zs] at y5))
             | (go_at_call 293; refine (mul_rat _ (fun _=>False) _ _ (sg:Rat) (F c cj) (RatL.to (RatV.len i5 ((rsz_int (z:=sg) (by omega) (by omega)).mono (by omega)))) (RatL.to (r4.mono (by omega)))).mono ?_; rintro e u2 ⟨v6,rfl,i6,hb6⟩; obtain ⟨b6,A6,m6,c6,b6',A6',m6',c6',rfl,i6, -, -⟩:=i6.op; have y6:=hb6.size; (try simp only [zs] at y6); have K6:Line u2 gRow rs:=Loc.to K3; obtain ⟨g0,g1,g2,g3⟩:=K6.cells hqr; have f6:=K6.frz; have l6:=K6.lt))
           all_goals
            go_wp2_with fail
            go_roundw
            case rel=>
             refine ⟨cj+1,rs.set cj ⟨b6,A6,m6,c6,b6',A6',m6',c6'⟩,by omega,by go_num,K6.put (by omega) ⟨b6,A6,m6,c6,b6',A6',m6',c6'⟩,by simpa using hrl,?_,bel⟩
             refine ValV.set (f:=fun x=>if x<cj then (sg:Rat)*F c x else 0) (hv.keep kp) ?_ (fun i hi=>?_)
             ·rw [if_pos (by omega)]
              exact (i6.weak (fun b _ hx=>by show b<u1.heap.size; have:b≤gRow:=hx; omega)).keep kp
             ·by_cases h1:i<cj
              ·rw [if_pos h1,if_pos (by omega)]
              ·rw [if_neg h1,if_neg (by omega)]
            case measure=>simp only [intOf]; omega
          ·obtain rfl:n=cj:=by omega
           obtain ⟨p,hp⟩:∃ p,n+c=p:=⟨_,rfl⟩
           have hRM:R+1=M:=by have:=HM.out; omega
           have hpR:p<R:=by have:=HR.out; omega
           have hpi:(n:Int)+(c:Int)=(p:Int):=by omega
           have HP:=Lib.hid hp
           have p0:(0:Int)≤(p:Int):=by omega
           have p1:(p:Int)<(M:Int):=by omega
           obtain ⟨qp,hqp⟩:∃ q,rs[p]? = some q:=⟨_,List.getElem?_eq_getElem (by omega)⟩
           have HRM:=Lib.hid hRM
           clear hp hRM
           have hwR:IntKind.i64.wrap (R:Int)=R:=by rw [IntKind.wrap_i64]; omega
           have hwp:IntKind.i64.wrap (p:Int)=p:=by rw [IntKind.wrap_i64]; omega
           have hwR2:IntKind.i64.wrap ((n:Int)+(m:Int))=R:=by rw [IntKind.wrap_i64]; omega
           have hwp2:IntKind.i64.wrap ((n:Int)+(c:Int))=p:=by rw [IntKind.wrap_i64]; omega
           go_wp2_with fail
           refine (whole_lin _ 1 (by decide) (by decide)).mono ?_
           rintro e u1 ⟨v5,rfl,i5,hb5⟩
           rw [show ((1:Int):Rat)=1 from rfl] at i5
           obtain ⟨b5,A5,m5,c5,b5',A5',m5',c5',rfl,i5, -, -⟩:=i5.op
           have y5:=hb5.size; (try simp only [zs] at y5)
           have K5:Line u1 gRow rs:=Loc.to K3
           obtain ⟨g0,g1,g2',g3'⟩:=K5.cells hqp
           have f5:=K5.frz
           have l5:=K5.lt
           go_wp2_with fail
           obtain ⟨w4,hw4⟩:∃ w4,w4=(((u1.setCell ⟨gRow,p*4,none⟩ (.bool b5)).setCell ⟨gRow,p*4+1,none⟩ (.slice A5 m5 c5)).setCell ⟨gRow,p*4+2,none⟩ (.bool b5')).setCell ⟨gRow,p*4+3,none⟩ (.slice A5' m5' c5'):=⟨_,rfl⟩
           rw [←hw4]
           have hB4:Below wo.heap.size wo w4:=by rw [hw4]; exact bel
           obtain ⟨rs2,hrs2⟩:∃ r,r=rs.set p ⟨b5,A5,m5,c5,b5',A5',m5',c5'⟩:=⟨_,rfl⟩
           have K4:Line w4 gRow rs2:=by rw [hw4,hrs2]; exact K5.put (by omega) ⟨b5,A5,m5,c5,b5',A5',m5',c5'⟩
           have hrl2:rs2.length=M:=by rw [hrs2]; simpa using hrl
           have HV4:Hid (ValV w4 (fun b=>b≤gRow) rs2 (fun x=>if x<n then (sg:Rat)*F c x else if x=p then 1 else 0)):=by
            rw [hrs2]
            refine ValV.set (f:=fun x=>if x<n then (sg:Rat)*F c x else 0) (hv.keep (by rw [hw4]; exact kp)) ?_ (fun i hi=>?_)
            ·rw [if_neg (by have:=HP.out; omega),if_pos rfl]
             rw [hw4]
             exact (i5.weak (fun b _ hx=>by show b<w3.heap.size; have:b≤gRow:=hx; omega)).keep kp
            ·by_cases h1:i<n
             ·rw [if_pos h1,if_pos h1]
             ·rw [if_neg h1,if_neg h1,if_neg hi]
           have l4:=K4.lt
           clear K5 g0 g1 g2' g3' f5 l5 hw4 hrs2 hv i5 hb5 y5 K3 hB3 hrl hqp y14 q3
           have y14:=hB4.size; (try simp only [zs] at y14)
           obtain ⟨qR,hqR⟩:∃ q,rs2[R]? = some q:=⟨_,List.getElem?_eq_getElem (by omega)⟩
           go_wp2_with fail
           go_region_held3 (fun W=>(W.cell? ⟨w.heap.size,1,none⟩=some (.slice (some a3) m cB))∧(W.cell? (a3.add (c*4))=some (.bool b3)∧W.cell? ⟨(a3.add (c*4)).block,(a3.add (c*4)).off+1,none⟩=some (.slice A3 m3 c3))∧W.cell? ⟨(a3.add (c*4)).block,(a3.add (c*4)).off+2,none⟩=some (.bool b3')∧W.cell? ⟨(a3.add (c*4)).block,(a3.add (c*4)).off+3,none⟩=some (.slice A3' m3' c3'))
            (exact ⟨Loc.c 1 Lo,HL3.out _ bel⟩)
            (first
             | (go_at_call 381; refine (whole_lin _ sg (by omega) (by omega)).mono ?_; rintro e u1 ⟨v5,rfl,i5,hb5⟩; obtain ⟨b5,A5,m5,c5,b5',A5',m5',c5',rfl,i5, -, -⟩:=i5.op; have y5:=hb5.size; (try simp only [zs] at y5))
             | (go_at_call 293; refine (mul_rat _ (fun _=>False) _ _ (sg:Rat) (Bv c) (RatL.to (RatV.len i5 ((rsz_int (z:=sg) (by omega) (by omega)).mono (by omega)))) (RatL.to (r3.mono (by omega)))).mono ?_; rintro e u2 ⟨v6,rfl,i6,hb6⟩; obtain ⟨b6,A6,m6,c6,b6',A6',m6',c6',rfl,i6, -, -⟩:=i6.op; have y6:=hb6.size; (try simp only [zs] at y6); have K6:Line u2 gRow rs2:=Loc.to K4; obtain ⟨g0,g1,g2,g3⟩:=K6.cells hqR; have f6:=K6.frz; have l6:=K6.lt))
           all_goals
            go_upto_region 27 with fail
            obtain ⟨w5,hw5⟩:∃ w5,w5=(((u2.setCell ⟨gRow,R*4,none⟩ (.bool b6)).setCell ⟨gRow,R*4+1,none⟩ (.slice A6 m6 c6)).setCell ⟨gRow,R*4+2,none⟩ (.bool b6')).setCell ⟨gRow,R*4+3,none⟩ (.slice A6' m6' c6'):=⟨_,rfl⟩
            rw [←hw5]
            have hB5:Below wo.heap.size wo w5:=by rw [hw5]; exact bel
            obtain ⟨rs3,hrs3⟩:∃ r,r=rs2.set R ⟨b6,A6,m6,c6,b6',A6',m6',c6'⟩:=⟨_,rfl⟩
            have KR:Line w5 gRow rs3:=by rw [hw5,hrs3]; exact K6.put (by omega) ⟨b6,A6,m6,c6,b6',A6',m6',c6'⟩
            have hrl3:rs3.length=M:=by rw [hrs3]; simpa using hrl2
            have HVR:Hid (ValV w5 (fun b=>b≤gRow) rs3 (t0 m n F Bv c)):=by
             rw [hrs3]
             refine ValV.set (f:=fun x=>if x<n then (sg:Rat)*F c x else if x=p then 1 else 0) (HV4.out.keep (by rw [hw5]; exact kp)) ?_ (fun i hi=>?_)
             ·rw [←HR.out,t0_right,HSG.out,hw5]
              exact (i6.weak (fun b _ hx=>by show b<u1.heap.size; have:b≤gRow:=hx; omega)).keep kp
             ·unfold t0
              rw [HR.out,HP.out,HSG.out,if_neg hi]
            clear K6 g0 g1 g2 g3 f6 l6 hw5 hrs3 HV4 i6 hb6 y6 i5 hb5 y5 K4 hB4 hrl2 hqR y14 l4
            have y14:=hB5.size; (try simp only [zs] at y14)
            have l5:=KR.lt
            obtain ⟨cs0,KC0,hcl0,hcv0⟩:=HBg.out.cost
            rw [HM.out] at hcl0
            have KC1:Line w5 gc cs0:=Loc.to KC0
            have hcv1:ValL 100000 w5 (fun b=>b=gRow∨K b ≠ 0) cs0 (fun x=>if x<0 then c0 m n F Bv (c+1) x else c0 m n F Bv c x):=((hcv0.weak (fun b hb hx=>by
             rcases hx with hx | hx
             ·omega
             ·exact hx)).keep kp).congr (fun x _=>if_neg (by omega))
            have hgcne:gRow ≠ gc:=by omega
            have hB5i:Below (w.heap.size+1) wi w5:=hB10.trans (hB5.mono (by omega))
            have LB5:Loc w5 gp 444 #[.int .i64 n,vS,vR, .slice (some ⟨gc,0,none⟩) M M,vB]:=by
             have:=HBg.out.box
             rw [HM.out] at this
             exact Loc.to this
            have hpc:gp ≠ gc:=by omega
            clear KC0 hcv0
            go_wp2_with fail
            go_loopw [112] (fun i wr=>∃ (cj:Nat) (cs:List R4),cj≤M∧i = .int .i64 cj∧Line wr gc cs∧cs.length=M∧ValL 100000 wr (fun b=>b=gRow∨K b ≠ 0) cs (fun x=>if x<cj then c0 m n F Bv (c+1) x else c0 m n F Bv c x)∧Keep (fun b=>b=gc) w5 wr∧Below (w.heap.size+1) w5 wr) (fun i _=>M - (intOf i).toNat)
            case atStart=>exact ⟨0,cs0,by omega,rfl,KC1,hcl0,hcv1,Keep.refl _ _,Below.refl _ _⟩
            case round=>
             clear KC1 hcl0 hcv1
             obtain ⟨cj,cs,hcj,rfl,KC,hcl,hcv,hKC,hBC⟩:=hrel
             obtain ⟨w6,rfl⟩:∃ w6:World,w6=wr:=⟨_,rfl⟩
             have y15:=hBC.size; (try simp only [zs] at y15)
             have lC:=KC.lt
             have LB6:Loc w6 gp _ _:=Loc.keep LB5 hKC hpc
             have KR6:Line w6 gRow rs3:=Loc.keep KR hKC hgcne
             by_cases hj:cj<M
             ·
              have d0:(0:Int)≤(cj:Int):=by omega
              have d1':(cj:Int)<(M:Int):=by omega
              by_cases hcond:cj<n∨cj=R
              ·have HSUC:Hid (c0 m n F Bv (c+1) cj=c0 m n F Bv c cj - t0 m n F Bv c cj):=by
                show _=_
                rw [c0_succ,if_pos (by have:=HR.out; omega)]
               have HS1:Hid (Rsz 100000 (c0 m n F Bv (c+1) cj)):=(HCS.out (c+1) (by omega) cj).mono (by have:=Nat.mul_le_mul (show k+1≤1001 by omega) hm; omega)
               have HS2:Hid (Rsz k (t0 m n F Bv c cj)):=by
                show Rsz _ _
                by_cases h1:cj<n
                ·rw [t0_left h1]; exact rsz_sgn c (HFS.out c hlt cj h1)
                ·rw [show cj=n+m by have:=HR.out; omega,t0_right]; exact rsz_sgn c (HBS.out c hlt)
               obtain ⟨⟨b5,A5,m5,c5,b5',A5',m5',c5'⟩,hq5⟩:∃ q,cs[cj]? = some q:=⟨_,List.getElem?_eq_getElem (by omega)⟩
               obtain ⟨⟨b7,A7,m7,c7,b7',A7',m7',c7'⟩,hq7⟩:∃ q,rs3[cj]? = some q:=⟨_,List.getElem?_eq_getElem (by omega)⟩
               have j5:RatL 100000 w6 _ _ _:=hcv cj _ hq5
               have j7:RatV w6 _ _ _:=(HVR.out.keep (hKC.weak (fun b _ hb=>by show b≤gRow; have:b=gc:=hb; omega))) cj _ hq7
               unfold R4.v at j5 j7
               dsimp only at j5 j7
               rw [if_neg (Nat.lt_irrefl cj)] at j5
               have HLC:Hid (∀ W,Below w6.heap.size w6 W→(W.cell? ⟨gp,3,none⟩=some (.slice (some ⟨gc,0,none⟩) M M))∧((W.cell? ⟨gc,cj*4,none⟩=some (.bool b5)∧W.cell? ⟨gc,cj*4+1,none⟩=some (.slice A5 m5 c5))∧W.cell? ⟨gc,cj*4+2,none⟩=some (.bool b5')∧W.cell? ⟨gc,cj*4+3,none⟩=some (.slice A5' m5' c5'))∧(W.cell? ⟨gRow,cj*4,none⟩=some (.bool b7)∧W.cell? ⟨gRow,cj*4+1,none⟩=some (.slice A7 m7 c7))∧W.cell? ⟨gRow,cj*4+2,none⟩=some (.bool b7')∧W.cell? ⟨gRow,cj*4+3,none⟩=some (.slice A7' m7' c7')):=fun W hW=>by
                obtain ⟨s0,s1,s2,s3⟩:=(show Line W gc cs from Loc.below KC hW).cells hq5
                obtain ⟨s4,s5,s6,s7⟩:=(show Line W gRow rs3 from Loc.below KR6 hW).cells hq7
                exact ⟨Loc.c 3 LB6,⟨⟨s0,s1⟩,s2,s3⟩,⟨s4,s5⟩,s6,s7⟩
               have hno:∀ h:cj=R,¬ cj<n:=fun h=>by have:=HR.out; omega
               rcases hcond with hcn | hcr
               ·have hcn2:(cj:Int)<(n:Int):=by omega
                clear hno
                go_wp2_with fail
                refine wp_region_noPanic ?_
                refine wp_region_heldK (k:=18) (S:=(fun W=>(W.cell? ⟨gp,3,none⟩=some (.slice (some ⟨gc,0,none⟩) M M))∧((W.cell? ⟨gc,cj*4,none⟩=some (.bool b5)∧W.cell? ⟨gc,cj*4+1,none⟩=some (.slice A5 m5 c5))∧W.cell? ⟨gc,cj*4+2,none⟩=some (.bool b5')∧W.cell? ⟨gc,cj*4+3,none⟩=some (.slice A5' m5' c5'))∧(W.cell? ⟨gRow,cj*4,none⟩=some (.bool b7)∧W.cell? ⟨gRow,cj*4+1,none⟩=some (.slice A7 m7 c7))∧W.cell? ⟨gRow,cj*4+2,none⟩=some (.bool b7')∧W.cell? ⟨gRow,cj*4+3,none⟩=some (.slice A7' m7' c7'))) (by kernel_rfl) ?_ (fun hHeld=>?_)
                ·exact HLC.out _ bel
                refine puK 0 ?_
                (try simp only [Act.put,ly])
                refine puK 1 ?_
                (try simp only [Act.put,ly])
                refine puK 2 ?_
                (try simp only [Act.put,ly])
                refine tkK 3 ?_
                (try simp only [Act.put,ly])
                refine puK 4 ?_
                (try simp only [Act.put,ly])
                refine puK 5 ?_
                (try simp only [Act.put,ly])
                refine puK 6 ?_
                (try simp only [Act.put,ly])
                refine puK 7 ?_
                (try simp only [Act.put,ly])
                refine tkK 8 ?_
                (try simp only [Act.put,ly])
                refine puK 9 ?_
                (try simp only [Act.put,ly])
                refine puK 10 ?_
                (try simp only [Act.put,ly])
                refine tkK 11 ?_
                (try simp only [Act.put,ly])
                refine puK 12 ?_
                (try simp only [Act.put,ly])
                refine puK 13 ?_
                (try simp only [Act.put,ly])
                refine puK 14 ?_
                (try simp only [Act.put,ly])
                refine tkK 15 ?_
                (try simp only [Act.put,ly])
                refine wpAnyK_ready (rs:=[16]) (by kernel_rfl) (by simp) ?_
                refine AllReadyK.cons rfl (fun KK hKK=>?_) AllReadyK.nil
                go_simp
                refine (sub_rat _ (fun _=>False) _ _ (c0 m n F Bv c cj) (t0 m n F Bv c cj) (RatL.to (j5.mono (by omega))) (RatL.to ((j7.len HS2.out).mono (by omega)))).mono ?_
                rintro e u2 ⟨v6,rfl,i6,hb6⟩
                rw [←HSUC.out] at i6
                obtain ⟨b6,A6,m6,c6,b6',A6',m6',c6',rfl,i6, -, -⟩:=i6.op
                have y6:=hb6.size; (try simp only [zs] at y6)
                have K6:Line u2 gc cs:=Loc.to KC
                obtain ⟨g0,g1,g2,g3⟩:=K6.cells hq5
                dsimp only at g0 g1 g2 g3
                have f6:=K6.frz
                have l6:=K6.lt
                (try go_wp2_with fail)
                refine hKK.out _ _ ?_ (fun hHeld=>?_)
                ·(try dsimp only)
                 exact HLC.out _ bel
                clear hKK KK
                (try simp only [Act.put,ly])
                refine puK 17 ?_
                (try simp only [Act.put,ly])
                refine wpAnyK_ready (rs:=[18]) (by kernel_rfl) (by simp) ?_
                refine AllReadyK.last (by kernel_rfl) rfl (fun KK hKK=>?_) AllReadyK.nil
                go_simp
                refine hKK.out _ _ ?_
                clear hKK KK
                (try simp only [Act.put,ly])
                refine wpAnyK_done (by kernel_rfl) ?_ _
                refine NoPanic.normal ?_
                go_wp2_with fail
                go_roundw
                case rel=>
                 refine ⟨cj+1,cs.set cj ⟨b6,A6,m6,c6,b6',A6',m6',c6'⟩,by omega,by go_num,K6.put (by omega) ⟨b6,A6,m6,c6,b6',A6',m6',c6'⟩,by simpa using hcl,?_,hKC.trans kp,hBC.trans bel⟩
                 refine ValL.set (f:=fun x=>if x<cj then c0 m n F Bv (c+1) x else c0 m n F Bv c x) (hcv.keep ((kp:Keep (fun b=>b=gc) w6 _).weak (fun b _ hb=> .inr (by rw [show b=gc from hb,HBg.out.kc]; decide)))) ?_ (fun i hi _=>?_)
                 ·rw [if_pos (by omega)]
                  refine RatL.keep (RatL.weak (RatV.len i6 HS1.out) (fun b hb hx=>?_)) ((kp:Keep (fun b=>b=gc) u2 _).weak (fun b _ hb=> .inr (by rw [show b=gc from hb,HBg.out.kc]; decide)))
                  show b<w6.heap.size
                  rcases hx with hx | hx
                  ·omega
                  ·have:=(HBg.out.lt b hx).2; omega
                 ·by_cases h1:i<cj
                  ·rw [if_pos h1,if_pos (by omega)]
                  ·rw [if_neg h1,if_neg (by omega)]
                case measure=>simp only [intOf]; omega
               ·have hcn2:¬ (cj:Int)<(n:Int):=by have:=hno hcr; omega
                have hcn3:((cj:Int) == (R:Int))=true:=beq_iff_eq.2 (by omega)
                clear hno hcr
                go_wp2_with fail
                refine wp_region_noPanic ?_
                refine wp_region_heldK (k:=18) (S:=(fun W=>(W.cell? ⟨gp,3,none⟩=some (.slice (some ⟨gc,0,none⟩) M M))∧((W.cell? ⟨gc,cj*4,none⟩=some (.bool b5)∧W.cell? ⟨gc,cj*4+1,none⟩=some (.slice A5 m5 c5))∧W.cell? ⟨gc,cj*4+2,none⟩=some (.bool b5')∧W.cell? ⟨gc,cj*4+3,none⟩=some (.slice A5' m5' c5'))∧(W.cell? ⟨gRow,cj*4,none⟩=some (.bool b7)∧W.cell? ⟨gRow,cj*4+1,none⟩=some (.slice A7 m7 c7))∧W.cell? ⟨gRow,cj*4+2,none⟩=some (.bool b7')∧W.cell? ⟨gRow,cj*4+3,none⟩=some (.slice A7' m7' c7'))) (by kernel_rfl) ?_ (fun hHeld=>?_)
                ·exact HLC.out _ bel
                refine puK 0 ?_
                (try simp only [Act.put,ly])
                refine puK 1 ?_
                (try simp only [Act.put,ly])
                refine puK 2 ?_
                (try simp only [Act.put,ly])
                refine tkK 3 ?_
                (try simp only [Act.put,ly])
                refine puK 4 ?_
                (try simp only [Act.put,ly])
                refine puK 5 ?_
                (try simp only [Act.put,ly])
                refine puK 6 ?_
                (try simp only [Act.put,ly])
                refine puK 7 ?_
                (try simp only [Act.put,ly])
                refine tkK 8 ?_
                (try simp only [Act.put,ly])
                refine puK 9 ?_
                (try simp only [Act.put,ly])
                refine puK 10 ?_
                (try simp only [Act.put,ly])
                refine tkK 11 ?_
                (try simp only [Act.put,ly])
                refine puK 12 ?_
                (try simp only [Act.put,ly])
                refine puK 13 ?_
                (try simp only [Act.put,ly])
                refine puK 14 ?_
                (try simp only [Act.put,ly])
                refine tkK 15 ?_
                (try simp only [Act.put,ly])
                refine wpAnyK_ready (rs:=[16]) (by kernel_rfl) (by simp) ?_
                refine AllReadyK.cons rfl (fun KK hKK=>?_) AllReadyK.nil
                go_simp
                refine (sub_rat _ (fun _=>False) _ _ (c0 m n F Bv c cj) (t0 m n F Bv c cj) (RatL.to (j5.mono (by omega))) (RatL.to ((j7.len HS2.out).mono (by omega)))).mono ?_
                rintro e u2 ⟨v6,rfl,i6,hb6⟩
                rw [←HSUC.out] at i6
                obtain ⟨b6,A6,m6,c6,b6',A6',m6',c6',rfl,i6, -, -⟩:=i6.op
                have y6:=hb6.size; (try simp only [zs] at y6)
                have K6:Line u2 gc cs:=Loc.to KC
                obtain ⟨g0,g1,g2,g3⟩:=K6.cells hq5
                dsimp only at g0 g1 g2 g3
                have f6:=K6.frz
                have l6:=K6.lt
                (try go_wp2_with fail)
                refine hKK.out _ _ ?_ (fun hHeld=>?_)
                ·(try dsimp only)
                 exact HLC.out _ bel
                clear hKK KK
                (try simp only [Act.put,ly])
                refine puK 17 ?_
                (try simp only [Act.put,ly])
                refine wpAnyK_ready (rs:=[18]) (by kernel_rfl) (by simp) ?_
                refine AllReadyK.last (by kernel_rfl) rfl (fun KK hKK=>?_) AllReadyK.nil
                go_simp
                refine hKK.out _ _ ?_
                clear hKK KK
                (try simp only [Act.put,ly])
                refine wpAnyK_done (by kernel_rfl) ?_ _
                refine NoPanic.normal ?_
                go_wp2_with fail
                go_roundw
                case rel=>
                 refine ⟨cj+1,cs.set cj ⟨b6,A6,m6,c6,b6',A6',m6',c6'⟩,by omega,by go_num,K6.put (by omega) ⟨b6,A6,m6,c6,b6',A6',m6',c6'⟩,by simpa using hcl,?_,hKC.trans kp,hBC.trans bel⟩
                 refine ValL.set (f:=fun x=>if x<cj then c0 m n F Bv (c+1) x else c0 m n F Bv c x) (hcv.keep ((kp:Keep (fun b=>b=gc) w6 _).weak (fun b _ hb=> .inr (by rw [show b=gc from hb,HBg.out.kc]; decide)))) ?_ (fun i hi _=>?_)
                 ·rw [if_pos (by omega)]
                  refine RatL.keep (RatL.weak (RatV.len i6 HS1.out) (fun b hb hx=>?_)) ((kp:Keep (fun b=>b=gc) u2 _).weak (fun b _ hb=> .inr (by rw [show b=gc from hb,HBg.out.kc]; decide)))
                  show b<w6.heap.size
                  rcases hx with hx | hx
                  ·omega
                  ·have:=(HBg.out.lt b hx).2; omega
                 ·by_cases h1:i<cj
                  ·rw [if_pos h1,if_pos (by omega)]
                  ·rw [if_neg h1,if_neg (by omega)]
                case measure=>simp only [intOf]; omega
              ·have hcn2:¬ (cj:Int)<(n:Int):=by omega
               have hcn3:((cj:Int) == (R:Int))=false:=beq_eq_false_iff_ne.2 (by omega)
               have HSUC:Hid (c0 m n F Bv (c+1) cj=c0 m n F Bv c cj):=by
                show _=_
                rw [c0_succ,if_neg (by have:=HR.out; omega)]
               clear hcond
               go_wp2_with fail
               go_roundw
               case rel=>
                refine ⟨cj+1,cs,by omega,by go_num,KC,hcl,hcv.congr (fun x hx=>?_),hKC,hBC⟩
                by_cases h1:x<cj
                ·rw [if_pos h1,if_pos (by omega)]
                ·by_cases h2:x=cj
                 ·subst h2; rw [if_neg h1,if_pos (by omega),HSUC.out]
                 ·rw [if_neg h1,if_neg (by omega)]
               case measure=>simp only [intOf]; omega
             ·obtain rfl:M=cj:=by omega
              obtain ⟨aS,aR,aB⟩:=HBg.out.apart
              have hKo6:Keep (fun b=>b=gc) wo w6:=(Keep.of_below hB5).trans hKC
              have T0:=HBg.out.trip hKo6 (by omega)
              have ROW:Hid (Rw w6 (fun b=>b=gRow∨K b ≠ 0) gRow M (t0 m n F Bv c)):=⟨rs3,KR6,hrl3,(HVR.out.weak (fun b hb hx=>by
               show b≤gRow
               rcases hx with hx | hx
               ·omega
               ·have:=(HBg.out.lt b hx).2; omega)).keep (hKC.weak (fun b _ hb=> .inr (by rw [show b=gc from hb,HBg.out.kc]; decide)))⟩
              have COST:Hid (Rc w6 (fun b=>b=gRow∨K b ≠ 0) gc M (c0 m n F Bv (c+1))):=⟨cs,KC,hcl,hcv.congr (fun x hx=>by rw [if_pos (by omega)])⟩
              have hB6:Hid (Below (w.heap.size+1) wi w6):=hB5i.trans hBC
              obtain ⟨uS,huS⟩:∃ u,sgl Bv c=u:=⟨_,rfl⟩
              obtain ⟨uR,huR⟩:∃ u,rwl G M c=u:=⟨_,rfl⟩
              obtain ⟨uB,huB⟩:∃ u,bsl n c=u:=⟨_,rfl⟩
              have hlS:Hid (uS.length=c):=by show _=_; rw [←huS]; exact sgl_len
              have hlR:Hid (uR.length=c):=by show _=_; rw [←huR]; exact rwl_len
              have hlB:Hid (uB.length=c):=by show _=_; rw [←huB]; exact bsl_len
              rw [HM.out,huS,huR,huB] at T0
              have FIN:Hid (∀ (W:World) (gS gR gB capS capR capB:Nat),Trip w6 W (w.heap.size+1) vS vR vB (.slice (some ⟨gS,0,none⟩) (c+1) capS) (.slice (some ⟨gR,0,none⟩) (c+1) capR) (.slice (some ⟨gB,0,none⟩) (c+1) capB) (uS ++ [.int .i64 sg]) (uR ++ [.slice (some ⟨gRow,0,none⟩) M M]) (uB ++ [.int .i64 (p:Int)])→
               Hid (∃ G' K',Beg (w.heap.size+1) (((W.setCell ⟨gp,2,none⟩ (.slice (some ⟨gR,0,none⟩) (c+1) capR)).setCell ⟨gp,1,none⟩ (.slice (some ⟨gS,0,none⟩) (c+1) capS)).setCell ⟨gp,4,none⟩ (.slice (some ⟨gB,0,none⟩) (c+1) capB)) m n (c+1) F Bv gp gc (.slice (some ⟨gS,0,none⟩) (c+1) capS) (.slice (some ⟨gR,0,none⟩) (c+1) capR) (.slice (some ⟨gB,0,none⟩) (c+1) capB) G' K')∧
               Below (w.heap.size+1) w6 (((W.setCell ⟨gp,2,none⟩ (.slice (some ⟨gR,0,none⟩) (c+1) capR)).setCell ⟨gp,1,none⟩ (.slice (some ⟨gS,0,none⟩) (c+1) capS)).setCell ⟨gp,4,none⟩ (.slice (some ⟨gB,0,none⟩) (c+1) capB))):=by
               intro W gS gR gB capS capR capB T
               have row:=ROW.out
               have cost:=COST.out
               rw [←HM.out] at row cost T huR
               rw [←huS,← huR,← huB,← HSG.out,← HP.out] at T
               exact HBg.out.fin hKo6 (by omega) (by omega) KR6.lt row cost T
              have LB:Loc w6 gp 444 #[.int .i64 n,vS,vR, .slice (some ⟨gc,0,none⟩) M M,vB]:=LB6
              clear huS huR huB ROW COST HVR KR6 hKC hBC hcv hB5i hB5 LB5 KR
              go_wp2_with fail
              refine reg33 T0 LB aS aR aB hlS hlR hlB (by omega) (by omega) ?_ hpi (by omega)
              intro W gR gS gB capR capS capB v144 v145 v146 v147 v148 v149 v150 v151 v152 v153 v154 v155 v156 v157 v158 v159 v160 v161 v162 v163 v164 v165 v166 v167 v168 v169 v170 v171 v172 v173 v174 v175 T
              obtain ⟨hfin,hbel⟩:=FIN.out _ _ _ _ _ _ _ T
              have HF:=Lib.hid hfin.out
              clear hfin T0
              go_wp2_with fail
              go_roundw
              case rel=>
               obtain ⟨G',K',hb⟩:=HF.out
               exact ⟨c+1,_,_,_,G',K',by omega,by go_num,hb,(hB6.out).trans hbel⟩
              case measure=>simp only [intOf]; omega
     ·obtain rfl:m=c:=by omega
      have HD:Hid (∃ l:Lay,l.p=gp∧Tab wo l m n ⟨t0 m n F Bv,fun i=>n+i⟩ (c0 m n F Bv m) (sgn Bv)∧∀ b,l.X m b→w.heap.size+1≤b):=HBg.out.done hm1
      clear HBg e9 f9
      go_wp2_with fail
      go_ret
      obtain ⟨l,hlp,hTab,hX⟩:=HD.out
      exact ⟨l,by rw [hlp]; rfl,hTab,hBo,fun b hb=>by have:=hX b hb; omega⟩
end Go.Proofs.YtbdcjhoedhhabaaGreat

