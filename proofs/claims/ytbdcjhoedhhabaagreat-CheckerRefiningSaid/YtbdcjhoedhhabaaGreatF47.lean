/- Contracts of the functions that the statements reach, part 47. -/
import Derived.Test.YtbdcjhoedhhabaaGreatRows
import Derived.Deep.LoopGhost
import Derived.WalkMore
import Derived.Laws.CopyRow
import Derived.Laws.CopyOwn
import Derived.Test.YtbdcjhoedhhabaaGreatF27
import Derived.Test.YtbdcjhoedhhabaaGreatF31
import Derived.Test.YtbdcjhoedhhabaaGreatF32
import Derived.Test.YtbdcjhoedhhabaaGreatF44
import Derived.Test.YtbdcjhoedhhabaaGreatF46
set_option linter.unusedSimpArgs false
set_option linter.unusedVariables false

/- minimize: pivots by the least index. -/
namespace Go.Proofs.YtbdcjhoedhhabaaGreat
open Go.RowKit
attribute [local go_sem ↓] Go.wp_at_zero Go.wp_at_succ

/-- The best row so far. -/
def Best (n m:Nat) (S:St) (j c:Nat) (best:Int) (q:Rat):Prop:=
 (best = -1∧∀ i,i<c→¬ 0<S.T i j)∨
 ∃ r:Nat,best=r∧r<c∧0<S.T r j∧q=S.T r (n+m) / S.T r j∧∀ i,i<c→0<S.T i j→q≤S.T i (n+m) / S.T i j∧(q=S.T i (n+m) / S.T i j→S.b r≤S.b i)
theorem sign_pos_iff (q:Rat):0<q.num.sign↔0<q:=by
 have h1:=sign_neg_iff q
 have h2:=sign_zero_iff q
 grind
section
variable {n m j c:Nat} {S:St} {best:Int} {q:Rat}
theorem Best.skip (h:Best n m S j c best q) (hc:¬ 0<S.T c j):Best n m S j (c+1) best q:=by
 rcases h with ⟨h1,h2⟩ | ⟨r,h1,h2,h3,h4,h5⟩
 ·refine .inl ⟨h1,fun i hi=>?_⟩
  by_cases hic:i<c
  ·exact h2 i hic
  ·rw [show i=c by omega]; exact hc
 ·refine .inr ⟨r,h1,by omega,h3,h4,fun i hi hp=>?_⟩
  by_cases hic:i<c
  ·exact h5 i hic hp
  ·rw [show i=c by omega] at hp; exact absurd hp hc
theorem Best.first (h:Best n m S j c (-1) q) (hc:0<S.T c j):Best n m S j (c+1) c (S.T c (n+m) / S.T c j):=by
 rcases h with ⟨h1,h2⟩ | ⟨r,h1,_⟩
 ·refine .inr ⟨c,rfl,by omega,hc,rfl,fun i hi hp=>?_⟩
  by_cases hic:i<c
  ·exact absurd hp (h2 i hic)
  ·rw [show i=c by omega]; exact ⟨Rat.le_refl,fun _=>Nat.le_refl _⟩
 ·omega
theorem Best.out {r:Nat} (h:Best n m S j c r q):r<c∧0<S.T r j∧q=S.T r (n+m) / S.T r j∧∀ i,i<c→0<S.T i j→q≤S.T i (n+m) / S.T i j∧(q=S.T i (n+m) / S.T i j→S.b r≤S.b i):=by
 rcases h with ⟨h1,h2⟩ | ⟨r',h1,h2⟩
 ·omega
 ·obtain rfl:r=r':=by omega
  exact h2
theorem Best.stay {r:Nat} (h:Best n m S j c r q) (hc:q<S.T c (n+m) / S.T c j∨q=S.T c (n+m) / S.T c j∧S.b r≤S.b c):Best n m S j (c+1) r q:=by
 obtain ⟨h2,h3,h4,h5⟩:=h.out
 refine .inr ⟨r,rfl,by omega,h3,h4,fun i hi hp=>?_⟩
 by_cases hic:i<c
 ·exact h5 i hic hp
 ·rw [show i=c by omega]
  rcases hc with h | ⟨h,hb⟩
  ·exact ⟨Rat.le_of_lt h,fun e=>by rw [e] at h; exact absurd h (Rat.lt_irrefl)⟩
  ·exact ⟨by rw [h]; exact Rat.le_refl,fun _=>hb⟩
theorem Best.next {r:Nat} (h:Best n m S j c r q) (hp0:0<S.T c j) (hc:S.T c (n+m) / S.T c j<q∨q=S.T c (n+m) / S.T c j∧S.b c≤S.b r):Best n m S j (c+1) c (S.T c (n+m) / S.T c j):=by
 obtain ⟨h2,h3,h4,h5⟩:=h.out
 refine .inr ⟨c,rfl,by omega,hp0,rfl,fun i hi hp=>?_⟩
 by_cases hic:i<c
 ·obtain ⟨h6,h7⟩:=h5 i hic hp
  rcases hc with h | ⟨h,hb⟩
  ·exact ⟨Rat.le_of_lt (by grind),fun e=>by exfalso; grind⟩
  ·rw [←h]; exact ⟨h6,fun e=>Nat.le_trans hb (h7 e)⟩
 ·rw [show i=c by omega]; exact ⟨Rat.le_refl,fun _=>Nat.le_refl _⟩
end

theorem rho_at {m:Nat} {d:Nat→Rat} {S:St} {r j:Nat} (hr:r<m) (hp:S.T r j ≠ 0):rho m d (S.at r j).T (S.at r j).b=fun c=>rho m d S.T S.b c - rho m d S.T S.b j*(S.T r c / S.T r j):=by
 funext c
 exact rho_piv d hr hp c

set_option maxRecDepth 100000 in
set_option maxHeartbeats 32000000 in
theorem minimize_any (w:World) (l:Lay) (m n:Nat) (T0:Nat→Nat→Rat) (d:Nat→Rat) (S:St) (sg:Nat→Int) (I:St→Prop) (hT:Tab w l m n S (rho m d S.T S.b) sg) (hG:Good m n T0 S.T S.b) (hF:Feas m n S) (hI0:I S)
 (hI:∀ S j r,I S→In m n d S j→Out m n S j r→I (S.at r j)) (hm:m≤80) (hn:n≤80)
 (hsz:∀ S:St,Good m n T0 S.T S.b→(∀ r,r<m→∀ c,c≤n+m→Rsz 3000 (S.T r c))∧∀ c,c≤n+m→Rsz 9000 (rho m d S.T S.b c)) :
 Calls Tryz.prog 379 #[.pointer (some ⟨l.p,0,none⟩)] w fun e w'=>∃ S':St,Good m n T0 S'.T S'.b∧Feas m n S'∧I S'∧Tab w' l m n S' (rho m d S'.T S'.b) sg∧Keep (l.X m) w w'∧
  Hid ((e = .returned (.tuple #[.int .i64 0, .bool true])∧∀ j,j<n→¬ rho m d S'.T S'.b j<0)∨∃ j:Nat,e = .returned (.tuple #[.int .i64 j, .bool false])∧In m n d S' j∧∀ i,i<m→¬ 0<S'.T i j):=by
 have hxl:=Lib.hid hT.xlt
 have HLIM:Hid (Lim m n d ((n+m) ^ m) S):=bland hG hF
 have HI:=Lib.hid hI
 have HSZ:=Lib.hid hsz
 have HG0:=Lib.hid hG
 have HF0:=Lib.hid hF
 have HI00:=Lib.hid hI0
 have HT0:=Lib.hid hT
 generalize hK0:(n+m) ^ m=K0 at *
 have L1:=made1 w #[.pointer (some ⟨l.p,0,none⟩)] 364
 clear hT hG hF hI0 hI hsz hK0
 go_enter Tryz.func379,Tryz.ntmps379
 go_wp2_with fail
 go_step3
 go_wp2_with fail
 go_step3
 go_wp2_with fail
 go_loopg [] K0 (fun gk wr=>∃ S1:St,Hid (Lim m n d gk S1)∧Hid (Good m n T0 S1.T S1.b)∧Hid (Feas m n S1)∧Hid (I S1)∧Hid (Tab wr l m n S1 (rho m d S1.T S1.b) sg)∧Loc wr w.heap.size 364 #[.pointer (some ⟨l.p,0,none⟩)]∧Keep (l.X m) w wr)
 case atStart=>exact ⟨S,HLIM,HG0,HF0,HI00,HT0.out.on kp,L1,kp⟩
 case round=>
  obtain ⟨S1,HL,HG,HF,HI1,HT,N1,hK⟩:=hrel
  obtain ⟨wo,rfl⟩:∃ wo:World,wo=wr:=⟨_,rfl⟩
  clear L1
  have q1:=N1.lt
  have e1:=Loc.cell N1
  have HS1:=Lib.hid (HSZ.out S1 HG.out)
  go_wp2_with fail
  refine (enter_any _ l m n w.heap.size S1 _ sg HT.out (Loc.c 0 N1) q1 hm hn HS1.out.2).mono ?_
  rintro e w2 ⟨rj,rfl,hrj,hb2⟩
  have y2:=hb2.size; (try simp only [zs] at y2)
  rcases hrj.out with ⟨rfl,hno⟩ | ⟨j,rfl,hjn,hneg,hall⟩
  ·have HNO:=Lib.hid hno
   clear hno hrj
   go_wp2_with fail
   rw [Exit.noGoto_ret]
   go_ret2
   exact ⟨S1,HG.out,HF.out,HI1.out,HT.out.on kp,hK.trans kp, .inl ⟨rfl,HNO.out⟩⟩
  have HIN:Hid (In m n d S1 j):=⟨hjn,hneg,fun c hc=>Rat.not_lt.1 (hall c hc)⟩
  obtain ⟨⟨⟨cs,cr,cb,hbox,hcs,hcr,hcb⟩, -,⟨rr,hrow,hrr⟩⟩, -, -,⟨bb,hbas,hbb⟩, -⟩:=HT.out
  have HRR:=Lib.hid hrr
  have HBB:=Lib.hid hbb
  have N2:Loc w2 _ _ _:=Loc.to N1
  have hbo2:Loc w2 _ _ _:=Loc.to hbox
  have HT2:Hid (Tab w2 l m n S1 (rho m d S1.T S1.b) sg):=HT.out.on kp
  have q2:=N2.lt
  have q3:=hbo2.lt
  have LZ:=made1 w2 #[.bool false, .slice none 0 0, .bool false, .slice none 0 0] 213
  have hro2:Loc w2 _ _ _:=Loc.to hrow
  have hba2:Loc w2 _ _ _:=Loc.to hbas
  have q4:=hro2.lt
  have q5:=hba2.lt
  have hK2:Keep (l.X m) w w2:=hK.trans kp
  have j0:(0:Int)≤(j:Int):=by omega
  have jn:¬ (j:Int)<0:=by omega
  have hmr:(m:Int)≤(cr:Int):=by omega
  have hmb:(m:Int)≤(cb:Int):=by omega
  obtain ⟨N,hN⟩:∃ N,n+m+1=N:=⟨_,rfl⟩
  have HN:=Lib.hid hN
  clear hrr hbb hneg hall hrj e1 hbox hrow hbas
  obtain ⟨e1,f1, -⟩:=N2.all (w':=w2)
  obtain ⟨e2,f2, -⟩:=hbo2.all (w':=w2)
  go_wp2_with fail
  go_loopw [6,23] (fun v i wi=>∃ (c:Nat) (best:Int) (q:Rat) (r4:R4),c≤m∧i = .int .i64 c∧v = .int .i64 best∧Hid (Best n m S1 j c best q)∧Loc wi w2.heap.size 213 #[.bool r4.b, .slice r4.A r4.m r4.c, .bool r4.b', .slice r4.A' r4.m' r4.c']∧
   RatL 100000 wi (fun b=>b≤w2.heap.size) r4.v q∧Below w2.heap.size w2 wi) (fun _ i _=>m - (intOf i).toNat)
  case atStart=>exact ⟨0, -1,0,zR4,by omega,rfl,rfl, .inl ⟨rfl,fun i hi=>absurd hi (by omega)⟩,LZ,zR4L _ _ _,bel⟩
  case round=>
   obtain ⟨c,best,q,r4,hc,rfl,rfl,hbest,NL,rl,hB⟩:=hrel
   obtain ⟨wi,rfl⟩:∃ wi:World,wi=wr:=⟨_,rfl⟩
   clear e1 f1 e2 f2 LZ
   have y5:=hB.size; (try simp only [zs] at y5)
   have hKi:Keep (fun _=>False) w2 wi:= .of_below hB
   have N3:Loc wi _ _ _:=Loc.keep N2 hKi id
   have hbo3:Loc wi _ _ _:=Loc.keep hbo2 hKi id
   have hro3:Loc wi _ _ _:=Loc.keep hro2 hKi id
   have hba3:Loc wi _ _ _:=Loc.keep hba2 hKi id
   have HT3:Hid (Tab wi l m n S1 (rho m d S1.T S1.b) sg):=HT2.out.on hKi
   have q6:=N3.lt
   have q7:=hbo3.lt
   have q8:=NL.lt
   by_cases hlt:c<m
   ·have hrc:wi.cell? ⟨l.gr,c,none⟩=some (.slice (some ⟨l.G c,0,none⟩) N N):=by rw [Loc.cell hro3,HRR.out c hlt,HN.out]
    have hRw:=HT3.out.rows c hlt
    rw [HN.out] at hRw
    obtain ⟨b3,A3,m3,c3,b3',A3',m3',c3',x0,x1,x2,x3,r3, -⟩:=hRw.at (show j<N by omega)
    obtain ⟨b4,A4,m4,c4,b4',A4',m4',c4',y0,y1,y2,y3,r5, -⟩:=hRw.at (show n+m<N by omega)
    have j1:(j:Int)<(N:Int):=by omega
    obtain ⟨R,hR⟩:∃ R,n+m=R:=⟨_,rfl⟩
    have HR:=Lib.hid hR
    rw [hR] at y0 y1 y2 y3
    have j2:(R:Int)<(N:Int):=by omega
    have j3:(0:Int)≤(R:Int):=by omega
    have k1:(c:Int)<(m:Int):=by omega
    obtain ⟨sv,hsv⟩:∃ s,(S1.T c j).num.sign=s:=⟨_,rfl⟩
    have HSV:=Lib.hid hsv
    have HSP:Hid (0<sv↔0<S1.T c j):=by show _↔_; rw [←hsv]; exact sign_pos_iff _
    clear hsv
    go_wp2_with fail
    refine (sign_rat _ (fun _=>False) 3000 _ (S1.T c j) (RatL.to (r3.len (HS1.out.1 c hlt j (by omega))))).mono ?_
    rintro e w3 ⟨he,hb3⟩
    rw [HSV.out] at he
    subst he
    have y9:=hb3.size; (try simp only [zs] at y9)
    by_cases hsp:0<sv
    ·have hpos:=Lib.hid (HSP.out.1 hsp)
     have HTN:Hid (S1.T c j ≠ 0):=by show _ ≠ _; have:=hpos.out; grind
     obtain ⟨qc,hqc⟩:∃ qc,S1.T c (n+m) / S1.T c j=qc:=⟨_,rfl⟩
     have HQC:=Lib.hid hqc
     have HQS:Hid (Rsz 6000 qc):=by show Rsz _ _; rw [←hqc]; exact ((HS1.out.1 c hlt (n+m) (Nat.le_refl _)).div (HS1.out.1 c hlt j (by omega))).mono (by omega)
     have HL:Hid (∀ W,Keep (fun _=>False) wi W→(W.cell? ⟨w.heap.size,0,none⟩=some (.pointer (some ⟨l.p,0,none⟩))∧((W.cell? ⟨l.G c,j*4,none⟩=some (.bool b3)∧W.cell? ⟨l.G c,j*4+1,none⟩=some (.slice A3 m3 c3))∧W.cell? ⟨l.G c,j*4+2,none⟩=some (.bool b3')∧W.cell? ⟨l.G c,j*4+3,none⟩=some (.slice A3' m3' c3'))∧(W.cell? ⟨l.G c,R*4,none⟩=some (.bool b4)∧W.cell? ⟨l.G c,R*4+1,none⟩=some (.slice A4 m4 c4))∧W.cell? ⟨l.G c,R*4+2,none⟩=some (.bool b4')∧W.cell? ⟨l.G c,R*4+3,none⟩=some (.slice A4' m4' c4'))):=fun W hW=>by
      refine ⟨cell_keep (Loc.c 0 N3) q6 id hW,⟨⟨?_,?_⟩,?_,?_⟩,⟨?_,?_⟩,?_,?_⟩
      ·exact cell_keep x0 hRw.lt id hW
      ·exact cell_keep x1 hRw.lt id hW
      ·exact cell_keep x2 hRw.lt id hW
      ·exact cell_keep x3 hRw.lt id hW
      ·exact cell_keep y0 hRw.lt id hW
      ·exact cell_keep y1 hRw.lt id hW
      ·exact cell_keep y2 hRw.lt id hW
      ·exact cell_keep y3 hRw.lt id hW
     clear HSP HSV hqc x0 x1 x2 x3 y0 y1 y2 y3
     have NL5:Loc w3 _ _ _:=Loc.to NL
     have rl5:RatL 100000 w3 (fun b=>b≤w2.heap.size) r4.v q:=rl.keep kp
     have hTi3:Hid (Tab w3 l m n S1 (rho m d S1.T S1.b) sg):=HT3.out.on kp
     go_upto_region 11 with fail
     go_cut [10] from 28 to 46 (fun v W=>∃ (g10:Nat) (b7:Bool) (A7:Option Addr) (m7 c7:Nat) (b7':Bool) (A7':Option Addr) (m7' c7':Nat),v = .pointer (some ⟨g10,0,none⟩)∧w3.heap.size≤g10∧Loc W g10 213 #[.bool b7, .slice A7 m7 c7, .bool b7', .slice A7' m7' c7']∧
      RatL 6000 W (fun b=>b<w3.heap.size) (.agg #[.bool b7, .slice A7 m7 c7, .bool b7', .slice A7' m7' c7']) qc∧Below w3.heap.size w3 W)
     case first=>
      go_wp2_with fail
      go_region_held3 (fun W=>(W.cell? ⟨w.heap.size,0,none⟩=some (.pointer (some ⟨l.p,0,none⟩))∧((W.cell? ⟨l.G c,j*4,none⟩=some (.bool b3)∧W.cell? ⟨l.G c,j*4+1,none⟩=some (.slice A3 m3 c3))∧W.cell? ⟨l.G c,j*4+2,none⟩=some (.bool b3')∧W.cell? ⟨l.G c,j*4+3,none⟩=some (.slice A3' m3' c3'))∧(W.cell? ⟨l.G c,R*4,none⟩=some (.bool b4)∧W.cell? ⟨l.G c,R*4+1,none⟩=some (.slice A4 m4 c4))∧W.cell? ⟨l.G c,R*4+2,none⟩=some (.bool b4')∧W.cell? ⟨l.G c,R*4+3,none⟩=some (.slice A4' m4' c4')))
       (exact HL.out _ kp)
       (first
        | (go_at_call 380; refine (tright_any _ l m n sg (hTi3.out.on kp).fix hm hn).mono ?_; rintro e u1 ⟨he,hb6⟩; rw [HR.out] at he; subst he; have y6:=hb6.size; (try simp only [zs] at y6))
        | (go_at_call 446; refine (ratdivide_any _ (fun _ => False) _ _ (S1.T c (n + m)) (S1.T c j) (RatL.to ((r5.len (HS1.out.1 c hlt (n + m) (Nat.le_refl _))).mono (by omega))) (RatL.to ((r3.len (HS1.out.1 c hlt j (by omega))).mono (by omega))) HTN.out).mono ?_; rintro e u2 ⟨v7, rfl, i7, hb7⟩; rw [HQC.out] at i7; obtain ⟨b7, A7, m7, c7, b7', A7', m7', c7', rfl, i7, -, -⟩ := i7.op; have y7 := hb7.size; (try simp only [zs] at y7); (first
          | (have h7:Loc u2 w3.heap.size 213 #[.bool false, .slice none 0 0, .bool false, .slice none 0 0]:=(made1 w3 #[.bool false, .slice none 0 0, .bool false, .slice none 0 0] 213).to (w':=u2); obtain ⟨e7,g7,l7⟩:=h7.all (w':=u2))
          | (have h7:Loc u2 u1.heap.size 213 #[.bool false, .slice none 0 0, .bool false, .slice none 0 0]:=(made1 u1 #[.bool false, .slice none 0 0, .bool false, .slice none 0 0] 213).to (w':=u2); obtain ⟨e7,g7,l7⟩:=h7.all (w':=u2))
          | skip)))
      all_goals
       go_wp2_with fail
       go_meet
       have i7L:=i7.len HQS.out
       first
        | (have q:=Loc.fill4 (u:= .bool b7) (v:= .slice A7 m7 c7) (x:= .bool b7') (y:= .slice A7' m7' c7') h7; exact ⟨_,_,_,_,_,_,_,_,_,rfl,by omega,q,(i7L.keep kp).weak (fun b _ hb=>by show b<_; simp only [World.size_alloc,size_set,size_drew] at *; omega),bel⟩)
        | exact ⟨_,_,_,_,_,_,_,_,_,rfl,by omega,made1 u2 _ _,(i7L.keep kp).weak (fun b _ hb=>by show b<_; simp only [World.size_alloc,size_set,size_drew] at *; omega),bel⟩
     case rest=>
      obtain ⟨g10,b7,A7,m7,c7,b7',A7',m7',c7',rfl,hg10,NT,i7,hB7⟩:=hcut
      obtain ⟨w7,rfl⟩:∃ w7:World,w7=wc:=⟨_,rfl⟩
      have y8:=hB7.size; (try simp only [zs] at y8)
      have NL7:Loc w7 _ _ _:=Loc.to NL5
      have hw23:w2.heap.size<w3.heap.size:=by omega
      rcases hbest.out with ⟨rfl, -⟩ | ⟨r,rfl,hrc, -⟩
      ·skip
       have HNB:Hid (Best n m S1 j (c+1) c qc):=by have:=hbest.out.first hpos.out; rw [HQC.out] at this; exact this
       have i7X:RatL 100000 w7 (fun b=>b≤w2.heap.size) _ qc:=((i7.keep kp).weak (fun b _ hb=>by show b<w3.heap.size; omega)).mono (by omega)
       obtain ⟨e8,f8,l8⟩:=Loc.all NL7 (w':=w7.drew)
       obtain ⟨e18,f18,l18⟩:=Loc.all NL7 (w':=w7)
       go_wp2_with fail
       go_region_held3 (fun W=>(W.cell? ⟨g10,0,none⟩=some (.bool b7)∧W.cell? ⟨g10,1,none⟩=some (.slice A7 m7 c7))∧W.cell? ⟨g10,2,none⟩=some (.bool b7')∧W.cell? ⟨g10,3,none⟩=some (.slice A7' m7' c7'))
        (exact ⟨⟨Loc.c 0 NT,Loc.c 1 NT⟩,Loc.c 2 NT,Loc.c 3 NT⟩)
        (fail)
       all_goals
        go_wp2_with fail
        go_roundw
        case rel=>
         refine ⟨c+1,c,qc,⟨b7,A7,m7,c7,b7',A7',m7',c7'⟩,by omega,by go_num,rfl,HNB,Loc.fill4 (Loc.to NL7 (w':=w7.drew)),?_,bel⟩
         exact i7X.keep kp
        case measure=>simp only [intOf]; omega
      ·have hr0:(0:Int)≤(r:Int):=by omega
       have hr1:(r:Int)<(m:Int):=by omega
       obtain ⟨vv,hvv⟩:∃ v,rcmp qc q=v:=⟨_,rfl⟩
       have HVV:=Lib.hid hvv
       have HV0:Hid (vv=0↔qc=q):=by show _↔_; rw [←hvv]; exact rcmp_zero qc q
       have HV1:Hid (0<vv↔q<qc):=by
        show _↔_
        rw [←hvv]
        have:=rcmp_le qc q
        rw [←Rat.not_le,← this]; omega
       have hv3:vv=0∨vv<0∨0<vv:=by omega
       clear hvv
       obtain ⟨e8,f8,l8⟩:=Loc.all NL7 (w':=w7)
       obtain ⟨e9,f9,l9⟩:=Loc.all NT (w':=w7)
       go_wp2_with fail
       refine (ratcompare_any _ (fun _=>False) _ _ qc q (RatL.to (i7.mono (by omega))) (RatL.to (rl5.mono (by omega)))).mono ?_
       rintro e w8 ⟨he,hb8⟩
       rw [HVV.out] at he
       subst he
       have y10:=hb8.size; (try simp only [zs] at y10)
       clear e8 f8 l8 e9 f9 l9
       have NL8:Loc w8 _ _ _:=Loc.to NL7
       have NT8:Loc w8 _ _ _:=Loc.to NT
       rcases hv3 with rfl | hv | hv
       ·have HQE:=Lib.hid (HV0.out.1 rfl)
        clear HV0 HV1 HVV
        go_wp2_with fail
        go_region_held3 (fun W=>((W.cell? ⟨w.heap.size,0,none⟩=some (.pointer (some ⟨l.p,0,none⟩))∧W.cell? ⟨l.p,4,none⟩=some (.slice (some ⟨l.gb,0,none⟩) m cb))∧W.cell? ⟨l.gb,c,none⟩=some (.int .i64 (S1.b c))∧W.cell? ⟨l.gb,r,none⟩=some (.int .i64 (S1.b r))))
         (exact ⟨⟨Loc.c 0 N3,Loc.c 4 hbo3⟩,(Loc.c c hba3).trans (HBB.out c hlt),(Loc.c r hba3).trans (HBB.out r (by omega))⟩)
         (fail)
        all_goals
         by_cases hbr:S1.b r<S1.b c
         ·have hbr2:((S1.b r:Nat):Int)<((S1.b c:Nat):Int):=by omega
          go_wp2_with fail
          go_roundw
          case rel=>exact ⟨c+1,r,q,r4,by omega,by go_num,rfl,hbest.out.stay (.inr ⟨by rw [HQC.out,HQE.out],by omega⟩),Loc.to NL8,rl5.keep kp,bel⟩
          case measure=>simp only [intOf]; omega
         ·have hbr2:¬ ((S1.b r:Nat):Int)<((S1.b c:Nat):Int):=by omega
          have HNB:Hid (Best n m S1 j (c+1) c qc):=by have:=hbest.out.next hpos.out (.inr ⟨by rw [HQC.out,HQE.out],by omega⟩); rw [HQC.out] at this; exact this
          have i7X:RatL 100000 w8 (fun b=>b≤w2.heap.size) _ qc:=((i7.keep kp).weak (fun b _ hb=>by show b<w3.heap.size; omega)).mono (by omega)
          obtain ⟨e8,f8,l8⟩:=Loc.all NL8 (w':=w8.drew.drew)
          obtain ⟨e18,f18,l18⟩:=Loc.all NL8 (w':=w8)
          go_wp2_with fail
          go_region_held3 (fun W=>(W.cell? ⟨g10,0,none⟩=some (.bool b7)∧W.cell? ⟨g10,1,none⟩=some (.slice A7 m7 c7))∧W.cell? ⟨g10,2,none⟩=some (.bool b7')∧W.cell? ⟨g10,3,none⟩=some (.slice A7' m7' c7'))
           (exact ⟨⟨Loc.c 0 NT8,Loc.c 1 NT8⟩,Loc.c 2 NT8,Loc.c 3 NT8⟩)
           (fail)
          all_goals
           go_wp2_with fail
           go_roundw
           case rel=>
            refine ⟨c+1,c,qc,⟨b7,A7,m7,c7,b7',A7',m7',c7'⟩,by omega,by go_num,rfl,HNB,Loc.fill4 (Loc.to NL8 (w':=w8.drew.drew)),?_,bel⟩
            exact i7X.keep kp
           case measure=>simp only [intOf]; omega
       ·have HQL:Hid (qc<q):=by
         have h1:¬ q<qc:=fun h=>by have:=HV1.out.2 h; omega
         have h2:¬ qc=q:=fun h=>by have:=HV0.out.2 h; omega
         show _<_
         grind
        have hv4:¬ 0<vv:=by omega
        have hv6:decide (0<vv)=false:=decide_eq_false hv4
        have hv5:(vv == 0)=false:=beq_eq_false_iff_ne.2 (by omega)
        clear HV0 HV1 HVV
        go_wp2_with fail
        refine wp_region_noPanic ?_
        refine wp_region_held_drew (S:=(fun W=>(W.cell? ⟨w.heap.size,0,none⟩=some (.pointer (some ⟨l.p,0,none⟩))∧W.cell? ⟨l.p,4,none⟩=some (.slice (some ⟨l.gb,0,none⟩) m cb)))) (by kernel_rfl) ?_ (fun hHeld=>?_)
        ·exact ⟨Loc.c 0 N3,Loc.c 4 hbo3⟩
        refine tk 0 ?_
        (try simp only [Act.put,ly])
        refine tk 1 ?_
        (try simp only [Act.put,ly])
        refine tk 2 ?_
        (try simp only [Act.put,ly])
        refine tk 3 ?_
        (try simp only [Act.put,ly])
        refine tk 4 ?_
        (try simp only [Act.put,ly])
        refine tk 5 ?_
        (try simp only [Act.put,ly])
        refine tkO 6 ?_
        (try simp only [Act.put,ly])
        refine tkO 7 ?_
        (try simp only [Act.put,ly])
        refine tkO 8 ?_
        (try simp only [Act.put,ly])
        refine tkO 9 ?_
        (try simp only [Act.put,ly])
        refine tkO 10 ?_
        (try simp only [Act.put,ly])
        refine tkO 11 ?_
        (try simp only [Act.put,ly])
        refine tkO 12 ?_
        (try simp only [Act.put,ly])
        refine tkO 13 ?_
        (try simp only [Act.put,ly])
        refine tkO 14 ?_
        (try simp only [Act.put,ly])
        refine tkO 15 ?_
        (try simp only [Act.put,ly])
        refine tkO 16 ?_
        (try simp only [Act.put,ly])
        refine tkO 17 ?_
        (try simp only [Act.put,ly])
        refine tkO 18 ?_
        (try simp only [Act.put,ly])
        refine tkO 19 ?_
        (try simp only [Act.put,ly])
        refine tkO 20 ?_
        (try simp only [Act.put,ly])
        refine tk 21 ?_
        (try simp only [Act.put,ly])
        refine tk 22 ?_
        (try simp only [Act.put,ly])
        refine wpAnyH_done (by kernel_rfl) ?_ _
        refine NoPanic.normal ?_
        have HNB:Hid (Best n m S1 j (c+1) c qc):=by have:=hbest.out.next hpos.out (.inl (by rw [HQC.out]; exact HQL.out)); rw [HQC.out] at this; exact this
        have i7X:RatL 100000 w8 (fun b=>b≤w2.heap.size) _ qc:=((i7.keep kp).weak (fun b _ hb=>by show b<w3.heap.size; omega)).mono (by omega)
        obtain ⟨e8,f8,l8⟩:=Loc.all NL8 (w':=w8.drew.drew)
        obtain ⟨e18,f18,l18⟩:=Loc.all NL8 (w':=w8)
        go_wp2_with fail
        go_region_held3 (fun W=>(W.cell? ⟨g10,0,none⟩=some (.bool b7)∧W.cell? ⟨g10,1,none⟩=some (.slice A7 m7 c7))∧W.cell? ⟨g10,2,none⟩=some (.bool b7')∧W.cell? ⟨g10,3,none⟩=some (.slice A7' m7' c7'))
         (exact ⟨⟨Loc.c 0 NT8,Loc.c 1 NT8⟩,Loc.c 2 NT8,Loc.c 3 NT8⟩)
         (fail)
        all_goals
         go_wp2_with fail
         go_roundw
         case rel=>
          refine ⟨c+1,c,qc,⟨b7,A7,m7,c7,b7',A7',m7',c7'⟩,by omega,by go_num,rfl,HNB,Loc.fill4 (Loc.to NL8 (w':=w8.drew.drew)),?_,bel⟩
          exact i7X.keep kp
         case measure=>simp only [intOf]; omega
       ·have HQL:Hid (q<qc):=HV1.out.1 hv
        clear HV0 HV1 HVV
        go_wp2_with fail
        refine wp_region_noPanic ?_
        refine wp_region_held_drew (S:=(fun W=>(W.cell? ⟨w.heap.size,0,none⟩=some (.pointer (some ⟨l.p,0,none⟩))∧W.cell? ⟨l.p,4,none⟩=some (.slice (some ⟨l.gb,0,none⟩) m cb)))) (by kernel_rfl) ?_ (fun hHeld=>?_)
        ·exact ⟨Loc.c 0 N3,Loc.c 4 hbo3⟩
        refine tk 0 ?_
        (try simp only [Act.put,ly])
        refine tk 1 ?_
        (try simp only [Act.put,ly])
        refine tk 2 ?_
        (try simp only [Act.put,ly])
        refine tkO 3 ?_
        (try simp only [Act.put,ly])
        refine tkO 4 ?_
        (try simp only [Act.put,ly])
        refine tkO 5 ?_
        (try simp only [Act.put,ly])
        refine tkO 6 ?_
        (try simp only [Act.put,ly])
        refine tkO 7 ?_
        (try simp only [Act.put,ly])
        refine tkO 8 ?_
        (try simp only [Act.put,ly])
        refine tkO 9 ?_
        (try simp only [Act.put,ly])
        refine tkO 10 ?_
        (try simp only [Act.put,ly])
        refine tkO 11 ?_
        (try simp only [Act.put,ly])
        refine tkO 12 ?_
        (try simp only [Act.put,ly])
        refine tkO 13 ?_
        (try simp only [Act.put,ly])
        refine tkO 14 ?_
        (try simp only [Act.put,ly])
        refine tkO 15 ?_
        (try simp only [Act.put,ly])
        refine tkO 16 ?_
        (try simp only [Act.put,ly])
        refine tkO 17 ?_
        (try simp only [Act.put,ly])
        refine tkO 18 ?_
        (try simp only [Act.put,ly])
        refine tkO 19 ?_
        (try simp only [Act.put,ly])
        refine tkO 20 ?_
        (try simp only [Act.put,ly])
        refine tkO 21 ?_
        (try simp only [Act.put,ly])
        refine tk 22 ?_
        (try simp only [Act.put,ly])
        refine wpAnyH_done (by kernel_rfl) ?_ _
        refine NoPanic.normal ?_
        go_wp2_with fail
        go_roundw
        case rel=>exact ⟨c+1,r,q,r4,by omega,by go_num,rfl,hbest.out.stay (.inl (by rw [HQC.out]; exact HQL.out)),Loc.to NL8,rl5.keep kp,bel⟩
        case measure=>simp only [intOf]; omega
    ·have hpos:Hid (¬ 0<S1.T c j):=fun h=>hsp (HSP.out.2 h)
     clear HSP HSV
     go_wp2_with fail
     go_roundw
     case rel=>exact ⟨c+1,best,q,r4,by omega,by go_num,rfl,hbest.out.skip hpos.out,Loc.to NL,rl.keep kp,bel⟩
     case measure=>simp only [intOf]; omega
   ·obtain rfl:m=c:=by omega
    obtain ⟨e1,f1, -⟩:=N3.all (w':=wi)
    rcases hbest.out with ⟨rfl,hno⟩ | ⟨r,rfl,hrm,hrp,hrq,hrmin⟩
    ·have HNO:=Lib.hid hno
     clear hno
     go_wp2_with fail
     rw [Exit.noGoto_ret]
     go_ret2
     exact ⟨S1,HG.out,HF.out,HI1.out,HT3.out,hK2.trans kp, .inr ⟨j,rfl,HIN.out,HNO.out⟩⟩
    ·have HOUT:Hid (Out m n S1 j r):=⟨hrm,hrp,fun i hi hp=>by have:=hrmin i hi hp; rw [hrq] at this; exact this⟩
     have HBL:Hid (Bl m n d S1 (S1.at r j)):=⟨j,r,HIN.out,HOUT.out,rfl⟩
     have HNE:Hid (S1.T r j ≠ 0):=by show _ ≠ _; grind
     obtain ⟨gk',hgk⟩:∃ k,gk=k+1:=by
      cases gk with
      | zero=>exact absurd HBL.out (HL.out _)
      | succ k=>exact ⟨k,rfl⟩
     have HLK:Hid (Lim m n d gk' (S1.at r j)):=by have h:=HL.out; rw [hgk] at h; exact h _ HBL.out
     have r0:(0:Int)≤(r:Int):=by omega
     have rn:¬ (r:Int)<0:=by omega
     have HRM:=Lib.hid hrm
     clear hrp hrq hrmin
     go_wp2_with fail
     refine (pivot_any _ l m n r j S1 _ sg HT3.out HRM.out (by omega) HNE.out hm hn HS1.out.1 HS1.out.2).mono ?_
     rintro e w9 ⟨rfl,hT9,hK9⟩
     rw [←rho_at HRM.out HNE.out] at hT9
     have HT9:=Lib.hid hT9
     have N9:Loc w9 _ _ _:=Loc.keep N3 hK9 (fun h=>by have:=hxl.out _ h; omega)
     have hK99:Keep (l.X m) w w9:=(hK2.trans kp).trans hK9
     clear hT9
     go_wp2_with fail
     go_roundg gk'
     case rel=>exact ⟨S1.at r j,HLK,HG.out.at hjn HOUT.out,HF.out.at HOUT.out,HI.out S1 j r HI1.out HIN.out HOUT.out,HT9,N9,hK99⟩
     case measure=>omega
end Go.Proofs.YtbdcjhoedhhabaaGreat

/- copy of fractions into a line. -/
namespace Go.Proofs.YtbdcjhoedhhabaaGreat
open Go.RowKit

end Go.Proofs.YtbdcjhoedhhabaaGreat

/- second: between the phases. -/
namespace Go.Proofs.YtbdcjhoedhhabaaGreat
open Go.RowKit
attribute [local go_sem ↓] Go.wp_at_zero Go.wp_at_succ

/-- The cost after the first c rows have been taken off. -/
def prc (d:Nat→Rat) (S:St) (c:Nat):Nat→Rat:=fun x=>d x - sm c (fun i=>d (S.b i)*S.T i x)
/-- The sizes of every tableau of T0. -/
def Szs (m n:Nat) (T0:Nat→Nat→Rat) (d:Nat→Rat):Prop:=∀ S:St,Good m n T0 S.T S.b→(∀ r,r<m→∀ c,c≤n+m→Rsz 3000 (S.T r c))∧∀ r,r≤m→∀ c,c≤n+m→Rsz 9000 (prc d S r c)

end Go.Proofs.YtbdcjhoedhhabaaGreat

/- What the tableaux at the ends of the two phases prove of the system: plain laws. -/
namespace Go.Proofs.YtbdcjhoedhhabaaGreat

section
variable {m n:Nat} {F:Nat→Nat→Rat} {Bv kc:Nat→Rat} {S:St} {N:Nat→Nat}
theorem sgn_sq (Bv:Nat→Rat) (l:Nat):((sgn Bv l:Int):Rat)*((sgn Bv l:Int):Rat)=1:=by
 rcases sgn_or Bv l with h | h <;> rw [h]
 ·rw [show ((1:Int):Rat)=1 from rfl]; grind
 ·rw [show ((-1:Int):Rat) = -1 from rfl]; grind
theorem sgn_cancel (Bv:Nat→Rat) (l:Nat) {x y:Rat} (h:((sgn Bv l:Int):Rat)*x=((sgn Bv l:Int):Rat)*y):x=y:=by
 have h2:=sgn_sq Bv l
 have:((sgn Bv l:Int):Rat)*(((sgn Bv l:Int):Rat)*x)=((sgn Bv l:Int):Rat)*(((sgn Bv l:Int):Rat)*y):=by rw [h]
 grind
/-- A solution of the first tableau solves the system. -/
theorem sv_of {f:Nat→Rat} {bv:Nat→Rat} (hf:∀ j,j<n→0≤f j) (h:∀ l,l<m→sm n (fun j=>t0 m n F Bv l j*f j)=((sgn Bv l:Int):Rat)*bv l):SV m n n F f bv:=by
 refine ⟨rfl,fun j hj=>Rat.not_lt.2 (hf j hj),fun l hl=>sgn_cancel Bv l ?_⟩
 rw [←h l hl,← sm_mul]
 exact sm_congr (fun j hj=>by rw [t0_left hj]; grind)
theorem pt_sv (G:Good m n (t0 m n F Bv) S.T S.b) (hF:Feas m n S) (hZ:Zer m n S):SV m n n F (pt m n S) Bv:=
 sv_of (fun j _=>pt_nonneg hF j) (fun l hl=>by rw [pt_solves G hZ hl,t0_right])
/-- The vector of the duals, its signs back, times the system. -/
theorem du_left (G:Good m n (t0 m n F Bv) S.T S.b) (d:Nat→Rat) {c:Nat} (hc:c<n):sm m (fun l=>(((sgn Bv l:Int):Rat)*du m n d S l)*F l c)=d c - rho m d S.T S.b c:=by
 rw [G.dual (d:=d) (show c≤n+m by omega),sm_congr (g:=fun l=>du m n d S l*t0 m n F Bv l c) (fun l _=>by rw [t0_left hc]; grind)]; grind
theorem du_right (G:Good m n (t0 m n F Bv) S.T S.b) (d:Nat→Rat):sm m (fun l=>(((sgn Bv l:Int):Rat)*du m n d S l)*Bv l)=d (n+m) - rho m d S.T S.b (n+m):=by
 rw [G.dual (d:=d) (Nat.le_refl (n+m)),sm_congr (g:=fun l=>du m n d S l*t0 m n F Bv l (n+m)) (fun l _=>by rw [t0_right]; grind)]; grind
theorem du_1 {l:Nat} (hl:l<m):((-(sgn Bv l):Int):Rat)*(1 - rho m (d1 m n) S.T S.b (n+l)) = -(((sgn Bv l:Int):Rat)*du m n (d1 m n) S l):=by
 have h:d1 m n (n+l)=1:=by unfold d1; rw [if_pos (by omega)]
 unfold du
 rw [h,Rat.intCast_neg]; grind
theorem rho_basic {T0:Nat→Nat→Rat} {d:Nat→Rat} (G:Good m n T0 S.T S.b) {i:Nat} (hi:i<m):rho m d S.T S.b (S.b i)=0:=by
 unfold rho
 rw [sm_one _ i hi (fun l hl hne=>by rw [G.id i hi l hl,if_neg hne]; grind),G.id i hi i hi,if_pos rfl]; grind
/-- The first phase fails: its duals are a Farkas vector. -/
theorem fk_of (hV:VS m m N) (hN:N 0=n) (G:Good m n (t0 m n F Bv) S.T S.b) (hF:Feas m n S) (ho:∀ j,j<n→¬ rho m (d1 m n) S.T S.b j<0) (hne:rho m (d1 m n) S.T S.b (n+m) ≠ 0) :
 FK m m N F Bv m (fun i=>((-(sgn Bv i):Int):Rat)*(1 - rho m (d1 m n) S.T S.b (n+i))):=by
 refine ⟨hV,rfl,?_,fun j hj=>?_⟩
 ·have h:=du_right G (d1 m n)
  rw [d1_right] at h
  rw [sm_congr (g:=fun l=> -((((sgn Bv l:Int):Rat)*du m n (d1 m n) S l)*Bv l)) (fun l hl=>by dsimp only; rw [du_1 hl]; grind),sm_neg,h]
  have:=p1_le (n:=n) hF
  have h0:rho m (d1 m n) S.T S.b (n+m)<0:=Rat.lt_of_le_of_ne this hne
  grind
 ·rw [hN] at hj
  have h:=du_left G (d1 m n) hj
  have h0:d1 m n j=0:=by unfold d1; rw [if_neg (by omega)]
  rw [h0] at h
  rw [sm_congr (g:=fun l=> -((((sgn Bv l:Int):Rat)*du m n (d1 m n) S l)*F l j)) (fun l hl=>by dsimp only; rw [du_1 hl]; grind),sm_neg,h]
  have:=ho j hj
  grind
/-- The first phase succeeds: its point solves the system. -/
theorem pt_of (hV:VS m m N) (hN:N 0=n) (G:Good m n (t0 m n F Bv) S.T S.b) (hF:Feas m n S) (hZ:Zer m n S):PT m m N F Bv n (pt m n S):=
 ⟨hV,by rw [hN]; exact pt_sv G hF hZ⟩
end
end Go.Proofs.YtbdcjhoedhhabaaGreat

/- feasible, Solve. -/
namespace Go.Proofs.YtbdcjhoedhhabaaGreat
open Go.RowKit
attribute [local go_sem ↓] Go.wp_at_zero Go.wp_at_succ

theorem Tab.cong {w:World} {l:Lay} {m n:Nat} {S:St} {k k':Nat→Rat} {sg:Nat→Int} (h:Tab w l m n S k sg) (hk:∀ c,c≤n+m→k' c=k c):Tab w l m n S k' sg:=
 ⟨h.fix,h.rows,h.cost.congr (fun i hi=>hk i (by omega)),h.bas,h.dis⟩

/-- The sizes of all tableaux, told. -/
def Szk (K1 K2 m n:Nat) (T0:Nat→Nat→Rat) (d:Nat→Rat):Prop:=∀ S:St,Good m n T0 S.T S.b→(∀ r,r<m→∀ c,c≤n+m→Rsz K1 (S.T r c))∧∀ r,r≤m→∀ c,c≤n+m→Rsz K2 (prc d S r c)
theorem Szk.szs {K1 K2 m n:Nat} {T0:Nat→Nat→Rat} {d:Nat→Rat} (h:Szk K1 K2 m n T0 d) (h1:K1≤3000) (h2:K2≤9000):Szs m n T0 d:=fun S hG=>⟨fun r hr c hc=>((h S hG).1 r hr c hc).mono h1,fun r hr c hc=>((h S hG).2 r hr c hc).mono h2⟩
theorem Szk.rho {K1 K2 m n:Nat} {T0:Nat→Nat→Rat} {d:Nat→Rat} (h:Szk K1 K2 m n T0 d) {S:St} (hG:Good m n T0 S.T S.b):∀ c,c≤n+m→Rsz K2 (rho m d S.T S.b c):=fun c hc=>(h S hG).2 m (Nat.le_refl m) c hc

/-- What the first phase leaves. -/
structure Ph1 (w w':World) (m n:Nat) (F:Nat→Nat→Rat) (Bv:Nat→Rat) (l:Lay) (S:St) (ok:Bool):Prop where
 good:Good m n (t0 m n F Bv) S.T S.b
 feas:Feas m n S
 ok:ok=true↔rho m (d1 m n) S.T S.b (n+m)=0
 opt:∀ j,j<n→¬ rho m (d1 m n) S.T S.b j<0
 tab:Tab w' l m n S (rho m (d1 m n) S.T S.b) (sgn Bv)
 low:∀ b,l.X m b→w.heap.size≤b

set_option maxRecDepth 100000 in
set_option maxHeartbeats 8000000 in
theorem feasible_any (w:World) (m n k:Nat) (N:Nat→Nat) (F:Nat→Nat→Rat) (Bv:Nat→Rat) (va vb:Value) (hA:Mat k w (fun _=>False) va m N F) (hB:Nums k w (fun _=>False) vb m Bv) (hN:∀ i,i<m→N i=n) (hm1:1≤m) (hn1:1≤n) (hm:m≤80) (hn:n≤80) (hk:k≤1000) (hk1:1≤k)
 (hs:Szs m n (t0 m n F Bv) (d1 m n)) :
 Calls Tryz.prog 282 #[.agg #[va,vb]] w fun e w'=>∃ (l:Lay) (S:St) (ok:Bool),e = .returned (.tuple #[.pointer (some ⟨l.p,0,none⟩), .bool ok])∧Hid (Ph1 w w' m n F Bv l S ok)∧Below w.heap.size w w':=by
 have HA:=Lib.hid hA
 have HB:=Lib.hid hB
 have HN:=Lib.hid hN
 have HS:=Lib.hid hs
 obtain ⟨A,cA,rfl,hA,la1,la2⟩:=hA.op
 obtain ⟨C,cB,rfl,hB,lb1,lb2⟩:=hB.op
 have L:=made1 w #[.slice A m cA, .slice C m cB] 73
 clear hA hB hN hs
 go_enter Tryz.func282,Tryz.ntmps282
 go_wp2_with fail
 refine (begin_any _ m n k N F Bv _ _ (HA.out.keep kp) (HB.out.keep kp) HN.out hm1 hn1 hm hn hk hk1).mono ?_
 rintro e w1 ⟨l,rfl,hT,hb1,hlow⟩
 have hw0:(w.alloc (.cells #[.slice A m cA, .slice C m cB] 73)).heap.size=w.heap.size+1:=World.size_alloc _ _
 have hb1':Below w.heap.size w w1:=bel
 have HT:Hid (Tab w1 l m n ⟨t0 m n F Bv,fun i=>n+i⟩ (rho m (d1 m n) (t0 m n F Bv) (fun i=>n+i)) (sgn Bv)):=hT.cong (fun c hc=>c0_rho hc)
 have HLOW:Hid (∀ b,l.X m b→w.heap.size≤b):=fun b hb=>by have:=hlow b hb; omega
 have hG0:=t0_good (m:=m) (n:=n) (F:=F) (Bv:=Bv)
 clear hT hlow hw0
 go_wp2_with fail
 refine (minimize_any _ l m n (t0 m n F Bv) (d1 m n) ⟨t0 m n F Bv,fun i=>n+i⟩ (sgn Bv) (fun _=>True) HT.out hG0 t0_feas trivial (fun _ _ _ _ _ _=>trivial) hm hn (fun S h=>⟨(HS.out S h).1,fun c hc=>(HS.out S h).2 m (Nat.le_refl m) c hc⟩)).mono ?_
 rintro e w2 ⟨S,hG,hF, -,hT,hK,hres⟩
 have hend:Hid (e = .returned (.tuple #[.int .i64 0, .bool true])∧∀ j,j<n→¬ rho m (d1 m n) S.T S.b j<0):=by
  rcases hres.out with h | ⟨j, -,hj,hno⟩
  ·exact h
  ·obtain ⟨i,hi,hp⟩:=p1_bound hj
   exact absurd hp (hno i hi)
 have he:=hend.out.1
 have HO:=Lib.hid hend.out.2
 have HT2:=Lib.hid hT
 have HG:=Lib.hid hG
 have HF:=Lib.hid hF
 subst he
 have hb2:Below w.heap.size w w2:=hb1'.trans (hK.low hb1'.size (fun b hb hx=>by have:=HLOW.out b hx; omega))
 obtain ⟨⟨⟨cs,cr,cb,hbox,hcs,hcr,hcb⟩, -, -⟩, -,⟨rs,KC,hcl,hcv⟩, -, -⟩:=hT
 obtain ⟨R,hR⟩:∃ R,n+m=R:=⟨_,rfl⟩
 obtain ⟨M,hM⟩:∃ M,n+m+1=M:=⟨_,rfl⟩
 rw [hM] at hbox hcl
 have HR:=Lib.hid hR
 have r0:(0:Int)≤(R:Int):=by omega
 have r1:(R:Int)<(M:Int):=by omega
 obtain ⟨⟨b5,A5,m5,c5,b5',A5',m5',c5'⟩,hq5⟩:∃ q,rs[R]? = some q:=⟨_,List.getElem?_eq_getElem (by omega)⟩
 have j5:RatL 100000 w2 _ _ _:=hcv R _ hq5
 obtain ⟨x0,x1,x2,x3⟩:=KC.cells hq5
 unfold R4.v at j5
 dsimp only at j5 x0 x1 x2 x3
 obtain ⟨sv,hsv⟩:∃ s,(rho m (d1 m n) S.T S.b R).num.sign=s:=⟨_,rfl⟩
 have HSV:=Lib.hid hsv
 have HSZ:Hid (sv=0↔rho m (d1 m n) S.T S.b (n+m)=0):=by show _↔_; rw [←hsv,hR]; exact sign_zero_iff _
 have hlb:=hbox.lt
 have hlc:=KC.lt
 have HL:Hid (∀ W,Below w2.heap.size w2 W→W.cell? ⟨l.p,3,none⟩=some (.slice (some ⟨l.gc,0,none⟩) M M)∧(W.cell? ⟨l.gc,R*4,none⟩=some (.bool b5)∧W.cell? ⟨l.gc,R*4+1,none⟩=some (.slice A5 m5 c5))∧W.cell? ⟨l.gc,R*4+2,none⟩=some (.bool b5')∧W.cell? ⟨l.gc,R*4+3,none⟩=some (.slice A5' m5' c5')):=fun W hW=>by
  refine ⟨Loc.cell (Loc.below hbox hW) 3,⟨?_,?_⟩,?_,?_⟩
  ·exact cell_keep (X:=fun _=>False) x0 hlc id (.of_below hW)
  ·exact cell_keep (X:=fun _=>False) x1 hlc id (.of_below hW)
  ·exact cell_keep (X:=fun _=>False) x2 hlc id (.of_below hW)
  ·exact cell_keep (X:=fun _=>False) x3 hlc id (.of_below hW)
 clear hR hM hsv x0 x1 x2 x3 hbox hcv KC hcl hq5 hK hG hF hend hres hb1 hb1' HT hG0
 by_cases hs0:sv=0
 ·subst hs0
  have HPH:Hid (∀ W,Below w2.heap.size w2 W→Hid (Ph1 w W m n F Bv l S true)):=fun W hW=>⟨HG.out,HF.out,⟨fun _=>HSZ.out.1 rfl,fun _=>rfl⟩,HO.out,HT2.out.on (.of_below hW),HLOW.out⟩
  clear HSZ HO HF
  go_wp2_with fail
  go_region_held3 (fun W=>W.cell? ⟨l.p,3,none⟩=some (.slice (some ⟨l.gc,0,none⟩) M M)∧(W.cell? ⟨l.gc,R*4,none⟩=some (.bool b5)∧W.cell? ⟨l.gc,R*4+1,none⟩=some (.slice A5 m5 c5))∧W.cell? ⟨l.gc,R*4+2,none⟩=some (.bool b5')∧W.cell? ⟨l.gc,R*4+3,none⟩=some (.slice A5' m5' c5'))
   (exact HL.out _ bel)
   (first
    | (go_at_call 380; refine (tright_any _ l m n (sgn Bv) (HT2.out.on kp).fix hm hn).mono ?_; rintro e u1 ⟨he,hb6⟩; rw [HR.out] at he; subst he; have y6:=hb6.size; (try simp only [zs] at y6))
    | (go_at_call 346; refine (sign_rat _ (fun _=>False) 100000 _ _ (RatL.to j5)).mono ?_; rintro e u2 ⟨he,hb7⟩; rw [HSV.out] at he; subst he; have y7:=hb7.size; (try simp only [zs] at y7)))
  all_goals
   go_wp2_with fail
   go_ret2
   exact ⟨l,S,true,rfl,HPH.out _ bel,hb2.trans ((bel:Below w2.heap.size w2 _).mono hb2.size)⟩
 ·have hs1:(sv == 0)=false:=beq_eq_false_iff_ne.2 hs0
  have HPH:Hid (∀ W,Below w2.heap.size w2 W→Hid (Ph1 w W m n F Bv l S false)):=fun W hW=>⟨HG.out,HF.out,⟨fun h=>(by cases h),fun h=>absurd (HSZ.out.2 h) hs0⟩,HO.out,HT2.out.on (.of_below hW),HLOW.out⟩
  clear HSZ HO HF
  go_wp2_with fail
  go_region_held3 (fun W=>W.cell? ⟨l.p,3,none⟩=some (.slice (some ⟨l.gc,0,none⟩) M M)∧(W.cell? ⟨l.gc,R*4,none⟩=some (.bool b5)∧W.cell? ⟨l.gc,R*4+1,none⟩=some (.slice A5 m5 c5))∧W.cell? ⟨l.gc,R*4+2,none⟩=some (.bool b5')∧W.cell? ⟨l.gc,R*4+3,none⟩=some (.slice A5' m5' c5'))
   (exact HL.out _ bel)
   (first
    | (go_at_call 380; refine (tright_any _ l m n (sgn Bv) (HT2.out.on kp).fix hm hn).mono ?_; rintro e u1 ⟨he,hb6⟩; rw [HR.out] at he; subst he; have y6:=hb6.size; (try simp only [zs] at y6))
    | (go_at_call 346; refine (sign_rat _ (fun _=>False) 100000 _ _ (RatL.to j5)).mono ?_; rintro e u2 ⟨he,hb7⟩; rw [HSV.out] at he; subst he; have y7:=hb7.size; (try simp only [zs] at y7)))
  all_goals
   go_wp2_with fail
   go_ret2
   exact ⟨l,S,false,rfl,HPH.out _ bel,hb2.trans ((bel:Below w2.heap.size w2 _).mono hb2.size)⟩
end Go.Proofs.YtbdcjhoedhhabaaGreat

