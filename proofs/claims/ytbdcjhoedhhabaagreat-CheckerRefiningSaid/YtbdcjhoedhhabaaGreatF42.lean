/- Contracts of the functions that the statements reach, part 42. -/
import Derived.Test.YtbdcjhoedhhabaaGreatRows
import Derived.Test.YtbdcjhoedhhabaaGreatF41
set_option linter.unusedSimpArgs false
set_option linter.unusedVariables false

/- refinement.system. -/
namespace Go.Proofs.YtbdcjhoedhhabaaGreat
open Go.RowKit
attribute [local go_sem ↓] Go.wp_at_zero Go.wp_at_succ

theorem SB.below {w W:World} {g7 base n:Nat} {vA vB:Value} {us:List Value} {rs:List R4} {F:Nat→Nat→Rat} {Bf:Nat→Rat} (h:SB w g7 base vA vB us rs n F Bf) (hb:Below w.heap.size w W):SB W g7 base vA vB us rs n F Bf:=
 ⟨h.box.below hb,h.oa.below hb,h.ob.below hb,h.len,fun i u hu=>(h.rows i u hu).keep (.of_below hb),h.vals.keep (.of_below hb)⟩
theorem Keep.after {X Y:Nat→Prop} {w w' w2:World} (k1:Keep X w w') (k2:Keep Y w' w2) (h:∀ b,b<w.heap.size→Y b→X b):Keep X w w2:=
 ⟨Nat.le_trans k1.size k2.size,fun b hb hx=>(k2.block b (Nat.lt_of_lt_of_le hb k1.size) (fun hy=>hx (h b hb hy))).trans (k1.block b hb hx),k2.env.1.trans k1.env.1,k2.env.2.1.trans k1.env.2.1,k2.env.2.2.trans k1.env.2.2⟩
/-- An entry of a channel. -/
def en (L:List (List Int)) (x y:Nat):Int:=(L.getD x []).getD y 0
theorem VC.en {L:List (List Int)} (h:VC L) {x y:Nat} (hx:x<L.length) (hy:y<wid L):∃ l,L[x]? = some l∧l[y]? = some (en L x y)∧0≤en L x y∧en L x y≤1048576:=by
 have hl:=List.getElem?_eq_getElem hx
 obtain ⟨a,b⟩:=h.row hl
 have hz:=List.getElem?_eq_getElem (l:=L[x]) (i:=y) (by omega)
 have e:Go.Proofs.YtbdcjhoedhhabaaGreat.en L x y=L[x][y]:=by
  unfold Go.Proofs.YtbdcjhoedhhabaaGreat.en
  rw [List.getD_eq_getElem?_getD,List.getD_eq_getElem?_getD,hl,Option.getD_some,hz,Option.getD_some]
 obtain ⟨c,d⟩:=b _ (List.mem_of_getElem? hz)
 exact ⟨_,hl,by rw [e]; exact hz,by rw [e]; exact c,by rw [e]; exact d⟩
theorem mul40 {a b:Int} (ha:1≤a∧a≤1048576) (hb:0≤b∧b≤1048576):0≤a*b∧a*b≤1099511627776:=by
 have h1:0≤a*b:=Int.mul_nonneg (by omega) hb.1
 have h2:a*b≤1048576*1048576:=Int.mul_le_mul ha.2 hb.2 hb.1 (by omega)
 omega

set_option maxRecDepth 100000 in
set_option maxHeartbeats 16000000 in
theorem system_any (w:World) (v1 v2:Value) (L1 L2:List (List Int)) (h1:IMat w v1 L1) (h2:IMat w v2 L2) (hV1:VC L1) (hV2:VC L2) (hlen:L1.length=L2.length) (hnk:wid L1*wid L2≤80) (hM:L1.length*wid L2+wid L1≤80) :
 Calls Tryz.prog 165 #[.agg #[v1], .agg #[v2]] w fun e w'=>∃ v',e = .returned v'∧
  Sys 2 w' v' (L1.length*wid L2+wid L1) (L1.length*wid L2+wid L1) (fun _=>wid L1*wid L2) (sysF L1.length (wid L2) (ce L1) ((tot L2:Int):Rat)) (sysB L1.length (wid L2) (ce L2) ((tot L1:Int):Rat))∧Below w.heap.size w w':=by
 have H1:=Lib.hid h1
 have H2:=Lib.hid h2
 have HV1:=Lib.hid hV1
 have HV2:=Lib.hid hV2
 obtain ⟨A1,c1,rfl, -,la1,la2⟩:=h1.op
 obtain ⟨A2,c2,rfl, -,lb1,lb2⟩:=h2.op
 obtain ⟨r,hr⟩:∃ r,L1.length=r:=⟨_,rfl⟩
 have HR:=Lib.hid hr
 have HS:Hid (L2.length=r):=by show _=_; rw [←hlen]; exact hr
 rw [hr] at la1 H1 hM
 rw [HS.out] at lb1 H2
 rw [hr,HS.out]
 obtain ⟨n1,hn1⟩:∃ n,wid L1=n:=⟨_,rfl⟩
 obtain ⟨n2,hn2⟩:∃ n,wid L2=n:=⟨_,rfl⟩
 obtain ⟨p1,hp1⟩:∃ n,tot L1=n:=⟨_,rfl⟩
 obtain ⟨p2,hp2⟩:∃ n,tot L2=n:=⟨_,rfl⟩
 have ht1:=hV1.tot
 have ht2:=hV2.tot
 rw [hp1] at ht1
 rw [hp2] at ht2
 have hr1:0<r:=by have:=hV1.1; omega
 have hr2:r≤256:=by have:=hV1.2.1; omega
 have hn1p:1≤n1:=by rw [←hn1]; exact hV1.2.2.1
 have hn2p:1≤n2:=by rw [←hn2]; exact hV2.2.2.1
 have hn1b:n1≤256:=by rw [←hn1]; exact hV1.2.2.2.1
 have hn2b:n2≤256:=by rw [←hn2]; exact hV2.2.2.2.1
 rw [hn1,hn2] at hnk hM
 obtain ⟨l1',he1⟩:∃ l,L1[0]? = some l:=⟨_,List.getElem?_eq_getElem (by omega)⟩
 obtain ⟨l2',he2⟩:∃ l,L2[0]? = some l:=⟨_,List.getElem?_eq_getElem (by omega)⟩
 obtain ⟨a1,D1,d1,rfl,hab1,hcell1, -,lc1, -⟩:=H1.out.at he1
 obtain ⟨a2,D2,d2,rfl,hab2,hcell2, -,lc2, -⟩:=H2.out.at he2
 rw [(hV1.row he1).1,hn1] at hcell1 lc1
 rw [(hV2.row he2).1,hn2] at hcell2 lc2
 rw [addr_zero] at hcell1 hcell2
 rw [hn1,hn2,hp1,hp2]
 have HN1:=Lib.hid hn1
 have HN2:=Lib.hid hn2
 have HT1:=Lib.hid hp1
 have HT2:=Lib.hid hp2
 obtain ⟨M,hMM⟩:∃ M,r*n2=M:=⟨_,rfl⟩
 have HMM:=Lib.hid hMM
 rw [hMM] at hM
 rw [hMM]
 obtain ⟨NK,hNK⟩:∃ M,n1*n2=M:=⟨_,rfl⟩
 have HNK:=Lib.hid hNK
 rw [hNK] at hnk
 rw [hNK]
 have L:=made1 w #[.slice (some a1) r c1] 120
 have M2:=made2 w (.cells #[.slice (some a1) r c1] 120) #[.slice (some a2) r c2] 120
 have M3:=made3 w (.cells #[.slice (some a1) r c1] 120) (.cells #[.slice (some a2) r c2] 120) #[.slice none 0 0, .slice none 0 0] 73
 obtain ⟨w0,hw0⟩:∃ W,(((w.alloc (.cells #[.slice (some a1) r c1] 120)).alloc (.cells #[.slice (some a2) r c2] 120)).alloc (.cells #[.slice none 0 0, .slice none 0 0] 73))=W:=⟨_,rfl⟩
 have hB0:Below w.heap.size w w0:=by rw [←hw0]; exact bel
 have L0:Loc w0 w.heap.size 120 #[.slice (some a1) r c1]:=by rw [←hw0]; exact L.to
 have M0:Loc w0 (w.heap.size+1) 120 #[.slice (some a2) r c2]:=by rw [←hw0]; exact M2.to
 have R0:Loc w0 (w.heap.size+1+1) 73 #[.slice none 0 0, .slice none 0 0]:=by rw [←hw0]; exact M3
 have HC:Hid (∀ W,Below w0.heap.size w0 W→Reg40l.SXL w.heap.size (w.heap.size+1) r c1 r c2 n1 d1 n2 d2 a1 a2 D1 D2 W):=fun W hW=>
  ⟨⟨Loc.cell (L0.below hW) 0,Loc.cell (M0.below hW) 0⟩,cell_keep (X:=fun _=>False) hcell1 hab1 id (.of_below (hB0.trans (hW.mono hB0.size))),cell_keep (X:=fun _=>False) hcell2 hab2 id (.of_below (hB0.trans (hW.mono hB0.size)))⟩
 have HW0:=Lib.hid hw0
 have HB0:=Lib.hid hB0
 clear h1 h2 hV1 hV2 hlen hr hn1 hn2 hp1 hp2 he1 he2 hcell1 hcell2 hMM hNK L M2 M3 hB0 hw0
 go_enter Tryz.func165,Tryz.ntmps165
 go_wp2_with fail
 rw [HW0.out]
 refine Reg40l.reg hr1 hr1 HC ?_
 intro W3 ga gb v13 v14 v15 v16 v17 v18 v19 v20 v21 v22 hab hga hgb La Lb hB3
 obtain ⟨w3,rfl⟩:∃ w3:World,w3=W3:=⟨_,rfl⟩
 have y3:=hB3.size; (try simp only [zs] at y3)
 have y0:=HB0.out.size
 have q1:=L0.lt
 have q2:=M0.lt
 have q3:=R0.lt
 have hla:=La.lt
 have hlb:=Lb.lt
 have L3:Loc w3 w.heap.size _ _:=L0.to
 have M3:Loc w3 (w.heap.size+1) _ _:=M0.to
 have R3:Loc w3 (w.heap.size+1+1) _ _:=R0.to
 have HB3:=Lib.hid (HB0.out.trans (hB3.mono y0))
 have G3:=made1 w3 #[.slice none 0 0, .slice none 0 0] 73
 obtain ⟨e2,f2, -⟩:=M3.all (w':=w3.alloc (.cells #[.slice none 0 0, .slice none 0 0] 73))
 clear HW0
 go_wp2_with fail
 refine (total_any _ _ L2 (H2.out.keep (.of_below (HB3.out.trans (bel:Below w.heap.size w3 _)))) HV2.out).mono ?_
 rintro e w4 ⟨he,hb4⟩
 rw [HT2.out] at he
 subst he
 have y4:=hb4.size; (try simp only [zs] at y4)
 clear e2 f2
 have T5:=made1 w4 #[.int .i64 p2] 3
 obtain ⟨w5,hw5⟩:∃ W,w4.alloc (.cells #[.int .i64 p2] 3)=W:=⟨_,rfl⟩
 have hsz5:w5.heap.size=w4.heap.size+1:=by rw [←hw5]; simp only [World.size_alloc]
 have HB34:Below w3.heap.size w3 w4:=(below1 w3 _).trans (hb4.mono (by simp only [World.size_alloc]; omega))
 have HB45:Below w4.heap.size w4 w5:=by rw [←hw5]; exact below1 _ _
 have L5:Loc w5 w.heap.size 120 #[.slice (some a1) r c1]:=(L3.below HB34).below HB45
 have M5:Loc w5 (w.heap.size+1) 120 #[.slice (some a2) r c2]:=(M3.below HB34).below HB45
 have R5:Loc w5 (w.heap.size+1+1) 73 #[.slice none 0 0, .slice none 0 0]:=(R3.below HB34).below HB45
 have A5:Loc w5 ga 3 #[.int .i64 (n1:Int)]:=(La.below HB34).below HB45
 have B5:Loc w5 gb 3 #[.int .i64 (n2:Int)]:=(Lb.below HB34).below HB45
 have G5:Loc w5 w3.heap.size 73 #[.slice none 0 0, .slice none 0 0]:=(G3.below hb4).below HB45
 have T55:Loc w5 w4.heap.size 3 #[.int .i64 p2]:=by rw [←hw5]; exact T5
 have HB5:Hid (Below w.heap.size w w5):=(HB3.out.trans (HB34.mono (by omega))).trans (HB45.mono (by omega))
 have HW5:=Lib.hid hw5
 obtain ⟨e2,f2, -⟩:=(L3.below HB34).all (w':=w4.alloc (.cells #[.int .i64 p2] 3))
 have hsz:=Lib.hid hsz5
 have q4:w3.heap.size<w5.heap.size:=by omega
 have q5:w4.heap.size<w5.heap.size:=by omega
 have q6:ga<w5.heap.size:=by omega
 have q7:gb<w5.heap.size:=by omega
 have q8:w.heap.size+1+1<w5.heap.size:=by omega
 have q9:w.heap.size+1+1<w3.heap.size:=by omega
 have q10:w3.heap.size<w4.heap.size:=by omega
 have q11:gb<w3.heap.size:=by omega
 have q12:ga<w3.heap.size:=by omega
 clear hw5 hsz5 HB45 HB34 hb4 L3 M3 R3 La Lb G3 T5 hB3 L0 M0 R0
 go_wp2_with fail
 rw [HW5.out]
 go_loopw [29] (fun i wr=>∃ (x:Nat) (vA vB:Value) (us:List Value) (rs:List R4),x≤r∧i = .int .i64 x∧us.length=x*n2∧SB wr w3.heap.size w5.heap.size vA vB us rs NK (sysF r n2 (ce L1) ((p2:Int):Rat)) (sysB r n2 (ce L2) ((p1:Int):Rat))∧Keep (fun b=>b=w3.heap.size) w5 wr) (fun i _=>r - (intOf i).toNat)
 case atStart=>
  refine ⟨0,_,_,[],[],by omega,rfl,by simp,⟨G5,World.ownsRow_nil _ _ _ _,OwnR.nil _ _,rfl,fun i u hu=>by simp at hu,fun i r hr=>by simp at hr⟩,Keep.refl _ _⟩
 case round=>
  clear G5
  obtain ⟨x,vA,vB,us,rs,hx,rfl,hul,hSB,hKx⟩:=hrel
  obtain ⟨wx,rfl⟩:∃ wx:World,wx=wr:=⟨_,rfl⟩
  have yx:=hKx.size
  have HKX:=Lib.hid hKx
  have HUL:=Lib.hid hul
  have HSB:=Lib.hid hSB
  clear e2 f2 hul hSB
  have Lx:Loc wx w.heap.size _ _:=L5.keep hKx (by omega)
  have HBX:Hid (Below w.heap.size w wx):=HB5.out.trans (hKx.low (by omega) (fun b hb h=>by omega))
  by_cases hlt:x<r
  ·obtain ⟨ly,hey⟩:∃ l,L2[x]? = some l:=⟨_,List.getElem?_eq_getElem (by have:=HS.out; omega)⟩
   obtain ⟨lx,hex⟩:∃ l,L1[x]? = some l:=⟨_,List.getElem?_eq_getElem (by have:=HR.out; omega)⟩
   obtain ⟨a2',Dy,dy,ea,haby,hcelly,hinty,lcy,lmy⟩:=H2.out.at hey
   injection ea with ea
   subst ea
   obtain ⟨a1',Dx,dx,ea,habx,hcellx,hintx,lcx,lmx⟩:=H1.out.at hex
   injection ea with ea
   subst ea
   rw [(HV1.out.row hex).1,HN1.out] at hcellx hintx lcx
   rw [(HV2.out.row hey).1,HN2.out] at hcelly hinty lcy
   have k0:(0:Int)≤(x:Int):=by omega
   have k1:(x:Int)<(r:Int):=by omega
   have HEX:=Lib.hid hex
   have HEY:=Lib.hid hey
   have HIX:=Lib.hid hintx
   have HIY:=Lib.hid hinty
   have HCX:Hid (∀ W,Below w.heap.size w W→W.cell? (a1.add x)=some (.slice Dx n1 dx)∧W.cell? (a2.add x)=some (.slice Dy n2 dy)):=fun W hW=>⟨cell_keep (X:=fun _=>False) hcellx (by rw [addr_block]; exact habx) id (.of_below hW),cell_keep (X:=fun _=>False) hcelly (by rw [addr_block]; exact haby) id (.of_below hW)⟩
   have Bx:=B5.keep hKx (show ¬ gb=w3.heap.size by omega)
   obtain ⟨e2,f2, -⟩:=Bx.all (w':=wx.alloc (.cells #[.int .i64 (x:Int)] 3))
   have X1:=made1 wx #[.int .i64 (x:Int)] 3
   have HKX1:Keep (fun b=>b=w3.heap.size) w5 (wx.alloc (.cells #[.int .i64 (x:Int)] 3)):=hKx.alloc _
   clear hex hey hintx hinty hcellx hcelly hKx
   go_wp2_with fail
   clear e2 f2
   go_loopw [33] (fun i wr=>∃ (z:Nat) (vA vB:Value) (us:List Value) (rs:List R4),z≤n2∧i = .int .i64 z∧us.length=x*n2+z∧SB wr w3.heap.size w5.heap.size vA vB us rs NK (sysF r n2 (ce L1) ((p2:Int):Rat)) (sysB r n2 (ce L2) ((p1:Int):Rat))∧Keep (fun b=>b=w3.heap.size) w5 wr∧Loc wr wx.heap.size 3 #[.int .i64 (x:Int)]) (fun i _=>n2 - (intOf i).toNat)
   case atStart=>exact ⟨0,_,_,us,rs,by omega,rfl,by rw [HUL.out]; rfl,HSB.out.below (below1 _ _),HKX1,X1⟩
   case round=>
    clear HUL HSB HKX1 X1 Bx Lx
    obtain ⟨z,vA,vB,us,rs,hz,rfl,hul,hSB,hKz,Xz⟩:=hrel
    obtain ⟨wz,rfl⟩:∃ wz:World,wz=wr:=⟨_,rfl⟩
    have yz:=hKz.size
    have HUL:=Lib.hid hul
    have HSB:=Lib.hid hSB
    clear hul hSB
    have HBZ:Hid (Below w.heap.size w wz):=HB5.out.trans (hKz.low (by omega) (fun b hb h=>by omega))
    have q13:=Xz.lt
    by_cases hltz:z<n2
    ·obtain ⟨nz,hnz⟩:∃ n,ly[z]? = some n:=⟨_,List.getElem?_eq_getElem (by have:=(HV2.out.row HEY.out).1; have:=HN2.out; omega)⟩
     have hnz2:=(HV2.out.row HEY.out).2 nz (List.mem_of_getElem? hnz)
     have HCE:Hid (ce L2 x z=(nz:Rat)):=ce_get HEY.out hnz
     obtain ⟨ay,rfl,hby,hcy, -, -⟩:=HIY.out.at hnz
     have HEN:Hid (∀ y,y<n1→lx[y]? = some (en L1 x y)∧0≤en L1 x y∧en L1 x y≤1048576):=fun y hy=>by
      obtain ⟨l,h1,h2,h3⟩:=HV1.out.en (x:=x) (by rw [HR.out]; exact hlt) (show y<wid L1 by rw [HN1.out]; exact hy)
      rw [HEX.out] at h1
      injection h1 with h1
      subst h1
      exact ⟨h2,h3⟩
     obtain ⟨P,hP⟩:∃ P,p1*nz=P:=⟨_,rfl⟩
     have hPb:=mul40 ht1 hnz2
     rw [hP] at hPb
     have hPw:IntKind.i64.wrap (p1*nz)=P:=by rw [hP,IntKind.wrap_i64]; omega
     have HPE:Hid ((P:Rat)=(p1:Rat)*ce L2 x z):=by show _=_; rw [HCE.out,← hP,Rat.intCast_mul]
     have Z1:=made1 wz #[.int .i64 (z:Int)] 3
     have Lz:=(L5.keep hKz (show ¬ w.heap.size=w3.heap.size by omega)).below (below1 wz (.cells #[.int .i64 (z:Int)] 3))
     have Mz:=(M5.keep hKz (show ¬ w.heap.size+1=w3.heap.size by omega)).below (below1 wz (.cells #[.int .i64 (z:Int)] 3))
     have Az:=(A5.keep hKz (show ¬ ga=w3.heap.size by omega)).below (below1 wz (.cells #[.int .i64 (z:Int)] 3))
     have Bz:=(B5.keep hKz (show ¬ gb=w3.heap.size by omega)).below (below1 wz (.cells #[.int .i64 (z:Int)] 3))
     have Tz:=(T55.keep hKz (show ¬ w4.heap.size=w3.heap.size by omega)).below (below1 wz (.cells #[.int .i64 (z:Int)] 3))
     have Xz1:=Xz.below (below1 wz (.cells #[.int .i64 (z:Int)] 3))
     have HBZ1:Hid (Below w.heap.size w (wz.alloc (.cells #[.int .i64 (z:Int)] 3))):=HBZ.out.trans ((below1 wz _).mono (by have:=HBZ.out.size; omega))
     have y6:=HBZ.out.size
     have HLS:Hid (∀ W,Below (wz.alloc (.cells #[.int .i64 (z:Int)] 3)).heap.size (wz.alloc (.cells #[.int .i64 (z:Int)] 3)) W→((W.cell? ⟨w.heap.size,0,none⟩=some (.slice (some a1) r c1)∧W.cell? ⟨w.heap.size+1,0,none⟩=some (.slice (some a2) r c2))∧(W.cell? ⟨wx.heap.size,0,none⟩=some (.int .i64 (x:Int))∧W.cell? ⟨wz.heap.size,0,none⟩=some (.int .i64 (z:Int)))∧W.cell? (a2.add x)=some (.slice (some ay) n2 dy)∧W.cell? (ay.add z)=some (.int .i64 nz))):=fun W hW=>by
      have hWw:=HBZ1.out.trans (hW.mono HBZ1.out.size)
      exact ⟨⟨Loc.cell (Lz.below hW) 0,Loc.cell (Mz.below hW) 0⟩,⟨Loc.cell (Xz1.below hW) 0,Loc.cell (Z1.below hW) 0⟩,(HCX.out W hWw).2,cell_keep (X:=fun _=>False) hcy (by rw [addr_block]; exact hby) id (.of_below hWw)⟩
     have k2:(0:Int)≤(z:Int):=by omega
     have k3:(z:Int)<(n2:Int):=by omega
     have HKZ:=Lib.hid (hKz.alloc (.cells #[.int .i64 (z:Int)] 3))
     have HSZ:=Lib.hid (HSB.out.below (below1 wz (.cells #[.int .i64 (z:Int)] 3)))
     have hza:=hKz.size
     have HCY:=Lib.hid hcy
     clear hnz hP hcy hKz Xz
     go_wp2_with fail
     refine wp_region_noPanic ?_
     refine wp_region_held_drew (S:=(fun W=>((W.cell? ⟨w.heap.size,0,none⟩=some (.slice (some a1) r c1)∧W.cell? ⟨w.heap.size+1,0,none⟩=some (.slice (some a2) r c2))∧(W.cell? ⟨wx.heap.size,0,none⟩=some (.int .i64 (x:Int))∧W.cell? ⟨wz.heap.size,0,none⟩=some (.int .i64 (z:Int)))∧W.cell? (a2.add x)=some (.slice (some ay) n2 dy)∧W.cell? (ay.add z)=some (.int .i64 nz)))) (by kernel_rfl) ?_ (fun hHeld=>?_)
     ·exact HLS.out _ bel
     refine takeT 0 hHeld ?_
     (try simp only [Act.put,ly])
     refine takeT 1 hHeld ?_
     (try simp only [Act.put,ly])
     refine takeT 3 hHeld ?_
     (try simp only [Act.put,ly])
     refine takeT 4 hHeld ?_
     (try simp only [Act.put,ly])
     refine takeT 5 hHeld ?_
     (try simp only [Act.put,ly])
     refine takeT 6 hHeld ?_
     (try simp only [Act.put,ly])
     refine takeT 7 hHeld ?_
     (try simp only [Act.put,ly])
     refine takeT 8 hHeld ?_
     (try simp only [Act.put,ly])
     refine takeT 9 hHeld ?_
     (try simp only [Act.put,ly])
     refine takeT 10 hHeld ?_
     (try simp only [Act.put,ly])
     refine takeT 12 hHeld ?_
     (try simp only [Act.put,ly])
     refine wpAnyH_ready (rs:=[2]) (by kernel_rfl) (by simp) ?_
     refine AllReadyH.cons rfl (fun K hK=>?_) AllReadyH.nil
     go_simp
     refine (total_any _ _ L1 (H1.out.keep (.of_below (HBZ1.out.trans (bel:Below w.heap.size (wz.alloc (.cells #[.int .i64 (z:Int)] 3)) _)))) HV1.out).mono ?_
     rintro e w6 ⟨he,hb6⟩
     rw [HT1.out] at he
     subst he
     have y7:=hb6.size; (try simp only [zs] at y7)
     have hb6':Below (wz.alloc (.cells #[.int .i64 (z:Int)] 3)).heap.size (wz.alloc (.cells #[.int .i64 (z:Int)] 3)) w6:=bel
     (try go_wp2_with fail)
     refine hK.out _ _ ?_ (fun hHeld=>?_)
     ·(try dsimp only)
      exact HLS.out _ hb6'
     clear hK K
     (try simp only [Act.put,ly])
     refine takeT 11 hHeld ?_
     (try simp only [Act.put,ly])
     refine wpAnyH_ready (rs:=[13]) (by kernel_rfl) (by simp) ?_
     refine AllReadyH.cons rfl (fun K hK=>?_) AllReadyH.nil
     go_simp
     have A6:=Az.below hb6'
     have B6:=Bz.below hb6'
     have T6:=Tz.below hb6'
     have L6:=Lz.below hb6'
     have X6:=Xz1.below hb6'
     have Z6:=Z1.below hb6'
     have HS6:=HSZ.out.below hb6'
     have HB6:Hid (Below w.heap.size w w6):=HBZ1.out.trans (hb6'.mono HBZ1.out.size)
     have hK6:Keep (fun b=>b=w3.heap.size) w5 w6:=HKZ.out.below hb6'
     have hat:AtF w6 288 #[.pointer (some ⟨wz.heap.size,0,none⟩), .pointer (some ⟨w4.heap.size,0,none⟩), .pointer (some ⟨w.heap.size,0,none⟩), .pointer (some ⟨wx.heap.size,0,none⟩)] n1 n2 (fun y u=>if u=z then p2*en L1 x y else 0):=fun W y u hW hy hu=>by
      have hWw:=HB6.out.trans (hW.mono HB6.out.size)
      have hen:=HEN.out y hy
      exact at2_any W y u z x p2 wz.heap.size w4.heap.size w.heap.size wx.heap.size r c1 n1 dx a1 Dx lx (en L1 x y) (Loc.cell (Z6.below hW) 0) (Loc.cell (T6.below hW) 0) (Loc.cell (L6.below hW) 0) (Loc.cell (X6.below hW) 0) (HCX.out W hWw).1 (HIX.out.keep (.of_below hWw)) hlt hen.1 (by rw [(HV1.out.row HEX.out).1]; exact HN1.out) hen.2 ht2
     have hgb:∀ y u,y<n1→u<n2→0≤(if u=z then p2*en L1 x y else 0)∧(if u=z then p2*en L1 x y else 0)≤1099511627776:=fun y u hy hu=>by
      split
      ·exact mul40 ht2 (HEN.out y hy).2
      ·decide
     have hFF:∀ j,j<n1*n2→sysF r n2 (ce L1) ((p2:Int):Rat) us.length j=(((if j % n2=z then p2*en L1 x (j / n2) else 0):Int):Rat):=fun j hj=>by
      rw [HUL.out]
      unfold sysF
      rw [if_pos (at_lt hlt hltz),mod_at hltz,div_at hltz]
      split
      ·rw [Rat.intCast_mul]; rfl
      ·rfl
     have hBB:sysB r n2 (ce L2) ((p1:Int):Rat) us.length=(P:Rat):=by
      rw [HUL.out,sysB_top hlt hltz,HPE.out]
     have hus200:us.length≤200:=by
      rw [HUL.out]
      have:x*n2+z<r*n2:=at_lt hlt hltz
      rw [HMM.out] at this
      omega
     refine (sysadd_any w6 P _ _ n1 n2 _ ga gb w3.heap.size w5.heap.size vA vB us rs _ _ (Loc.cell A6 0) (Loc.cell B6 0) A6.lt B6.lt q4 (by have:=hK6.size; omega) (by rw [HNK.out]; exact HS6) (enters Tryz.func288 (by kernel_rfl) (by kernel_rfl)) hat hus200 hn1p hn2p (by rw [HNK.out]; omega) hPb.1 hPb.2 hgb hFF hBB).mono ?_
     rintro e w7 ⟨rfl,vA',vB',us',rs',hul',hSB',hk7⟩
     rw [HNK.out] at hSB'
     have hgx:∀ b,b<w5.heap.size→GX w3.heap.size vA vB b→b=w3.heap.size:=fun b hb hg=>by
      rcases hg with rfl | hg | hg
      ·rfl
      ·have:=(HS6.oa.lt b hg).1; omega
      ·have:=(HS6.ob.lt hg).2; omega
     have hK7:=hK6.after hk7 hgx
     have hngx:¬ GX w3.heap.size vA vB wx.heap.size:=fun hg=>by
      rcases hg with hg | hg | hg
      ·omega
      ·exact HS6.oa.ne X6 (by decide) hg
      ·exact HS6.ob.ne X6 (by decide) hg
     have X7:=X6.keep hk7 hngx
     have HLS7:Hid ((w7.cell? ⟨w.heap.size,0,none⟩=some (.slice (some a1) r c1)∧w7.cell? ⟨w.heap.size+1,0,none⟩=some (.slice (some a2) r c2))∧(w7.cell? ⟨wx.heap.size,0,none⟩=some (.int .i64 (x:Int))∧w7.cell? ⟨wz.heap.size,0,none⟩=some (.int .i64 (z:Int)))∧w7.cell? (a2.add x)=some (.slice (some ay) n2 dy)∧w7.cell? (ay.add z)=some (.int .i64 nz)):=by
      have hngz:¬ GX w3.heap.size vA vB wz.heap.size:=fun hg=>by
       rcases hg with hg | hg | hg
       ·omega
       ·exact HS6.oa.ne Z6 (by decide) hg
       ·exact HS6.ob.ne Z6 (by decide) hg
      have hWw:Below w.heap.size w w7:=HB5.out.trans (hK7.low (by omega) (fun b hb h=>by omega))
      exact ⟨⟨Loc.cell (L5.keep hK7 (show ¬ w.heap.size=w3.heap.size by omega)) 0,Loc.cell (M5.keep hK7 (show ¬ w.heap.size+1=w3.heap.size by omega)) 0⟩,⟨Loc.cell X7 0,Loc.cell (Z6.keep hk7 hngz) 0⟩,(HCX.out w7 hWw).2,cell_keep (X:=fun _=>False) HCY.out (by rw [addr_block]; exact hby) id (.of_below hWw)⟩
     have HUL7:Hid (us'.length=x*n2+(z+1)):=by show _=_; rw [hul',HUL.out]; omega
     clear hat hgb hFF hBB hgx hngx hk7 hul' HS6
     (try go_wp2_with fail)
     refine hK.out _ _ ?_ (fun hHeld=>?_)
     ·(try dsimp only)
      exact HLS7.out
     clear hK K
     (try simp only [Act.put,ly])
     refine wpAnyH_done (by kernel_rfl) ?_ _
     refine NoPanic.normal ?_
     go_wp2_with fail
     go_roundw
     case rel=>exact ⟨z+1,vA',vB',us',rs',by omega,by go_num,HUL7.out,hSB',hK7,X7⟩
     case measure=>simp only [intOf]; omega
    ·obtain rfl:z=n2:=by omega
     go_wp2_with fail
     go_roundw
     case rel=>exact ⟨x+1,vA,vB,us,rs,by omega,by go_num,by rw [HUL.out,Nat.succ_mul],HSB.out,hKz⟩
     case measure=>simp only [intOf]; omega
  ·obtain rfl:x=r:=by omega
   have Ax:=A5.keep hKx (show ¬ ga=w3.heap.size by omega)
   obtain ⟨e2,f2, -⟩:=Ax.all (w':=wx)
   go_wp2_with fail
   clear e2 f2
   go_loopw [53] (fun i wr=>∃ (y:Nat) (vA vB:Value) (us:List Value) (rs:List R4),y≤n1∧i = .int .i64 y∧us.length=M+y∧SB wr w3.heap.size w5.heap.size vA vB us rs NK (sysF x n2 (ce L1) ((p2:Int):Rat)) (sysB x n2 (ce L2) ((p1:Int):Rat))∧Keep (fun b=>b=w3.heap.size) w5 wr) (fun i _=>n1 - (intOf i).toNat)
   case atStart=>exact ⟨0,vA,vB,us,rs,by omega,rfl,by rw [HUL.out,HMM.out]; rfl,HSB.out,hKx⟩
   case round=>
    clear HUL HSB hKx Lx Ax
    obtain ⟨y,vA,vB,us,rs,hy,rfl,hul,hSB,hKy⟩:=hrel
    obtain ⟨wy,rfl⟩:∃ wy:World,wy=wr:=⟨_,rfl⟩
    have yy:=hKy.size
    have HUL:=Lib.hid hul
    have HSB:=Lib.hid hSB
    clear hul hSB
    have HBY:Hid (Below w.heap.size w wy):=HB5.out.trans (hKy.low (by omega) (fun b hb h=>by omega))
    by_cases hlty:y<n1
    ·have Y1:=made1 wy #[.int .i64 (y:Int)] 3
     have Ay:=(A5.keep hKy (show ¬ ga=w3.heap.size by omega)).below (below1 wy (.cells #[.int .i64 (y:Int)] 3))
     have By:=(B5.keep hKy (show ¬ gb=w3.heap.size by omega)).below (below1 wy (.cells #[.int .i64 (y:Int)] 3))
     have HKY:=Lib.hid (hKy.alloc (.cells #[.int .i64 (y:Int)] 3))
     have HSY:=HSB.out.below (below1 wy (.cells #[.int .i64 (y:Int)] 3))
     have hat:AtF (wy.alloc (.cells #[.int .i64 (y:Int)] 3)) 289 #[.pointer (some ⟨wy.heap.size,0,none⟩)] n1 n2 (fun y' _=>if y'=y then 1 else 0):=fun W y' u hW hy hu=>
      at3_any W y' u y wy.heap.size (Loc.cell (Y1.below hW) 0)
     have hgb:∀ y' u,y'<n1→u<n2→0≤(if y'=y then (1:Int) else 0)∧(if y'=y then (1:Int) else 0)≤1099511627776:=fun y' u _ _=>by split <;> decide
     have hFF:∀ j,j<n1*n2→sysF x n2 (ce L1) ((p2:Int):Rat) us.length j=(((if j / n2=y then 1 else 0):Int):Rat):=fun j hj=>by
      rw [HUL.out,← HMM.out]
      unfold sysF
      rw [if_neg (by omega),show x*n2+y - x*n2=y by omega]
      split <;> rfl
     have hBB:sysB x n2 (ce L2) ((p1:Int):Rat) us.length=((1:Int):Rat):=by
      rw [HUL.out,← HMM.out,sysB_low]; rfl
     have hus200:us.length≤200:=by rw [HUL.out]; omega
     have HAT:=Lib.hid hat
     have HGB:=Lib.hid hgb
     have HFF:=Lib.hid hFF
     have HBB:=Lib.hid hBB
     have HU200:=Lib.hid hus200
     have hw5le:w5.heap.size≤(wy.alloc (.cells #[.int .i64 (y:Int)] 3)).heap.size:=HKY.out.size
     clear hat hgb hFF hBB hus200 hKy
     go_wp2_with fail
     refine (sysadd_any _ 1 _ _ n1 n2 _ ga gb w3.heap.size w5.heap.size vA vB us rs _ _ (Loc.cell Ay 0) (Loc.cell By 0) Ay.lt By.lt q4 hw5le (by rw [HNK.out]; exact HSY) (enters Tryz.func289 (by kernel_rfl) (by kernel_rfl)) HAT.out HU200.out hn1p hn2p (by rw [HNK.out]; omega) (by decide) (by decide) HGB.out HFF.out HBB.out).mono ?_
     rintro e w7 ⟨rfl,vA',vB',us',rs',hul',hSB',hk7⟩
     rw [HNK.out] at hSB'
     have hgx:∀ b,b<w5.heap.size→GX w3.heap.size vA vB b→b=w3.heap.size:=fun b hb hg=>by
      rcases hg with rfl | hg | hg
      ·rfl
      ·have:=(HSY.oa.lt b hg).1; omega
      ·have:=(HSY.ob.lt hg).2; omega
     have hK7:=HKY.out.after hk7 hgx
     have HUL7:Hid (us'.length=M+(y+1)):=by show _=_; rw [hul',HUL.out]; omega
     clear hgx hk7 hul' HSY
     go_wp2_with fail
     go_roundw
     case rel=>exact ⟨y+1,vA',vB',us',rs',by omega,by go_num,HUL7.out,hSB',hK7⟩
     case measure=>simp only [intOf]; omega
    ·obtain rfl:y=n1:=by omega
     obtain ⟨hbox,hoa,hob,hlen,hrows,hvals⟩:=HSB.out
     obtain ⟨gA,capA,rfl⟩:∃ g c,vA = .slice (some ⟨g,0,none⟩) (M+y) c:=by
      rcases hoa.2 with ⟨-,hn⟩ | ⟨g,cap,cur,rfl, -⟩
      ·rw [HUL.out] at hn; omega
      ·rw [HUL.out]; exact ⟨_,_,rfl⟩
     obtain ⟨gB,capB,rfl⟩:∃ g c,vB = .slice (some ⟨g,0,none⟩) (M+y) c:=by
      rcases hob.2 with ⟨-,hn⟩ | ⟨g,cap,cur,rfl, -⟩
      ·rw [←hlen,HUL.out] at hn; omega
      ·rw [←hlen,HUL.out]; exact ⟨_,_,rfl⟩
     have Ry:=R5.keep hKy (show ¬ w.heap.size+1+1=w3.heap.size by omega)
     obtain ⟨e1,f1, -⟩:=hbox.all (w':=wy)
     obtain ⟨e2,f2,l2⟩:=Ry.all (w':=wy)
     have kE:Keep (EX w5.heap.size (.slice (some ⟨gA,0,none⟩) (M+y) capA) (.slice (some ⟨gB,0,none⟩) (M+y) capB)) wy ((wy.setCell ⟨w.heap.size+1+1,0,none⟩ (.slice (some ⟨gA,0,none⟩) (M+y) capA)).setCell ⟨w.heap.size+1+1,1,none⟩ (.slice (some ⟨gB,0,none⟩) (M+y) capB)):=
      ((Keep.refl _ wy).set (p:=⟨w.heap.size+1+1,0,none⟩) (.inl (.inl q8)) _).set (p:=⟨w.heap.size+1+1,1,none⟩) (.inl (.inl q8)) _
     have k4:Keep (fun b=>b=w.heap.size+1+1) wy ((wy.setCell ⟨w.heap.size+1+1,0,none⟩ (.slice (some ⟨gA,0,none⟩) (M+y) capA)).setCell ⟨w.heap.size+1+1,1,none⟩ (.slice (some ⟨gB,0,none⟩) (M+y) capB)):=
      ((Keep.refl (fun b=>b=w.heap.size+1+1) wy).set (p:=⟨w.heap.size+1+1,0,none⟩) (.inl rfl) _).set (p:=⟨w.heap.size+1+1,1,none⟩) (.inl rfl) _
     have hoaE:=hoa.keep k4 (fun g hg e=>by have:=(hoa.lt g hg).1; omega)
     have hobE:=hob.keep k4 (fun g hg e=>by have:=(hob.lt hg).2; omega)
     have HMAT:=Lib.hid (hoaE.mat (k:=2) (N:=fun _=>NK) (F:=sysF x n2 (ce L1) ((p2:Int):Rat)) HUL.out (by omega) (fun i u hu=>(hrows i u hu).turn kE (fun _ _ h=>h.elim)))
     have HNUM:Hid (Nums 2 ((wy.setCell ⟨w.heap.size+1+1,0,none⟩ (.slice (some ⟨gA,0,none⟩) (M+y) capA)).setCell ⟨w.heap.size+1+1,1,none⟩ (.slice (some ⟨gB,0,none⟩) (M+y) capB)) (fun _=>False) (.slice (some ⟨gB,0,none⟩) (M+y) capB) (M+y) (sysB x n2 (ce L2) ((p1:Int):Rat))):=by
      have:=hobE.nums (hvals.turn kE (Y:=fun _=>False) (fun _ _ h=>h.elim)) (Y:=fun _=>False) (fun _ _ h=>h.elim) (fun _ _ h=>h)
      rw [←hlen,HUL.out] at this
      exact this
     have HBF:Hid (Below w.heap.size w ((wy.setCell ⟨w.heap.size+1+1,0,none⟩ (.slice (some ⟨gA,0,none⟩) (M+y) capA)).setCell ⟨w.heap.size+1+1,1,none⟩ (.slice (some ⟨gB,0,none⟩) (M+y) capB))):=(HBY.out.setCell (by dsimp only; omega) _).setCell (by dsimp only; omega) _
     clear hoa hob hlen hrows hvals hbox kE k4 hoaE hobE
     go_wp2_with fail
     refine bodyPost_ret (by simp [results,Tryz.results165,go_sem,e2,f2,l2] <;> rfl) rfl ⟨_,rfl,⟨_,_,_,_,rfl,HMAT.out,HNUM.out⟩,HBF.out⟩
end Go.Proofs.YtbdcjhoedhhabaaGreat

