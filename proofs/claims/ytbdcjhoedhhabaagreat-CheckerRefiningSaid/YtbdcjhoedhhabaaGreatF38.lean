/- Contracts of the functions that the statements reach, part 38. -/
import Derived.Test.YtbdcjhoedhhabaaGreatRows
import Derived.Test.YtbdcjhoedhhabaaGreatF36
import Derived.Test.YtbdcjhoedhhabaaGreatF37
set_option linter.unusedSimpArgs false
set_option linter.unusedVariables false

/- refinement.CheckGain, Check. -/
namespace Go.Proofs.YtbdcjhoedhhabaaGreat
open Go.RowKit
attribute [local go_sem ↓] Go.wp_at_zero Go.wp_at_succ

/-- A separating gain function. -/
def GN (L1 L2:List (List Int)) (Kn:Nat) (N:Nat→Nat) (F:Nat→Nat→Rat):Prop:=
 VC L1∧VC L2∧L1.length=L2.length∧MX Kn N F∧N 0=L1.length∧
  ((tot L2:Int):Rat)*worthV (wid L1) Kn L1.length (ce L1) F<((tot L1:Int):Rat)*worthV (wid L2) Kn L1.length (ce L2) F
theorem worth_rsz {L:List (List Int)} {Kn k B:Nat} {F:Nat→Nat→Rat} (hV:VC L) (hF:∀ i,i<Kn→∀ x,x<L.length→Rsz k (F i x)) (hw:wid L≤200) (hB:(2+k+1)*L.length+2≤B) (hB2:B≤40000):Rsz 8100000 (worthV (wid L) Kn L.length (ce L) F):=by
 unfold worthV
 have h1:∀ y,y<wid L→Rsz B (best Kn (fun w=>sm L.length (fun x=>ce L x y*F w x))):=fun y hy=>best_rsz (by omega) Kn (fun i hi=>(gain_rsz hV hy (hF i hi) L.length (Nat.le_refl _)).mono hB)
 exact (sum_le_rsz h1 (wid L) (Nat.le_refl _)).mono (by
  have:(B+1)*wid L≤40001*200:=Nat.mul_le_mul (by omega) (by omega)
  omega)

set_option maxRecDepth 100000 in
set_option maxHeartbeats 16000000 in
theorem checkGain_any (w:World) (v1 v2 vg:Value) (L1 L2:List (List Int)) (Kn k B:Nat) (N:Nat→Nat) (F:Nat→Nat→Rat) (h1:IMat w v1 L1) (h2:IMat w v2 L2) (h:Mat k w (fun _=>False) vg Kn N F)
 (hK:Kn≤200) (hw1:wid L1≤200) (hw2:wid L2≤200) (hk1:1≤k) (hB:(2+k+1)*L1.length+2≤B) (hB2:B≤40000) :
 Calls Tryz.prog 168 #[.agg #[v1], .agg #[v2],vg] w fun e w'=>Tells (GN L1 L2 Kn N F) e∧Below w.heap.size w w':=by
 have H1:=Lib.hid h1
 have H2:=Lib.hid h2
 have H:=Lib.hid h
 have HFZ:=Lib.hid (h.rsz hk1)
 obtain ⟨A1,c1,rfl, -,la1,la2⟩:=h1.op
 obtain ⟨A2,c2,rfl, -,lb1,lb2⟩:=h2.op
 obtain ⟨A,cA,rfl, -,l1,l2⟩:=h.op
 have HBB:=Lib.hid hB
 obtain ⟨r,hr⟩:∃ r,L1.length=r:=⟨_,rfl⟩
 obtain ⟨s,hs⟩:∃ s,L2.length=s:=⟨_,rfl⟩
 have HR:=Lib.hid hr
 have HS:=Lib.hid hs
 rw [hr] at la1 H1
 rw [hs] at lb1 H2
 rw [hr,hs]
 have L:=made1 w #[.slice A1 r c1] 120
 have M:=made2 w (.cells #[.slice A1 r c1] 120) #[.slice A2 s c2] 120
 have HLM:Hid (∀ W,Below (w.heap.size+1+1) ((w.alloc (.cells #[.slice A1 r c1] 120)).alloc (.cells #[.slice A2 s c2] 120)) W→W.cell? ⟨w.heap.size,0,none⟩=some (.slice A1 r c1)∧W.cell? ⟨w.heap.size+1,0,none⟩=some (.slice A2 s c2)):=fun W hW=>
  ⟨Loc.cell ((L.alloc _).below' hW (by omega)) 0,Loc.cell (M.below' hW (by omega)) 0⟩
 clear h1 h2 hr hs hB
 by_cases hp:VC L1∧VC L2∧L1.length=L2.length
 case neg=>
  have HV:Hid (¬ GN L1 L2 Kn N F):=fun h=>hp ⟨h.1,h.2.1,h.2.2.1⟩
  clear h
  go_enter Tryz.func168,Tryz.ntmps168
  go_wp2_with fail
  refine wp_region_noPanic ?_
  refine wp_region_held_drew (S:=(fun W=>W.cell? ⟨w.heap.size,0,none⟩=some (.slice A1 r c1)∧W.cell? ⟨w.heap.size+1,0,none⟩=some (.slice A2 s c2))) (by kernel_rfl) ?_ (fun hHeld=>?_)
  ·exact HLM.out _ bel
  refine takeT 0 hHeld ?_
  (try simp only [Act.put,ly])
  refine takeT 1 hHeld ?_
  (try simp only [Act.put,ly])
  refine wpAnyH_ready (rs:=[2]) (by kernel_rfl) (by simp) ?_
  refine AllReadyH.cons rfl (fun K hK=>?_) AllReadyH.nil
  go_simp
  refine (pair_any _ _ _ L1 L2 (H1.out.keep kp) (H2.out.keep kp)).mono ?_
  rintro e w1 ⟨code,rfl,HP,hb1⟩
  have y1:=hb1.size; (try simp only [zs] at y1)
  (try go_wp2_with fail)
  refine hK.out _ _ ?_ (fun hHeld=>?_)
  ·(try dsimp only)
   exact HLM.out _ bel
  clear hK K
  (try simp only [Act.put,ly])
  have hp1:code=1∨code=2:=by
   by_cases h0:VC L1∧VC L2
   ·exact .inr (HP.out.2.1 h0 (fun h=>hp ⟨h0.1,h0.2,h⟩))
   ·exact .inl (HP.out.1 h0)
  have d1:(code == 0)=false:=beq_eq_false_iff_ne.2 (by omega)
  have d2:(code != 0)=true:=bne_iff_ne.2 (by omega)
  clear hp hp1 HP
  refine takeT 3 hHeld ?_
  (try simp only [Act.put,ly])
  refine takeT 4 hHeld ?_
  (try simp only [Act.put,ly])
  refine offT 5 hHeld ?_
  refine offT 6 hHeld ?_
  refine offT 7 hHeld ?_
  (try simp only [Act.put,ly])
  refine takeT 8 hHeld ?_
  (try simp only [Act.put,ly])
  refine takeT 9 hHeld ?_
  (try simp only [Act.put,ly])
  refine offT 10 hHeld ?_
  refine offT 11 hHeld ?_
  refine offT 12 hHeld ?_
  refine offT 13 hHeld ?_
  refine offT 14 hHeld ?_
  refine offT 15 hHeld ?_
  refine offT 16 hHeld ?_
  refine offT 17 hHeld ?_
  (try simp only [Act.put,ly])
  refine takeT 18 hHeld ?_
  (try simp only [Act.put,ly])
  refine wpAnyH_done (by kernel_rfl) ?_ _
  refine NoPanic.normal ?_
  go_wp2_with fail
  go_ret
  exact ⟨Tells.no HV.out,bel⟩
 have HP1:=Lib.hid hp
 clear hp
 by_cases hst:MX Kn N F
 case neg=>
  have HV:Hid (¬ GN L1 L2 Kn N F):=fun h=>hst h.2.2.2.1
  have HST:Hid (¬ MX Kn N F):=hst
  clear hst h
  go_enter Tryz.func168,Tryz.ntmps168
  go_wp2_with fail
  refine wp_region_noPanic ?_
  refine wp_region_held_drew (S:=(fun W=>W.cell? ⟨w.heap.size,0,none⟩=some (.slice A1 r c1)∧W.cell? ⟨w.heap.size+1,0,none⟩=some (.slice A2 s c2))) (by kernel_rfl) ?_ (fun hHeld=>?_)
  ·exact HLM.out _ bel
  refine takeT 0 hHeld ?_
  (try simp only [Act.put,ly])
  refine takeT 1 hHeld ?_
  (try simp only [Act.put,ly])
  refine wpAnyH_ready (rs:=[2]) (by kernel_rfl) (by simp) ?_
  refine AllReadyH.cons rfl (fun K hK=>?_) AllReadyH.nil
  go_simp
  refine (pair_any _ _ _ L1 L2 (H1.out.keep kp) (H2.out.keep kp)).mono ?_
  rintro e w1 ⟨code,rfl,HP,hb1⟩
  have y1:=hb1.size; (try simp only [zs] at y1)
  obtain rfl:code=0:=HP.out.2.2 ⟨HP1.out.1,HP1.out.2.1⟩ HP1.out.2.2
  clear HP
  (try go_wp2_with fail)
  refine hK.out _ _ ?_ (fun hHeld=>?_)
  ·(try dsimp only)
   exact HLM.out _ bel
  clear hK K
  (try simp only [Act.put,ly])
  refine takeT 3 hHeld ?_
  (try simp only [Act.put,ly])
  refine takeT 4 hHeld ?_
  (try simp only [Act.put,ly])
  refine takeT 5 hHeld ?_
  (try simp only [Act.put,ly])
  refine wpAnyH_ready (rs:=[6]) (by kernel_rfl) (by simp) ?_
  refine AllReadyH.cons rfl (fun K hK=>?_) AllReadyH.nil
  go_simp
  refine (matrix_any _ _ Kn k N F (H.out.keep kp)).mono ?_
  rintro e w2 ⟨he,hb2⟩
  have y2:=hb2.size; (try simp only [zs] at y2)
  have he:=he.eq (b:=false) ⟨fun h=>(by cases h),fun h=>absurd h HST.out⟩
  subst he
  (try go_wp2_with fail)
  refine hK.out _ _ ?_ (fun hHeld=>?_)
  ·(try dsimp only)
   exact HLM.out _ bel
  clear hK K
  (try simp only [Act.put,ly])
  refine takeT 7 hHeld ?_
  (try simp only [Act.put,ly])
  refine takeT 8 hHeld ?_
  (try simp only [Act.put,ly])
  refine takeT 9 hHeld ?_
  (try simp only [Act.put,ly])
  refine offT 10 hHeld ?_
  refine offT 11 hHeld ?_
  refine offT 12 hHeld ?_
  refine offT 13 hHeld ?_
  refine offT 14 hHeld ?_
  refine offT 15 hHeld ?_
  refine offT 16 hHeld ?_
  refine offT 17 hHeld ?_
  (try simp only [Act.put,ly])
  refine takeT 18 hHeld ?_
  (try simp only [Act.put,ly])
  refine wpAnyH_done (by kernel_rfl) ?_ _
  refine NoPanic.normal ?_
  go_wp2_with fail
  go_ret
  exact ⟨Tells.no HV.out,bel⟩
 have HST:=Lib.hid hst
 have hm1:0<Kn:=hst.1
 obtain ⟨n0,hn0⟩:∃ n0,N 0=n0:=⟨_,rfl⟩
 obtain ⟨a0,D0,d0,rfl,hab0, -,hcell0, -,lc0, -⟩:=Mat.at h hm1
 rw [hn0] at hcell0 lc0
 rw [addr_zero] at hcell0
 have HN0:=Lib.hid hn0
 have HSS:Hid (∀ W,Below w.heap.size w W→W.cell? ⟨w.heap.size,0,none⟩=some (.slice A1 r c1)∧W.cell? ⟨w.heap.size+1,0,none⟩=some (.slice A2 s c2)→(W.cell? ⟨w.heap.size,0,none⟩=some (.slice A1 r c1)∧W.cell? ⟨w.heap.size+1,0,none⟩=some (.slice A2 s c2))∧W.cell? a0=some (.slice D0 n0 d0)):=fun W hW hL=>
  ⟨hL,cell_keep (X:=fun _=>False) hcell0 hab0 id (.of_below hW)⟩
 have i3:(0:Int)<(Kn:Int):=by omega
 clear hcell0 hn0 h hst
 go_enter Tryz.func168,Tryz.ntmps168
 go_wp2_with fail
 go_upto_region 1 with fail
 go_cut [27] (fun v W=>∃ b:Bool,v = .bool b∧Hid (b=false↔n0=r)∧Loc W w.heap.size 120 #[.slice A1 r c1]∧Loc W (w.heap.size+1) 120 #[.slice A2 s c2]∧Below w.heap.size w W)
 case first=>
  go_wp2_with fail
  refine wp_region_noPanic ?_
  refine wp_region_held_drew (S:=(fun W=>(W.cell? ⟨w.heap.size,0,none⟩=some (.slice A1 r c1)∧W.cell? ⟨w.heap.size+1,0,none⟩=some (.slice A2 s c2))∧W.cell? a0=some (.slice D0 n0 d0))) (by kernel_rfl) ?_ (fun hHeld=>?_)
  ·exact HSS.out _ bel (HLM.out _ bel)
  refine takeT 0 hHeld ?_
  (try simp only [Act.put,ly])
  refine takeT 1 hHeld ?_
  (try simp only [Act.put,ly])
  refine wpAnyH_ready (rs:=[2]) (by kernel_rfl) (by simp) ?_
  refine AllReadyH.cons rfl (fun K hK=>?_) AllReadyH.nil
  go_simp
  refine (pair_any _ _ _ L1 L2 (H1.out.keep kp) (H2.out.keep kp)).mono ?_
  rintro e w1 ⟨code,rfl,HP,hb1⟩
  have y1:=hb1.size; (try simp only [zs] at y1)
  obtain rfl:code=0:=HP.out.2.2 ⟨HP1.out.1,HP1.out.2.1⟩ HP1.out.2.2
  clear HP
  (try go_wp2_with fail)
  refine hK.out _ _ ?_ (fun hHeld=>?_)
  ·(try dsimp only)
   exact HSS.out _ bel (HLM.out _ bel)
  clear hK K
  (try simp only [Act.put,ly])
  refine takeT 3 hHeld ?_
  (try simp only [Act.put,ly])
  refine takeT 4 hHeld ?_
  (try simp only [Act.put,ly])
  refine takeT 5 hHeld ?_
  (try simp only [Act.put,ly])
  refine wpAnyH_ready (rs:=[6]) (by kernel_rfl) (by simp) ?_
  refine AllReadyH.cons rfl (fun K hK=>?_) AllReadyH.nil
  go_simp
  refine (matrix_any _ _ Kn k N F (H.out.keep kp)).mono ?_
  rintro e w2 ⟨he,hb2⟩
  have y2:=hb2.size; (try simp only [zs] at y2)
  have he:=he.eq (b:=true) ⟨fun _=>HST.out,fun _=>rfl⟩
  subst he
  have HL2:Hid (Loc w2 w.heap.size 120 #[.slice A1 r c1]):=L.to
  have HM2:Hid (Loc w2 (w.heap.size+1) 120 #[.slice A2 s c2]):=M.to
  (try go_wp2_with fail)
  refine hK.out _ _ ?_ (fun hHeld=>?_)
  ·(try dsimp only)
   exact HSS.out _ bel (HLM.out _ bel)
  clear hK K
  (try simp only [Act.put,ly])
  refine takeT 7 hHeld ?_
  (try simp only [Act.put,ly])
  refine takeT 8 hHeld ?_
  (try simp only [Act.put,ly])
  refine takeT 9 hHeld ?_
  (try simp only [Act.put,ly])
  refine takeT 10 hHeld ?_
  (try simp only [Act.put,ly])
  refine takeT 11 hHeld ?_
  (try simp only [Act.put,ly])
  refine takeT 12 hHeld ?_
  (try simp only [Act.put,ly])
  refine takeT 13 hHeld ?_
  (try simp only [Act.put,ly])
  refine takeT 14 hHeld ?_
  (try simp only [Act.put,ly])
  refine takeT 15 hHeld ?_
  (try simp only [Act.put,ly])
  refine takeT 16 hHeld ?_
  (try simp only [Act.put,ly])
  by_cases h5:n0=r
  case neg=>
   have d1:((n0:Int) == (r:Int))=false:=beq_eq_false_iff_ne.2 (by omega)
   have d2:((n0:Int) != (r:Int))=true:=bne_iff_ne.2 (by omega)
   have HE:Hid (¬ n0=r):=h5
   clear h5
   refine takeT 17 hHeld ?_
   (try simp only [Act.put,ly])
   refine takeT 18 hHeld ?_
   (try simp only [Act.put,ly])
   refine wpAnyH_done (by kernel_rfl) ?_ _
   refine NoPanic.normal ?_
   go_wp2_with fail
   go_meet
   exact ⟨true,rfl,⟨fun h=>(by cases h),fun h=>absurd h HE.out⟩,HL2.out,HM2.out,bel⟩
  have d1:((n0:Int) == (r:Int))=true:=beq_iff_eq.2 (by omega)
  have d2:((n0:Int) != (r:Int))=false:=by simp only [bne,d1]; rfl
  have HE:=Lib.hid h5
  clear h5
  refine takeT 17 hHeld ?_
  (try simp only [Act.put,ly])
  refine takeT 18 hHeld ?_
  (try simp only [Act.put,ly])
  refine wpAnyH_done (by kernel_rfl) ?_ _
  refine NoPanic.normal ?_
  go_wp2_with fail
  go_meet
  exact ⟨false,rfl,⟨fun _=>HE.out,fun _=>rfl⟩,HL2.out,HM2.out,bel⟩
 case rest=>
  obtain ⟨b,rfl,HB,NL,NM,hB⟩:=hcut
  obtain ⟨w3,rfl⟩:∃ w3:World,w3=wc:=⟨_,rfl⟩
  clear L M HLM
  have y3:=hB.size; (try simp only [zs] at y3)
  have q1:=NL.lt
  have q2:=NM.lt
  cases b
  case true=>
   have HV:Hid (¬ GN L1 L2 Kn N F):=fun h=>by
    have:true=false:=HB.out.2 (by rw [←HN0.out,← HR.out]; exact h.2.2.2.2.1)
    cases this
   clear HB
   go_wp2_with fail
   go_ret
   exact ⟨Tells.no HV.out,hB⟩
  have HNR:=Lib.hid (HB.out.1 rfl)
  clear HB
  have HN3:Hid (∀ i,i<Kn→N i=L1.length):=fun i hi=>by rw [(HST.out.2.2 i hi).1,HN0.out,HNR.out,HR.out]
  have HN4:Hid (∀ i,i<Kn→N i=L2.length):=fun i hi=>by rw [←HP1.out.2.2]; exact HN3.out i hi
  obtain ⟨p1,hp1⟩:∃ p,tot L1=p:=⟨_,rfl⟩
  obtain ⟨p2,hp2⟩:∃ p,tot L2=p:=⟨_,rfl⟩
  have ht1:=HP1.out.1.tot
  have ht2:=HP1.out.2.1.tot
  rw [hp1] at ht1
  rw [hp2] at ht2
  have HT1:=Lib.hid hp1
  have HT2:=Lib.hid hp2
  obtain ⟨x1,hx1⟩:∃ q,worthV (wid L1) Kn L1.length (ce L1) F=q:=⟨_,rfl⟩
  obtain ⟨x2,hx2⟩:∃ q,worthV (wid L2) Kn L2.length (ce L2) F=q:=⟨_,rfl⟩
  have HX1:=Lib.hid hx1
  have HX2:=Lib.hid hx2
  have HZ1:Hid (Rsz 8100000 x1):=by show Rsz _ _; rw [←hx1]; exact worth_rsz HP1.out.1 (fun i hi x hx=>HFZ.out i hi x (by rw [HN3.out i hi]; exact hx)) hw1 HBB.out hB2
  have HZ2:Hid (Rsz 8100000 x2):=by show Rsz _ _; rw [←hx2]; exact worth_rsz HP1.out.2.1 (fun i hi x hx=>HFZ.out i hi x (by rw [HN4.out i hi]; exact hx)) hw2 (by rw [←HP1.out.2.2]; exact HBB.out) hB2
  have HGN:Hid (GN L1 L2 Kn N F↔(p2:Rat)*x1<(p1:Rat)*x2):=by
   show _↔_
   unfold GN
   rw [HT1.out,HT2.out,HX1.out]
   have:worthV (wid L2) Kn L1.length (ce L2) F=x2:=by rw [HP1.out.2.2]; exact HX2.out
   rw [this]
   exact ⟨fun h=>h.2.2.2.2.2,fun h=>⟨HP1.out.1,HP1.out.2.1,HP1.out.2.2,HST.out,by rw [HN0.out,HNR.out,HR.out],h⟩⟩
  have HLS:Hid (∀ W,Below w3.heap.size w3 W→W.cell? ⟨w.heap.size,0,none⟩=some (.slice A1 r c1)∧W.cell? ⟨w.heap.size+1,0,none⟩=some (.slice A2 s c2)):=fun W hW=>
   ⟨Loc.cell (NL.below hW) 0,Loc.cell (NM.below hW) 0⟩
  have HBW:Hid (∀ W,Below w3.heap.size w3 W→Below w.heap.size w W):=fun W hW=>hB.trans (hW.mono y3)
  clear hp1 hp2 hx1 hx2 hB
  go_upto_region 3 with fail
  go_cut [7] (fun v W=>∃ (g:Nat) (b7:Bool) (A7:Option Addr) (m7 c7:Nat) (b7':Bool) (A7':Option Addr) (m7' c7':Nat),v = .pointer (some ⟨g,0,none⟩)∧w3.heap.size≤g∧Loc W g 213 #[.bool b7, .slice A7 m7 c7, .bool b7', .slice A7' m7' c7']∧
   RatV W (fun b=>b<w3.heap.size) (.agg #[.bool b7, .slice A7 m7 c7, .bool b7', .slice A7' m7' c7']) ((p1:Rat)*x2)∧Below w3.heap.size w3 W)
  case first=>
   go_wp2_with fail
   go_region_held3 (fun W=>W.cell? ⟨w.heap.size,0,none⟩=some (.slice A1 r c1)∧W.cell? ⟨w.heap.size+1,0,none⟩=some (.slice A2 s c2))
    (exact HLS.out _ bel)
    (first
     | (go_at_call 287; refine (total_any _ _ L1 (H1.out.keep (.of_below (HBW.out _ bel))) HP1.out.1).mono ?_; rintro e u1 ⟨he,hb1⟩; rw [HT1.out] at he; subst he; have y11:=hb1.size; (try simp only [zs] at y11))
     | (go_at_call 286; refine (rwhole_any _ p1 (by omega) (by omega)).mono ?_; rintro e u2 ⟨v2,rfl,j2,hb2⟩; obtain ⟨b12,A12,m12,c12,b12',A12',m12',c12',rfl,j2, -, -⟩:=j2.op; have y12:=hb2.size; (try simp only [zs] at y12))
     | (go_at_call 295; refine (worth_any _ _ _ L2 Kn k B N F (H2.out.keep (.of_below (HBW.out _ bel))) HP1.out.2.1 (H.out.keep (.of_below (HBW.out _ bel))) HN4.out hK hw2 hk1 (by rw [←HP1.out.2.2]; exact HBB.out) hB2).mono ?_; rintro e u3 ⟨v3,rfl,j3,hb3⟩; rw [HX2.out] at j3; obtain ⟨b13,A13,m13,c13,b13',A13',m13',c13',rfl,j3, -, -⟩:=j3.op; have y13:=hb3.size; (try simp only [zs] at y13))
     | (go_at_call 293; refine (mul_rat _ (fun _ => False) _ _ (p1 : Rat) x2 (RatL.to (j2.len ((rsz_int (by omega) (by omega)).mono (show 2 ≤ 10000000 by omega)))) (RatL.to ((j3.len HZ2.out).mono (by omega)))).mono ?_; rintro e u4 ⟨v4, rfl, j4, hb4⟩; obtain ⟨b14, A14, m14, c14, b14', A14', m14', c14', rfl, j4, -, -⟩ := j4.op; have y14 := hb4.size; (try simp only [zs] at y14); (first
       | (have h7:Loc u4 w3.heap.size 213 #[.bool false, .slice none 0 0, .bool false, .slice none 0 0]:=(made1 w3 #[.bool false, .slice none 0 0, .bool false, .slice none 0 0] 213).to (w':=u4); obtain ⟨e7,g7,l7⟩:=h7.all (w':=u4))
       | (have h7:Loc u4 u1.heap.size 213 #[.bool false, .slice none 0 0, .bool false, .slice none 0 0]:=(made1 u1 #[.bool false, .slice none 0 0, .bool false, .slice none 0 0] 213).to (w':=u4); obtain ⟨e7,g7,l7⟩:=h7.all (w':=u4))
       | (have h7:Loc u4 u2.heap.size 213 #[.bool false, .slice none 0 0, .bool false, .slice none 0 0]:=(made1 u2 #[.bool false, .slice none 0 0, .bool false, .slice none 0 0] 213).to (w':=u4); obtain ⟨e7,g7,l7⟩:=h7.all (w':=u4))
       | (have h7:Loc u4 u3.heap.size 213 #[.bool false, .slice none 0 0, .bool false, .slice none 0 0]:=(made1 u3 #[.bool false, .slice none 0 0, .bool false, .slice none 0 0] 213).to (w':=u4); obtain ⟨e7,g7,l7⟩:=h7.all (w':=u4))
       | skip)))
   all_goals
    go_wp2_with fail
    go_meet
    first
     | (have q:=Loc.fill4 (u:= .bool b14) (v:= .slice A14 m14 c14) (x:= .bool b14') (y:= .slice A14' m14' c14') h7; exact ⟨_,_,_,_,_,_,_,_,_,rfl,by omega,q,RatV.out j4,bel⟩)
     | exact ⟨_,_,_,_,_,_,_,_,_,rfl,by omega,made1 u4 _ _,RatV.out j4,bel⟩
  case rest=>
   obtain ⟨g7,b7,A7,m7,c7,b7',A7',m7',c7',rfl,hg7,T7,s7,hB7⟩:=hcut
   obtain ⟨w7,rfl⟩:∃ w7:World,w7=wc:=⟨_,rfl⟩
   have y7:=hB7.size; (try simp only [zs] at y7)
   have q8:=T7.lt
   have HPM1:Hid (Rsz 8100002 ((p1:Rat)*x2)):=((rsz_int (by omega) (by omega)).mul HZ2.out).mono (by omega)
   have HPM2:Hid (Rsz 8100002 ((p2:Rat)*x1)):=((rsz_int (by omega) (by omega)).mul HZ1.out).mono (by omega)
   go_upto_region 4 with fail
   go_cut [8] (fun v W=>∃ (g:Nat) (b7:Bool) (A7:Option Addr) (m7 c7:Nat) (b7':Bool) (A7':Option Addr) (m7' c7':Nat),v = .pointer (some ⟨g,0,none⟩)∧w7.heap.size≤g∧Loc W g 213 #[.bool b7, .slice A7 m7 c7, .bool b7', .slice A7' m7' c7']∧
    RatV W (fun b=>b<w7.heap.size) (.agg #[.bool b7, .slice A7 m7 c7, .bool b7', .slice A7' m7' c7']) ((p2:Rat)*x1)∧Below w7.heap.size w7 W)
   case first=>
    go_wp2_with fail
    go_region_held3 (fun W=>W.cell? ⟨w.heap.size,0,none⟩=some (.slice A1 r c1)∧W.cell? ⟨w.heap.size+1,0,none⟩=some (.slice A2 s c2))
     (exact HLS.out _ bel)
     (first
      | (go_at_call 287; refine (total_any _ _ L2 (H2.out.keep (.of_below (HBW.out _ bel))) HP1.out.2.1).mono ?_; rintro e u1 ⟨he,hb1⟩; rw [HT2.out] at he; subst he; have y11:=hb1.size; (try simp only [zs] at y11))
      | (go_at_call 286; refine (rwhole_any _ p2 (by omega) (by omega)).mono ?_; rintro e u2 ⟨v2,rfl,j2,hb2⟩; obtain ⟨b12,A12,m12,c12,b12',A12',m12',c12',rfl,j2, -, -⟩:=j2.op; have y12:=hb2.size; (try simp only [zs] at y12))
      | (go_at_call 295; refine (worth_any _ _ _ L1 Kn k B N F (H1.out.keep (.of_below (HBW.out _ bel))) HP1.out.1 (H.out.keep (.of_below (HBW.out _ bel))) HN3.out hK hw1 hk1 HBB.out hB2).mono ?_; rintro e u3 ⟨v3,rfl,j3,hb3⟩; rw [HX1.out] at j3; obtain ⟨b13,A13,m13,c13,b13',A13',m13',c13',rfl,j3, -, -⟩:=j3.op; have y13:=hb3.size; (try simp only [zs] at y13))
      | (go_at_call 293; refine (mul_rat _ (fun _ => False) _ _ (p2 : Rat) x1 (RatL.to (j2.len ((rsz_int (by omega) (by omega)).mono (show 2 ≤ 10000000 by omega)))) (RatL.to ((j3.len HZ1.out).mono (by omega)))).mono ?_; rintro e u4 ⟨v4, rfl, j4, hb4⟩; obtain ⟨b14, A14, m14, c14, b14', A14', m14', c14', rfl, j4, -, -⟩ := j4.op; have y14 := hb4.size; (try simp only [zs] at y14); (first
        | (have h7:Loc u4 w7.heap.size 213 #[.bool false, .slice none 0 0, .bool false, .slice none 0 0]:=(made1 w7 #[.bool false, .slice none 0 0, .bool false, .slice none 0 0] 213).to (w':=u4); obtain ⟨e7,g7',l7⟩:=h7.all (w':=u4))
        | (have h7:Loc u4 u1.heap.size 213 #[.bool false, .slice none 0 0, .bool false, .slice none 0 0]:=(made1 u1 #[.bool false, .slice none 0 0, .bool false, .slice none 0 0] 213).to (w':=u4); obtain ⟨e7,g7',l7⟩:=h7.all (w':=u4))
        | (have h7:Loc u4 u2.heap.size 213 #[.bool false, .slice none 0 0, .bool false, .slice none 0 0]:=(made1 u2 #[.bool false, .slice none 0 0, .bool false, .slice none 0 0] 213).to (w':=u4); obtain ⟨e7,g7',l7⟩:=h7.all (w':=u4))
        | (have h7:Loc u4 u3.heap.size 213 #[.bool false, .slice none 0 0, .bool false, .slice none 0 0]:=(made1 u3 #[.bool false, .slice none 0 0, .bool false, .slice none 0 0] 213).to (w':=u4); obtain ⟨e7,g7',l7⟩:=h7.all (w':=u4))
        | skip)))
    all_goals
     go_wp2_with fail
     go_meet
     first
      | (have q:=Loc.fill4 (u:= .bool b14) (v:= .slice A14 m14 c14) (x:= .bool b14') (y:= .slice A14' m14' c14') h7; exact ⟨_,_,_,_,_,_,_,_,_,rfl,by omega,q,RatV.out j4,bel⟩)
      | exact ⟨_,_,_,_,_,_,_,_,_,rfl,by omega,made1 u4 _ _,RatV.out j4,bel⟩
   case rest=>
    obtain ⟨g8,b9,A9,m9,c9,b9',A9',m9',c9',rfl,hg8,T8,s8,hB8⟩:=hcut
    obtain ⟨w8,rfl⟩:∃ w8:World,w8=wc:=⟨_,rfl⟩
    have y8:=hB8.size; (try simp only [zs] at y8)
    have q9:=T8.lt
    have T7':Loc w8 g7 _ _:=T7.to
    obtain ⟨e7,f7, -⟩:=T7'.all (w':=w8)
    obtain ⟨e8,f8, -⟩:=T8.all (w':=w8)
    obtain ⟨q,hq⟩:∃ q,rcmp ((p1:Rat)*x2) ((p2:Rat)*x1)=q:=⟨_,rfl⟩
    have HQ:=Lib.hid hq
    have HZ:Hid (0<q↔GN L1 L2 Kn N F):=by show _↔_; rw [←hq,HGN.out]; exact rcmp_pos _ _
    clear hq
    go_wp2_with fail
    refine (ratcompare_any _ (fun _=>False) _ _ ((p1:Rat)*x2) ((p2:Rat)*x1) (RatL.to ((s7.len HPM1.out).mono (by omega))) (RatL.to ((s8.len HPM2.out).mono (by omega)))).mono ?_
    rintro e w10 ⟨he,hb10⟩
    rw [HQ.out] at he
    subst he
    have y14:=hb10.size; (try simp only [zs] at y14)
    have HB10:Hid (Below w.heap.size w w10):=HBW.out _ bel
    clear e7 f7 e8 f8
    by_cases h0:0<q
    ·have HV:=Lib.hid (HZ.out.1 h0)
     have d1:decide (0<q)=true:=decide_eq_true h0
     clear HZ h0
     go_wp2_with fail
     go_ret
     exact ⟨Tells.yes HV.out,HB10.out⟩
    ·have HV:Hid (¬ GN L1 L2 Kn N F):=fun h=>h0 (HZ.out.2 h)
     have d1:decide (0<q)=false:=decide_eq_false h0
     clear HZ h0
     go_wp2_with fail
     go_ret
     exact ⟨Tells.no HV.out,HB10.out⟩

/-- What Check asks of a proof: a boolean, a witness, a gain function. -/
def PRF (L1 L2:List (List Int)) (b:Bool) (m:Nat) (N:Nat→Nat) (F:Nat→Nat→Rat) (Kn:Nat) (N':Nat→Nat) (F':Nat→Nat→Rat):Prop:=
 (b=true∧Kn=0∧WIT L1 L2 m N F)∨(b=false∧m=0∧GN L1 L2 Kn N' F')
set_option maxRecDepth 100000 in
set_option maxHeartbeats 16000000 in
theorem check40_any (w:World) (v1 v2 vw vg:Value) (b:Bool) (L1 L2:List (List Int)) (m Kn k k' B:Nat) (N N':Nat→Nat) (F F':Nat→Nat→Rat) (h1:IMat w v1 L1) (h2:IMat w v2 L2) (h:Mat k w (fun _=>False) vw m N F) (h':Mat k' w (fun _=>False) vg Kn N' F')
 (hm:m≤200) (hN:∀ i,i<m→N i≤200) (hK:Kn≤200) (hw1:wid L1≤200) (hw2:wid L2≤200) (hk1:1≤k) (hk:k≤1990) (hk1':1≤k') (hk':k'≤40000) (hB:(2+k'+1)*L1.length+2≤B) (hB2:B≤40000) :
 Calls Tryz.prog 62 #[.agg #[v1], .agg #[v2], .agg #[.bool b,vw,vg]] w fun e w'=>Tells (PRF L1 L2 b m N F Kn N' F') e∧Below w.heap.size w w':=by
 have H1:=Lib.hid h1
 have H2:=Lib.hid h2
 have H:=Lib.hid h
 have H':=Lib.hid h'
 have HN:=Lib.hid hN
 have HB:=Lib.hid hB
 obtain ⟨A1,c1,rfl, -,la1,la2⟩:=h1.op
 obtain ⟨A2,c2,rfl, -,lb1,lb2⟩:=h2.op
 obtain ⟨A,cA,rfl, -,l1,l2⟩:=h.op
 obtain ⟨A',cA',rfl, -,l3,l4⟩:=h'.op
 clear h1 h2 h h' hN hB
 cases b
 case true=>
  by_cases hz:Kn=0
  ·have HZ:=Lib.hid hz
   have d1:((Kn:Int) == 0)=true:=beq_iff_eq.2 (by omega)
   have HP:Hid (PRF L1 L2 true m N F Kn N' F'↔WIT L1 L2 m N F):=⟨fun h=>(by rcases h with h | h; exact h.2.2; cases h.1),fun h=> .inl ⟨rfl,HZ.out,h⟩⟩
   clear hz
   go_enter Tryz.func62,Tryz.ntmps62
   go_wp2_with fail
   refine (checkWitness_any _ _ _ _ L1 L2 m k N F (H1.out.keep kp) (H2.out.keep kp) (H.out.keep kp) hm HN.out hk1 hk).mono ?_
   rintro e w1 ⟨⟨b,rfl,hb⟩,hb1⟩
   have HV:=Lib.hid (hb.out.trans HP.out.symm)
   clear hb HP
   go_wp2_with fail
   go_ret
   exact ⟨⟨b,rfl,HV.out⟩,bel⟩
  ·have HV:Hid (¬ PRF L1 L2 true m N F Kn N' F'):=fun h=>by rcases h with h | h; exact hz h.2.1; cases h.1
   have d1:((Kn:Int) == 0)=false:=beq_eq_false_iff_ne.2 (by omega)
   clear hz
   go_enter Tryz.func62,Tryz.ntmps62
   go_wp2_with fail
   go_ret
   exact ⟨Tells.no HV.out,bel⟩
 case false=>
  by_cases hz:m=0
  ·have HZ:=Lib.hid hz
   have d1:((m:Int) == 0)=true:=beq_iff_eq.2 (by omega)
   have HP:Hid (PRF L1 L2 false m N F Kn N' F'↔GN L1 L2 Kn N' F'):=⟨fun h=>(by rcases h with h | h; cases h.1; exact h.2.2),fun h=> .inr ⟨rfl,HZ.out,h⟩⟩
   clear hz
   go_enter Tryz.func62,Tryz.ntmps62
   go_wp2_with fail
   refine (checkGain_any _ _ _ _ L1 L2 Kn k' B N' F' (H1.out.keep kp) (H2.out.keep kp) (H'.out.keep kp) hK hw1 hw2 hk1' HB.out hB2).mono ?_
   rintro e w1 ⟨⟨b,rfl,hb⟩,hb1⟩
   have HV:=Lib.hid (hb.out.trans HP.out.symm)
   clear hb HP
   go_wp2_with fail
   go_ret
   exact ⟨⟨b,rfl,HV.out⟩,bel⟩
  ·have HV:Hid (¬ PRF L1 L2 false m N F Kn N' F'):=fun h=>by rcases h with h | h; cases h.1; exact hz h.2.1
   have d1:((m:Int) == 0)=false:=beq_eq_false_iff_ne.2 (by omega)
   clear hz
   go_enter Tryz.func62,Tryz.ntmps62
   go_wp2_with fail
   go_ret
   exact ⟨Tells.no HV.out,bel⟩

/- checker.separates. -/

theorem gn_iff {L1 L2:List (List Int)} {Kn:Nat} {N:Nat→Nat} {F:Nat→Nat→Rat} (h1:VC L1) (h2:VC L2) (hl:L1.length=L2.length) :
 GN L1 L2 Kn N F↔KMX Kn 0 L1.length N F∧((tot L2:Int):Rat)*worthV (wid L1) Kn L1.length (ce L1) F<((tot L1:Int):Rat)*worthV (wid L2) Kn L1.length (ce L2) F:=by
 have a1:1≤L1.length:=h1.1
 constructor
 ·rintro ⟨-, -, -,hm,hn,he⟩
  exact ⟨⟨hm.1,fun h=>absurd h (by decide),fun i hi=>⟨by rw [(hm.2.2 i hi).1,hn],(hm.2.2 i hi).2⟩⟩,he⟩
 ·rintro ⟨hk,he⟩
  have h0:=hk.1
  have hn:N 0=L1.length:=(hk.2.2 0 (by omega)).1
  exact ⟨h1,h2,hl,⟨hk.1,by omega,fun i hi=>⟨by rw [(hk.2.2 i hi).1,hn],(hk.2.2 i hi).2⟩⟩,hn,he⟩

set_option maxRecDepth 100000 in
set_option maxHeartbeats 16000000 in
theorem kseparates_any (w:World) (v1 v2 vg:Value) (L1 L2:List (List Int)) (Kn k B:Nat) (N:Nat→Nat) (F:Nat→Nat→Rat) (h1:IMat w v1 L1) (h2:IMat w v2 L2) (h:Mat k w (fun _=>False) vg Kn N F) (hV1:VC L1) (hV2:VC L2) (hLL:L1.length=L2.length)
 (hKn:Kn≤200) (hw1:wid L1≤200) (hw2:wid L2≤200) (hL:L1.length≤200) (hk1:1≤k) (hk:k≤900) (hB:(2+k+1)*L1.length+2≤B) (hB2:B≤2000) :
 Calls Tryz.prog 171 #[.agg #[v1], .agg #[v2],vg] w fun e w'=>Tells (GN L1 L2 Kn N F) e∧Below w.heap.size w w':=by
 have HIFF:Hid (GN L1 L2 Kn N F↔_):=gn_iff hV1 hV2 hLL
 have HV1:=Lib.hid hV1
 have HV2:=Lib.hid hV2
 have HFZ:=Lib.hid (h.rsz hk1)
 have HBB:=Lib.hid hB
 have H10:=Lib.hid h1
 have H20:=Lib.hid h2
 have H0:=Lib.hid h
 obtain ⟨A1,c1,rfl, -,la1,la2⟩:=h1.op
 obtain ⟨A2,c2,rfl, -,lb1,lb2⟩:=h2.op
 obtain ⟨A,cA,rfl, -,l1,l2⟩:=h.op
 obtain ⟨r,hr⟩:∃ r,L1.length=r:=⟨_,rfl⟩
 have HR:=Lib.hid hr
 have HS:Hid (L2.length=r):=by show _=_; omega
 have HI1:Hid (IMat w (.slice A1 r c1) L1):=by have h9:=H10.out; rw [hr] at h9; exact h9
 have HI2:Hid (IMat w (.slice A2 r c2) L2):=by have h9:=H20.out; rw [HS.out] at h9; exact h9
 rw [hr] at la1 hL ⊢
 rw [HS.out] at lb1 ⊢
 obtain ⟨p1,hp1⟩:∃ p,tot L1=p:=⟨_,rfl⟩
 obtain ⟨p2,hp2⟩:∃ p,tot L2=p:=⟨_,rfl⟩
 have ht1:=hV1.tot
 have ht2:=hV2.tot
 rw [hp1] at ht1
 rw [hp2] at ht2
 have HT1:=Lib.hid hp1
 have HT2:=Lib.hid hp2
 have HW1:=Lib.hid hw1
 have HW2:=Lib.hid hw2
 obtain ⟨w0,hw0⟩:∃ W,(w.alloc (.cells #[.slice A1 r c1] 120)).alloc (.cells #[.slice A2 r c2] 120)=W:=⟨_,rfl⟩
 have HW0:=Lib.hid hw0
 have L0:Loc w0 w.heap.size 120 #[.slice A1 r c1]:=by rw [←hw0]; exact Loc.alloc (made1 w _ _) _
 have M0:Loc w0 (w.heap.size+1) 120 #[.slice A2 r c2]:=by rw [←hw0]; exact made2 w _ _ _
 have HB0:Hid (Below w.heap.size w w0):=by show Below _ _ _; rw [←hw0]; exact bel
 have hs0:w.heap.size+1<w0.heap.size:=M0.lt
 have HLM:Hid (∀ W,Below w0.heap.size w0 W→W.cell? ⟨w.heap.size,0,none⟩=some (.slice A1 r c1)∧W.cell? ⟨w.heap.size+1,0,none⟩=some (.slice A2 r c2)):=fun W hW=>
  ⟨Loc.cell (L0.below hW) 0,Loc.cell (M0.below hW) 0⟩
 have H1:Hid (IMat w0 (.slice A1 r c1) L1):=HI1.out.keep (.of_below HB0.out)
 have H2:Hid (IMat w0 (.slice A2 r c2) L2):=HI2.out.keep (.of_below HB0.out)
 have H:Hid (Mat k w0 (fun _=>False) (.slice A Kn cA) Kn N F):=Mat.keep H0.out (.of_below HB0.out)
 have HBW:Hid (∀ W,Below w0.heap.size w0 W→Below w.heap.size w W):=fun W hW=>HB0.out.trans (hW.mono (by omega))
 obtain ⟨c01,c02⟩:=HLM.out w0 (Below.refl _ _)
 have q1:w.heap.size<w0.heap.size:=by omega
 clear hp1 hp2 hr h h1 h2 hV1 hV2 hLL H10 H20 H0 HI1 HI2 hw0 L0 M0 hB hw1 hw2
 have HMX:Hid (∀ W,Below w0.heap.size w0 W→Calls Tryz.prog 296 #[.slice A Kn cA, .int .i64 0, .int .i64 r] W fun e w'=>Tells (KMX Kn 0 r N F) e∧Below W.heap.size W w'):=fun W hW=>kmatrix_any W (.slice A Kn cA) Kn k 0 r N F (Mat.keep H.out (.of_below hW)) hk1 (by omega) (by omega)
 go_enter Tryz.func171,Tryz.ntmps171
 go_wp2_with (rw [HW0.out])
 refine (HMX.out _ (Below.refl _ _)).mono ?_
 rintro e w1 ⟨⟨b,rfl,hb⟩,hb1⟩
 have y1:=hb1.size; (try simp only [zs] at y1)
 clear c01 c02
 cases b
 case false=>
  have HV:Hid (¬ GN L1 L2 Kn N F):=fun h=>by
   have h9:=(HIFF.out.1 h).1
   rw [HR.out] at h9
   have:=hb.out.2 h9
   cases this
  clear hb
  go_wp2_with fail
  go_ret
  exact ⟨Tells.no HV.out,HBW.out _ hb1⟩
 have HK:Hid (KMX Kn 0 r N F):=hb.out.1 rfl
 have HN1:Hid (∀ i,i<Kn→N i=L1.length):=fun i hi=>by rw [HR.out]; exact (HK.out.2.2 i hi).1
 have HN2:Hid (∀ i,i<Kn→N i=L2.length):=fun i hi=>by rw [HS.out]; exact (HK.out.2.2 i hi).1
 have hF1:∀ i,i<Kn→∀ x,x<L1.length→Rsz k (F i x):=fun i hi x hx=>HFZ.out i hi x (by rw [HN1.out i hi]; exact hx)
 have hF2:∀ i,i<Kn→∀ x,x<L2.length→Rsz k (F i x):=fun i hi x hx=>HFZ.out i hi x (by rw [HN2.out i hi]; exact hx)
 obtain ⟨X1,hX1⟩:∃ X,worthV (wid L1) Kn L1.length (ce L1) F=X:=⟨_,rfl⟩
 obtain ⟨X2,hX2⟩:∃ X,worthV (wid L2) Kn L2.length (ce L2) F=X:=⟨_,rfl⟩
 have HX1:=Lib.hid hX1
 have HX2:=Lib.hid hX2
 have HZ1:Hid (Rsz 8100000 X1):=by show Rsz _ _; rw [←hX1]; exact worth_rsz HV1.out hF1 HW1.out HBB.out (by omega)
 have HZ2:Hid (Rsz 8100000 X2):=by show Rsz _ _; rw [←hX2]; exact worth_rsz HV2.out hF2 HW2.out (by rw [HS.out,← HR.out]; exact HBB.out) (by omega)
 have HP1:Hid (Rsz 8100002 ((p1:Rat)*X2)):=((rsz_int (by omega) (by omega)).mul HZ2.out).mono (by omega)
 have HP2:Hid (Rsz 8100002 ((p2:Rat)*X1)):=((rsz_int (by omega) (by omega)).mul HZ1.out).mono (by omega)
 obtain ⟨q,hq⟩:∃ q,rcmp ((p1:Rat)*X2) ((p2:Rat)*X1)=q:=⟨_,rfl⟩
 have HQ:=Lib.hid hq
 have HGN:Hid (0<q↔GN L1 L2 Kn N F):=by
  show _↔_
  rw [←hq,rcmp_pos,HIFF.out,HT1.out,HT2.out,hX1]
  have e2:worthV (wid L2) Kn L1.length (ce L2) F=X2:=by rw [←hX2,HR.out,HS.out]
  rw [e2]
  exact ⟨fun h=>⟨by rw [HR.out]; exact HK.out,h⟩,fun h=>h.2⟩
 clear hb hX1 hX2 hq hF1 hF2
 have HB1:=Lib.hid hb1
 (try simp only [Bool.not_true])
 go_wp2_with fail
 refine wp_region_noPanic ?_
 refine wp_region_held_drew (S:=(fun W=>W.cell? ⟨w.heap.size,0,none⟩=some (.slice A1 r c1)∧W.cell? ⟨w.heap.size+1,0,none⟩=some (.slice A2 r c2))) (by kernel_rfl) ?_ (fun hHeld=>?_)
 ·exact HLM.out _ (HB1.out.trans (((Below.refl _ _).drew).mono y1))
 refine takeT 0 hHeld ?_
 (try simp only [Act.put,ly])
 refine takeT 3 hHeld ?_
 (try simp only [Act.put,ly])
 refine takeT 4 hHeld ?_
 (try simp only [Act.put,ly])
 refine takeT 7 hHeld ?_
 (try simp only [Act.put,ly])
 refine takeT 10 hHeld ?_
 (try simp only [Act.put,ly])
 refine takeT 11 hHeld ?_
 (try simp only [Act.put,ly])
 refine wpAnyH_ready (rs:=[1]) (by kernel_rfl) (by simp) ?_
 refine AllReadyH.cons rfl (fun K hK=>?_) AllReadyH.nil
 go_simp
 refine (ktotal_ok _ _ L1 (H1.out.keep (.of_below (HB1.out.trans (((Below.refl _ _).drew).mono y1)))) HV1.out).mono ?_
 rintro e u1 ⟨he,hb2⟩
 rw [HT1.out] at he
 subst he
 have hb2:Below w0.heap.size w0 u1:=HB1.out.trans ((((Below.refl w1.heap.size w1).drew).trans hb2).mono y1)
 have y2:=hb2.size; (try simp only [zs] at y2)
 have HB2:=Lib.hid hb2
 (try go_wp2_with fail)
 refine hK.out _ _ ?_ (fun hHeld=>?_)
 ·(try dsimp only)
  exact HLM.out _ HB2.out
 clear hK K
 (try simp only [Act.put,ly])
 refine wpAnyH_ready (rs:=[2]) (by kernel_rfl) (by simp) ?_
 refine AllReadyH.cons rfl (fun K hK=>?_) AllReadyH.nil
 go_simp
 refine (kwhole_any _ p1 (by omega) (by omega)).mono ?_
 rintro e u2 ⟨v2,rfl,j2,hb3⟩
 obtain ⟨b2,A3,m3,c3,b2',A3',m3',c3',rfl,j2, -, -⟩:=j2.op
 have y3:=hb3.size; (try simp only [zs] at y3)
 have HB3:Hid (Below w0.heap.size w0 u2):=HB2.out.trans (hb3.mono y2)
 (try go_wp2_with fail)
 refine hK.out _ _ ?_ (fun hHeld=>?_)
 ·(try dsimp only)
  exact HLM.out _ HB3.out
 clear hK K
 (try simp only [Act.put,ly])
 refine wpAnyH_ready (rs:=[5]) (by kernel_rfl) (by simp) ?_
 refine AllReadyH.cons rfl (fun K hK=>?_) AllReadyH.nil
 go_simp
 refine (kvalue_any _ _ _ L2 Kn k B N F (H2.out.keep (.of_below HB3.out)) HV2.out (Mat.keep H.out (.of_below HB3.out)) HN2.out hKn HW2.out (by rw [HS.out]; exact hL) hk1 hk (by rw [HS.out,← HR.out]; exact HBB.out) hB2).mono ?_
 rintro e u3 ⟨v3,rfl,j3,hb4⟩
 rw [HX2.out] at j3
 obtain ⟨b4,A4,m4,c4,b4',A4',m4',c4',rfl,j3, -, -⟩:=j3.op
 have y4:=hb4.size; (try simp only [zs] at y4)
 have HB4:Hid (Below w0.heap.size w0 u3):=HB3.out.trans (hb4.mono (by omega))
 (try go_wp2_with fail)
 refine hK.out _ _ ?_ (fun hHeld=>?_)
 ·(try dsimp only)
  exact HLM.out _ HB4.out
 clear hK K
 (try simp only [Act.put,ly])
 refine wpAnyH_ready (rs:=[6]) (by kernel_rfl) (by simp) ?_
 refine AllReadyH.cons rfl (fun K hK=>?_) AllReadyH.nil
 go_simp
 refine (mul_rat _ (fun _=>False) _ _ (p1:Rat) X2 (RatL.to (j2.len ((rsz_int (by omega) (by omega)).mono (show 2≤10000000 by omega)))) (RatL.to ((j3.len HZ2.out).mono (by omega)))).mono ?_
 rintro e u4 ⟨v4,rfl,j4,hb5⟩
 obtain ⟨b5,A5,m5,c5,b5',A5',m5',c5',rfl,j4, -, -⟩:=j4.op
 have y5:=hb5.size; (try simp only [zs] at y5)
 have HB5:Hid (Below w0.heap.size w0 u4):=HB4.out.trans (hb5.mono (by omega))
 (try go_wp2_with fail)
 refine hK.out _ _ ?_ (fun hHeld=>?_)
 ·(try dsimp only)
  exact HLM.out _ HB5.out
 clear hK K
 (try simp only [Act.put,ly])
 refine wpAnyH_ready (rs:=[8]) (by kernel_rfl) (by simp) ?_
 refine AllReadyH.cons rfl (fun K hK=>?_) AllReadyH.nil
 go_simp
 refine (ktotal_ok _ _ L2 (H2.out.keep (.of_below HB5.out)) HV2.out).mono ?_
 rintro e u5 ⟨he,hb6⟩
 rw [HT2.out] at he
 subst he
 have y6:=hb6.size; (try simp only [zs] at y6)
 have HB6:Hid (Below w0.heap.size w0 u5):=HB5.out.trans (hb6.mono (by omega))
 (try go_wp2_with fail)
 refine hK.out _ _ ?_ (fun hHeld=>?_)
 ·(try dsimp only)
  exact HLM.out _ HB6.out
 clear hK K
 (try simp only [Act.put,ly])
 refine wpAnyH_ready (rs:=[9]) (by kernel_rfl) (by simp) ?_
 refine AllReadyH.cons rfl (fun K hK=>?_) AllReadyH.nil
 go_simp
 refine (kwhole_any _ p2 (by omega) (by omega)).mono ?_
 rintro e u6 ⟨v6,rfl,j6,hb7⟩
 obtain ⟨b7,A7,m7,c7,b7',A7',m7',c7',rfl,j6, -, -⟩:=j6.op
 have y7:=hb7.size; (try simp only [zs] at y7)
 have HB7:Hid (Below w0.heap.size w0 u6):=HB6.out.trans (hb7.mono (by omega))
 (try go_wp2_with fail)
 refine hK.out _ _ ?_ (fun hHeld=>?_)
 ·(try dsimp only)
  exact HLM.out _ HB7.out
 clear hK K
 (try simp only [Act.put,ly])
 refine wpAnyH_ready (rs:=[12]) (by kernel_rfl) (by simp) ?_
 refine AllReadyH.cons rfl (fun K hK=>?_) AllReadyH.nil
 go_simp
 refine (kvalue_any _ _ _ L1 Kn k B N F (H1.out.keep (.of_below HB7.out)) HV1.out (Mat.keep H.out (.of_below HB7.out)) HN1.out hKn HW1.out (by rw [HR.out]; exact hL) hk1 hk HBB.out hB2).mono ?_
 rintro e u7 ⟨v7,rfl,j7,hb8⟩
 rw [HX1.out] at j7
 obtain ⟨b8,A8,m8,c8,b8',A8',m8',c8',rfl,j7, -, -⟩:=j7.op
 have y8:=hb8.size; (try simp only [zs] at y8)
 have HB8:Hid (Below w0.heap.size w0 u7):=HB7.out.trans (hb8.mono (by omega))
 (try go_wp2_with fail)
 refine hK.out _ _ ?_ (fun hHeld=>?_)
 ·(try dsimp only)
  exact HLM.out _ HB8.out
 clear hK K
 (try simp only [Act.put,ly])
 refine wpAnyH_ready (rs:=[13]) (by kernel_rfl) (by simp) ?_
 refine AllReadyH.cons rfl (fun K hK=>?_) AllReadyH.nil
 go_simp
 refine (mul_rat _ (fun _=>False) _ _ (p2:Rat) X1 (RatL.to (j6.len ((rsz_int (by omega) (by omega)).mono (show 2≤10000000 by omega)))) (RatL.to ((j7.len HZ1.out).mono (by omega)))).mono ?_
 rintro e u8 ⟨v8,rfl,j8,hb9⟩
 obtain ⟨b9,A9,m9,c9,b9',A9',m9',c9',rfl,j8, -, -⟩:=j8.op
 have y9:=hb9.size; (try simp only [zs] at y9)
 have HB9:Hid (Below w0.heap.size w0 u8):=HB8.out.trans (hb9.mono (by omega))
 (try go_wp2_with fail)
 refine hK.out _ _ ?_ (fun hHeld=>?_)
 ·(try dsimp only)
  exact HLM.out _ HB9.out
 clear hK K
 (try simp only [Act.put,ly])
 refine wpAnyH_ready (rs:=[14]) (by kernel_rfl) (by simp) ?_
 refine AllReadyH.cons rfl (fun K hK=>?_) AllReadyH.nil
 go_simp
 refine (ratcompare_any _ (fun _=>False) _ _ ((p1:Rat)*X2) ((p2:Rat)*X1) (RatL.to ((j4.len HP1.out).mono (by omega))) (RatL.to ((j8.len HP2.out).mono (by omega)))).mono ?_
 rintro e u9 ⟨he,hb10⟩
 rw [HQ.out] at he
 subst he
 have y10:=hb10.size; (try simp only [zs] at y10)
 have HB10:Hid (Below w0.heap.size w0 u9):=HB9.out.trans (hb10.mono (by omega))
 (try go_wp2_with fail)
 refine hK.out _ _ ?_ (fun hHeld=>?_)
 ·(try dsimp only)
  exact HLM.out _ HB10.out
 clear hK K
 (try simp only [Act.put,ly])
 by_cases h0:0<q
 ·have HV:Hid (GN L1 L2 Kn N F):=HGN.out.1 h0
  have d1:decide (0<q)=true:=decide_eq_true h0
  clear HGN h0
  refine takeT 15 hHeld ?_
  (try simp only [Act.put,ly])
  refine takeT 16 hHeld ?_
  (try simp only [Act.put,ly])
  refine wpAnyH_done (by kernel_rfl) ?_ _
  refine NoPanic.normal ?_
  go_wp2_with fail
  go_ret
  exact ⟨Tells.yes HV.out,HBW.out _ HB10.out⟩
 ·have HV:Hid (¬ GN L1 L2 Kn N F):=fun h=>h0 (HGN.out.2 h)
  have d1:decide (0<q)=false:=decide_eq_false h0
  clear HGN h0
  refine takeT 15 hHeld ?_
  (try simp only [Act.put,ly])
  refine takeT 16 hHeld ?_
  (try simp only [Act.put,ly])
  refine wpAnyH_done (by kernel_rfl) ?_ _
  refine NoPanic.normal ?_
  go_wp2_with fail
  go_ret
  exact ⟨Tells.no HV.out,HBW.out _ HB10.out⟩
end Go.Proofs.YtbdcjhoedhhabaaGreat

