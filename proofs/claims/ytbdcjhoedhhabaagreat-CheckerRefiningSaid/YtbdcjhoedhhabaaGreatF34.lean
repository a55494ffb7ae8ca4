/- Contracts of the functions that the statements reach, part 34. -/
import Derived.Test.YtbdcjhoedhhabaaGreatRows
import Derived.Deep.CutBlock
import Derived.Test.YtbdcjhoedhhabaaGreatF2
import Derived.Test.YtbdcjhoedhhabaaGreatF33
set_option linter.unusedSimpArgs false
set_option linter.unusedVariables false

/- refinement.CheckWitness. -/
namespace Go.Proofs.YtbdcjhoedhhabaaGreat
open Go.RowKit
attribute [local go_sem ↓] Go.wp_at_zero Go.wp_at_succ

/-- The number of a channel's columns. -/
def wid (L:List (List Int)):Nat:=(L.getD 0 []).length
/-- A witness that the second channel refines the first. -/
def WIT (L1 L2:List (List Int)) (m:Nat) (N:Nat→Nat) (F:Nat→Nat→Rat):Prop:=
 VC L1∧VC L2∧L1.length=L2.length∧STO m N F∧m=wid L1∧N 0=wid L2∧
  ∀ x,x<L1.length→∀ z,z<wid L2→((tot L2:Int):Rat)*sm m (fun y=>ce L1 x y*F y z)=((tot L1:Int):Rat)*ce L2 x z
theorem rsumA_le:∀ (l:List Int) (t:Int),0≤t→rsumA t l ≠ -1→∀ z∈l,z≤1048576
 | [],t,_,_=>fun z hz=>by simp at hz
 | z :: l, t, h0, h => by
   unfold rsumA at h
   by_cases hc:z<0∨1048576 - t<z
   ·rw [if_pos hc] at h; exact absurd rfl h
   ·rw [if_neg hc] at h
    intro y hy
    rcases List.mem_cons.1 hy with rfl | hy
    ·omega
    ·exact rsumA_le l (t+z) (by omega) h y hy
theorem VC.tot {L:List (List Int)} (h:VC L):1≤tot L∧tot L≤1048576:=⟨h.2.2.2.2.1,(rsumA_range _ 0 (by decide) (by decide)).2⟩
theorem VC.row {L:List (List Int)} (h:VC L) {x:Nat} {l:List Int} (hl:L[x]? = some l):l.length=wid L∧∀ z∈l,0≤z∧z≤1048576:=by
 obtain ⟨h1,h2,h3,h4,h5,h6⟩:=h
 obtain ⟨a,b⟩:=h6 l (List.mem_of_getElem? hl)
 have hne:rsumA 0 l ≠ -1:=by rw [b]; omega
 obtain ⟨c, -, -⟩:=rsumA_ok l 0 (by decide) (by decide) hne
 exact ⟨a,fun z hz=>⟨c z hz,rsumA_le l 0 (by decide) hne z hz⟩⟩
theorem ce_get {L:List (List Int)} {x y:Nat} {l:List Int} {z:Int} (hl:L[x]? = some l) (hz:l[y]? = some z):ce L x y=(z:Rat):=by
 unfold ce
 rw [List.getD_eq_getElem?_getD,List.getD_eq_getElem?_getD,hl,Option.getD_some,hz,Option.getD_some]
theorem VC.entry {L:List (List Int)} (h:VC L) (x y:Nat) (hx:x<L.length) (hy:y<wid L):∃ z:Int,ce L x y=(z:Rat)∧0≤z∧z≤1048576:=by
 have hl:=List.getElem?_eq_getElem hx
 obtain ⟨a,b⟩:=h.row hl
 have hz:=List.getElem?_eq_getElem (l:=L[x]) (i:=y) (by omega)
 obtain ⟨c,d⟩:=b _ (List.mem_of_getElem? hz)
 exact ⟨_,ce_get hl hz,c,d⟩
theorem VC.ce_rsz {L:List (List Int)} (h:VC L) {x y:Nat} (hx:x<L.length) (hy:y<wid L):Rsz 2 (ce L x y):=by
 obtain ⟨z,e,h0,h1⟩:=h.entry x y hx hy
 rw [e]
 exact rsz_int (by omega) (by omega)
theorem Mat.rsz {w:World} {X:Nat→Prop} {v:Value} {m k:Nat} {N:Nat→Nat} {F:Nat→Nat→Rat} (h:Mat k w X v m N F) (hk:1≤k):∀ i,i<m→∀ j,j<N i→Rsz k (F i j):=fun i hi j hj=>by
 obtain ⟨A,c,rfl,h, -, -⟩:=h.op
 obtain ⟨a,B,d, -, -, -, -,hn, -, -⟩:=Mat.at h hi
 exact hn.rsz hk j hj
theorem wsum_rsz {L:List (List Int)} {m k x z:Nat} {F:Nat→Nat→Rat} (h:VC L) (hx:x<L.length) (hm:m=wid L) (hm2:m≤200) (hF:∀ i,i<m→Rsz k (F i z)) (hk:k≤1990):∀ i,i≤m→Rsz 900000 (sm i (fun y=>ce L x y*F y z)):=fun i hi=>
 dot_rsz (k:=k+2) (fun j hj=>(h.ce_rsz hx (by omega)).mono (by omega)) (fun j hj=>(hF j (by omega)).mono (by omega)) (by omega) (by omega)

set_option maxRecDepth 100000 in
set_option maxHeartbeats 16000000 in
theorem checkWitness_any (w:World) (v1 v2 vw:Value) (L1 L2:List (List Int)) (m k:Nat) (N:Nat→Nat) (F:Nat→Nat→Rat) (h1:IMat w v1 L1) (h2:IMat w v2 L2) (h:Mat k w (fun _=>False) vw m N F)
 (hm:m≤200) (hN:∀ i,i<m→N i≤200) (hk1:1≤k) (hk:k≤1990) :
 Calls Tryz.prog 167 #[.agg #[v1], .agg #[v2],vw] w fun e w'=>Tells (WIT L1 L2 m N F) e∧Below w.heap.size w w':=by
 have H1:=Lib.hid h1
 have H2:=Lib.hid h2
 have H:=Lib.hid h
 have HNN:=Lib.hid hN
 have HFZ:=Lib.hid (h.rsz hk1)
 obtain ⟨A1,c1,rfl, -,la1,la2⟩:=h1.op
 obtain ⟨A2,c2,rfl, -,lb1,lb2⟩:=h2.op
 obtain ⟨A,cA,rfl, -,l1,l2⟩:=h.op
 obtain ⟨r,hr⟩:∃ r,L1.length=r:=⟨_,rfl⟩
 obtain ⟨s,hs⟩:∃ s,L2.length=s:=⟨_,rfl⟩
 have HR:=Lib.hid hr
 have HS:=Lib.hid hs
 rw [hr] at la1 H1
 rw [hs] at lb1 H2
 rw [hr,hs]
 have L:=made1 w #[.slice A1 r c1] 120
 have M:=made2 w (.cells #[.slice A1 r c1] 120) #[.slice A2 s c2] 120
 have HLM:Hid (∀ W,Below (w.heap.size+1+1) ((w.alloc (.cells #[.slice A1 r c1] 120)).alloc (.cells #[.slice A2 s c2] 120)) W→W.cell? ⟨w.heap.size,0,none⟩=some (.slice A1 r c1)∧W.cell? ⟨w.heap.size+1,0,none⟩=some (.slice A2 s c2)):=fun W hW=>
  ⟨Loc.cell ((L.alloc _).below' hW (by omega)) 0,Loc.cell (M.below' hW (by omega)) 0⟩
 clear h1 h2 hr hs hN
 by_cases hp:VC L1∧VC L2∧L1.length=L2.length
 case neg=>
  have HV:Hid (¬ WIT L1 L2 m N F):=fun h=>hp ⟨h.1,h.2.1,h.2.2.1⟩
  clear h
  go_enter Tryz.func167,Tryz.ntmps167
  go_wp2_with fail
  refine wp_region_noPanic ?_
  refine wp_region_held_drew (S:=(fun W=>W.cell? ⟨w.heap.size,0,none⟩=some (.slice A1 r c1)∧W.cell? ⟨w.heap.size+1,0,none⟩=some (.slice A2 s c2))) (by kernel_rfl) ?_ (fun hHeld=>?_)
  ·exact HLM.out _ bel
  refine takeT 0 hHeld ?_
  (try simp only [Act.put,ly])
  refine takeT 1 hHeld ?_
  (try simp only [Act.put,ly])
  refine wpAnyH_ready (rs:=[2]) (by kernel_rfl) (by simp) ?_
  refine AllReadyH.cons rfl (fun K hK=>?_) AllReadyH.nil
  go_simp
  refine (pair_any _ _ _ L1 L2 (H1.out.keep kp) (H2.out.keep kp)).mono ?_
  rintro e w1 ⟨code,rfl,HP,hb1⟩
  have y1:=hb1.size; (try simp only [zs] at y1)
  (try go_wp2_with fail)
  refine hK.out _ _ ?_ (fun hHeld=>?_)
  ·(try dsimp only)
   exact HLM.out _ bel
  clear hK K
  (try simp only [Act.put,ly])
  have hp1:code=1∨code=2:=by
   by_cases h0:VC L1∧VC L2
   ·exact .inr (HP.out.2.1 h0 (fun h=>hp ⟨h0.1,h0.2,h⟩))
   ·exact .inl (HP.out.1 h0)
  have d1:(code == 0)=false:=beq_eq_false_iff_ne.2 (by omega)
  have d2:(code != 0)=true:=bne_iff_ne.2 (by omega)
  clear hp hp1 HP
  refine takeT 3 hHeld ?_
  (try simp only [Act.put,ly])
  refine takeT 4 hHeld ?_
  (try simp only [Act.put,ly])
  refine offT 5 hHeld ?_
  refine offT 6 hHeld ?_
  refine offT 7 hHeld ?_
  (try simp only [Act.put,ly])
  refine takeT 8 hHeld ?_
  (try simp only [Act.put,ly])
  refine takeT 9 hHeld ?_
  (try simp only [Act.put,ly])
  refine offT 10 hHeld ?_
  refine offT 11 hHeld ?_
  refine offT 12 hHeld ?_
  refine offT 13 hHeld ?_
  refine offT 14 hHeld ?_
  refine offT 15 hHeld ?_
  refine offT 16 hHeld ?_
  refine offT 17 hHeld ?_
  (try simp only [Act.put,ly])
  refine takeT 18 hHeld ?_
  (try simp only [Act.put,ly])
  refine takeT 19 hHeld ?_
  (try simp only [Act.put,ly])
  refine offT 20 hHeld ?_
  refine offT 21 hHeld ?_
  refine offT 22 hHeld ?_
  refine offT 23 hHeld ?_
  refine offT 24 hHeld ?_
  refine offT 25 hHeld ?_
  refine offT 26 hHeld ?_
  refine offT 27 hHeld ?_
  refine offT 28 hHeld ?_
  refine offT 29 hHeld ?_
  (try simp only [Act.put,ly])
  refine takeT 30 hHeld ?_
  (try simp only [Act.put,ly])
  refine wpAnyH_done (by kernel_rfl) ?_ _
  refine NoPanic.normal ?_
  go_wp2_with fail
  go_ret
  exact ⟨Tells.no HV.out,bel⟩
 have HP1:=Lib.hid hp
 clear hp
 by_cases hst:STO m N F
 case neg=>
  have HV:Hid (¬ WIT L1 L2 m N F):=fun h=>hst h.2.2.2.1
  have HST:Hid (¬ STO m N F):=hst
  clear hst h
  go_enter Tryz.func167,Tryz.ntmps167
  go_wp2_with fail
  refine wp_region_noPanic ?_
  refine wp_region_held_drew (S:=(fun W=>W.cell? ⟨w.heap.size,0,none⟩=some (.slice A1 r c1)∧W.cell? ⟨w.heap.size+1,0,none⟩=some (.slice A2 s c2))) (by kernel_rfl) ?_ (fun hHeld=>?_)
  ·exact HLM.out _ bel
  refine takeT 0 hHeld ?_
  (try simp only [Act.put,ly])
  refine takeT 1 hHeld ?_
  (try simp only [Act.put,ly])
  refine wpAnyH_ready (rs:=[2]) (by kernel_rfl) (by simp) ?_
  refine AllReadyH.cons rfl (fun K hK=>?_) AllReadyH.nil
  go_simp
  refine (pair_any _ _ _ L1 L2 (H1.out.keep kp) (H2.out.keep kp)).mono ?_
  rintro e w1 ⟨code,rfl,HP,hb1⟩
  have y1:=hb1.size; (try simp only [zs] at y1)
  obtain rfl:code=0:=HP.out.2.2 ⟨HP1.out.1,HP1.out.2.1⟩ HP1.out.2.2
  clear HP
  (try go_wp2_with fail)
  refine hK.out _ _ ?_ (fun hHeld=>?_)
  ·(try dsimp only)
   exact HLM.out _ bel
  clear hK K
  (try simp only [Act.put,ly])
  refine takeT 3 hHeld ?_
  (try simp only [Act.put,ly])
  refine takeT 4 hHeld ?_
  (try simp only [Act.put,ly])
  refine takeT 5 hHeld ?_
  (try simp only [Act.put,ly])
  refine wpAnyH_ready (rs:=[6]) (by kernel_rfl) (by simp) ?_
  refine AllReadyH.cons rfl (fun K hK=>?_) AllReadyH.nil
  go_simp
  refine (stochastic_any _ _ m k N F (H.out.keep kp) HNN.out hk1 (by omega)).mono ?_
  rintro e w2 ⟨he,hb2⟩
  have y2:=hb2.size; (try simp only [zs] at y2)
  have he:=he.eq (b:=false) ⟨fun h=>(by cases h),fun h=>absurd h HST.out⟩
  subst he
  (try go_wp2_with fail)
  refine hK.out _ _ ?_ (fun hHeld=>?_)
  ·(try dsimp only)
   exact HLM.out _ bel
  clear hK K
  (try simp only [Act.put,ly])
  refine takeT 7 hHeld ?_
  (try simp only [Act.put,ly])
  refine takeT 8 hHeld ?_
  (try simp only [Act.put,ly])
  refine takeT 9 hHeld ?_
  (try simp only [Act.put,ly])
  refine offT 10 hHeld ?_
  refine offT 11 hHeld ?_
  refine offT 12 hHeld ?_
  refine offT 13 hHeld ?_
  refine offT 14 hHeld ?_
  refine offT 15 hHeld ?_
  refine offT 16 hHeld ?_
  refine offT 17 hHeld ?_
  (try simp only [Act.put,ly])
  refine takeT 18 hHeld ?_
  (try simp only [Act.put,ly])
  refine takeT 19 hHeld ?_
  (try simp only [Act.put,ly])
  refine offT 20 hHeld ?_
  refine offT 21 hHeld ?_
  refine offT 22 hHeld ?_
  refine offT 23 hHeld ?_
  refine offT 24 hHeld ?_
  refine offT 25 hHeld ?_
  refine offT 26 hHeld ?_
  refine offT 27 hHeld ?_
  refine offT 28 hHeld ?_
  refine offT 29 hHeld ?_
  (try simp only [Act.put,ly])
  refine takeT 30 hHeld ?_
  (try simp only [Act.put,ly])
  refine wpAnyH_done (by kernel_rfl) ?_ _
  refine NoPanic.normal ?_
  go_wp2_with fail
  go_ret
  exact ⟨Tells.no HV.out,bel⟩
 have HST:=Lib.hid hst
 have hm1:0<m:=hst.1.1
 obtain ⟨n2,hn2⟩:∃ n2,wid L2=n2:=⟨_,rfl⟩
 obtain ⟨n1,hn1⟩:∃ n1,wid L1=n1:=⟨_,rfl⟩
 obtain ⟨n0,hn0⟩:∃ n0,N 0=n0:=⟨_,rfl⟩
 have hr2:r≤256:=by have:=HP1.out.1.2.1; have:=HR.out; omega
 have hr1:0<r:=by have:=HP1.out.1.1; have:=HR.out; omega
 have hs1:0<s:=by have:=HP1.out.2.1.1; have:=HS.out; omega
 obtain ⟨l1',he1⟩:∃ l,L1[0]? = some l:=⟨_,List.getElem?_eq_getElem (by have:=HR.out; omega)⟩
 obtain ⟨l2',he2⟩:∃ l,L2[0]? = some l:=⟨_,List.getElem?_eq_getElem (by have:=HS.out; omega)⟩
 obtain ⟨a1,D1,d1,rfl,hab1,hcell1, -,lc1, -⟩:=H1.out.at he1
 obtain ⟨a2,D2,d2,rfl,hab2,hcell2, -,lc2, -⟩:=H2.out.at he2
 obtain ⟨a0,D0,d0,rfl,hab0, -,hcell0, -,lc0, -⟩:=Mat.at h hm1
 rw [(HP1.out.1.row he1).1,hn1] at hcell1 lc1
 rw [(HP1.out.2.1.row he2).1,hn2] at hcell2 lc2
 rw [hn0] at hcell0 lc0
 rw [addr_zero] at hcell1 hcell2 hcell0
 have HN0:=Lib.hid hn0
 have HN1:=Lib.hid hn1
 have HN2:=Lib.hid hn2
 have HSS:Hid (∀ W,Below w.heap.size w W→W.cell? ⟨w.heap.size,0,none⟩=some (.slice (some a1) r c1)∧W.cell? ⟨w.heap.size+1,0,none⟩=some (.slice (some a2) s c2)→((W.cell? ⟨w.heap.size,0,none⟩=some (.slice (some a1) r c1)∧W.cell? ⟨w.heap.size+1,0,none⟩=some (.slice (some a2) s c2))∧W.cell? a1=some (.slice D1 n1 d1))∧W.cell? a2=some (.slice D2 n2 d2)∧W.cell? a0=some (.slice D0 n0 d0)):=fun W hW hL=>
  ⟨⟨hL,cell_keep (X:=fun _=>False) hcell1 hab1 id (.of_below hW)⟩,cell_keep (X:=fun _=>False) hcell2 hab2 id (.of_below hW),cell_keep (X:=fun _=>False) hcell0 hab0 id (.of_below hW)⟩
 have i1:(0:Int)<(r:Int):=by omega
 have i2:(0:Int)<(s:Int):=by omega
 have i3:(0:Int)<(m:Int):=by omega
 clear he1 he2 hcell1 hcell2 hcell0 hn0 hn1 hn2 h hst
 go_enter Tryz.func167,Tryz.ntmps167
 go_wp2_with fail
 go_upto_region 1 with fail
 go_cut [45] (fun v W=>∃ b:Bool,v = .bool b∧Hid (b=false↔m=n1∧n0=n2)∧Loc W w.heap.size 120 #[.slice (some a1) r c1]∧Loc W (w.heap.size+1) 120 #[.slice (some a2) s c2]∧Below w.heap.size w W)
 case first=>
  go_wp2_with fail
  refine wp_region_noPanic ?_
  refine wp_region_held_drew (S:=(fun W=>((W.cell? ⟨w.heap.size,0,none⟩=some (.slice (some a1) r c1)∧W.cell? ⟨w.heap.size+1,0,none⟩=some (.slice (some a2) s c2))∧W.cell? a1=some (.slice D1 n1 d1))∧W.cell? a2=some (.slice D2 n2 d2)∧W.cell? a0=some (.slice D0 n0 d0))) (by kernel_rfl) ?_ (fun hHeld=>?_)
  ·exact HSS.out _ bel (HLM.out _ bel)
  refine takeT 0 hHeld ?_
  (try simp only [Act.put,ly])
  refine takeT 1 hHeld ?_
  (try simp only [Act.put,ly])
  refine wpAnyH_ready (rs:=[2]) (by kernel_rfl) (by simp) ?_
  refine AllReadyH.cons rfl (fun K hK=>?_) AllReadyH.nil
  go_simp
  refine (pair_any _ _ _ L1 L2 (H1.out.keep kp) (H2.out.keep kp)).mono ?_
  rintro e w1 ⟨code,rfl,HP,hb1⟩
  have y1:=hb1.size; (try simp only [zs] at y1)
  obtain rfl:code=0:=HP.out.2.2 ⟨HP1.out.1,HP1.out.2.1⟩ HP1.out.2.2
  clear HP
  (try go_wp2_with fail)
  refine hK.out _ _ ?_ (fun hHeld=>?_)
  ·(try dsimp only)
   exact HSS.out _ bel (HLM.out _ bel)
  clear hK K
  (try simp only [Act.put,ly])
  refine takeT 3 hHeld ?_
  (try simp only [Act.put,ly])
  refine takeT 4 hHeld ?_
  (try simp only [Act.put,ly])
  refine takeT 5 hHeld ?_
  (try simp only [Act.put,ly])
  refine wpAnyH_ready (rs:=[6]) (by kernel_rfl) (by simp) ?_
  refine AllReadyH.cons rfl (fun K hK=>?_) AllReadyH.nil
  go_simp
  refine (stochastic_any _ _ m k N F (H.out.keep kp) HNN.out hk1 (by omega)).mono ?_
  rintro e w2 ⟨he,hb2⟩
  have y2:=hb2.size; (try simp only [zs] at y2)
  have he:=he.eq (b:=true) ⟨fun _=>HST.out,fun _=>rfl⟩
  subst he
  have HL2:Hid (Loc w2 w.heap.size 120 #[.slice (some a1) r c1]):=L.to
  have HM2:Hid (Loc w2 (w.heap.size+1) 120 #[.slice (some a2) s c2]):=M.to
  (try go_wp2_with fail)
  refine hK.out _ _ ?_ (fun hHeld=>?_)
  ·(try dsimp only)
   exact HSS.out _ bel (HLM.out _ bel)
  clear hK K
  (try simp only [Act.put,ly])
  refine takeT 7 hHeld ?_
  (try simp only [Act.put,ly])
  refine takeT 8 hHeld ?_
  (try simp only [Act.put,ly])
  refine takeT 9 hHeld ?_
  (try simp only [Act.put,ly])
  refine takeT 10 hHeld ?_
  (try simp only [Act.put,ly])
  refine takeT 11 hHeld ?_
  (try simp only [Act.put,ly])
  refine takeT 12 hHeld ?_
  (try simp only [Act.put,ly])
  refine takeT 13 hHeld ?_
  (try simp only [Act.put,ly])
  refine takeT 14 hHeld ?_
  (try simp only [Act.put,ly])
  refine takeT 15 hHeld ?_
  (try simp only [Act.put,ly])
  refine takeT 16 hHeld ?_
  (try simp only [Act.put,ly])
  by_cases h5:m=n1
  case neg=>
   have d1:((m:Int) == (n1:Int))=false:=beq_eq_false_iff_ne.2 (by omega)
   have d2:((m:Int) != (n1:Int))=true:=bne_iff_ne.2 (by omega)
   have HB:Hid (true=false↔m=n1∧n0=n2):=⟨fun h=>(by cases h),fun h=>absurd h.1 h5⟩
   clear h5
   refine takeT 17 hHeld ?_
   (try simp only [Act.put,ly])
   refine takeT 18 hHeld ?_
   (try simp only [Act.put,ly])
   refine takeT 19 hHeld ?_
   (try simp only [Act.put,ly])
   refine offT 20 hHeld ?_
   refine offT 21 hHeld ?_
   refine offT 22 hHeld ?_
   refine offT 23 hHeld ?_
   refine offT 24 hHeld ?_
   refine offT 25 hHeld ?_
   refine offT 26 hHeld ?_
   refine offT 27 hHeld ?_
   refine offT 28 hHeld ?_
   refine offT 29 hHeld ?_
   (try simp only [Act.put,ly])
   refine takeT 30 hHeld ?_
   (try simp only [Act.put,ly])
   refine wpAnyH_done (by kernel_rfl) ?_ _
   refine NoPanic.normal ?_
   go_wp2_with fail
   go_meet
   exact ⟨true,rfl,HB,HL2.out,HM2.out,bel⟩
  have d1:((m:Int) == (n1:Int))=true:=beq_iff_eq.2 (by omega)
  have d2:((m:Int) != (n1:Int))=false:=by simp only [bne,d1]; rfl
  have HE:=Lib.hid h5
  clear h5
  refine takeT 17 hHeld ?_
  (try simp only [Act.put,ly])
  refine takeT 18 hHeld ?_
  (try simp only [Act.put,ly])
  refine takeT 19 hHeld ?_
  (try simp only [Act.put,ly])
  refine takeT 20 hHeld ?_
  (try simp only [Act.put,ly])
  refine takeT 21 hHeld ?_
  (try simp only [Act.put,ly])
  refine takeT 22 hHeld ?_
  (try simp only [Act.put,ly])
  refine takeT 23 hHeld ?_
  (try simp only [Act.put,ly])
  refine takeT 24 hHeld ?_
  (try simp only [Act.put,ly])
  refine takeT 25 hHeld ?_
  (try simp only [Act.put,ly])
  refine takeT 26 hHeld ?_
  (try simp only [Act.put,ly])
  refine takeT 27 hHeld ?_
  (try simp only [Act.put,ly])
  refine takeT 28 hHeld ?_
  (try simp only [Act.put,ly])
  by_cases h6:n0=n2
  case neg=>
   have d3:((n0:Int) == (n2:Int))=false:=beq_eq_false_iff_ne.2 (by omega)
   have d4:((n0:Int) != (n2:Int))=true:=bne_iff_ne.2 (by omega)
   have HB:Hid (true=false↔m=n1∧n0=n2):=⟨fun h=>(by cases h),fun h=>absurd h.2 h6⟩
   clear h6
   refine takeT 29 hHeld ?_
   (try simp only [Act.put,ly])
   refine takeT 30 hHeld ?_
   (try simp only [Act.put,ly])
   refine wpAnyH_done (by kernel_rfl) ?_ _
   refine NoPanic.normal ?_
   go_wp2_with fail
   go_meet
   exact ⟨true,rfl,HB,HL2.out,HM2.out,bel⟩
  have d3:((n0:Int) == (n2:Int))=true:=beq_iff_eq.2 (by omega)
  have d4:((n0:Int) != (n2:Int))=false:=by simp only [bne,d3]; rfl
  have HE6:=Lib.hid h6
  clear h6
  refine takeT 29 hHeld ?_
  (try simp only [Act.put,ly])
  refine takeT 30 hHeld ?_
  (try simp only [Act.put,ly])
  refine wpAnyH_done (by kernel_rfl) ?_ _
  refine NoPanic.normal ?_
  go_wp2_with fail
  go_meet
  exact ⟨false,rfl,⟨fun _=>⟨HE.out,HE6.out⟩,fun _=>rfl⟩,HL2.out,HM2.out,bel⟩
 case rest=>
  obtain ⟨b,rfl,HB,NL,NM,hB⟩:=hcut
  obtain ⟨w3,rfl⟩:∃ w3:World,w3=wc:=⟨_,rfl⟩
  clear L M HLM
  have y3:=hB.size; (try simp only [zs] at y3)
  have q1:=NL.lt
  have q2:=NM.lt
  cases b
  case true=>
   have HV:Hid (¬ WIT L1 L2 m N F):=fun h=>by
    have:true=false:=HB.out.2 ⟨by rw [←HN1.out]; exact h.2.2.2.2.1,by rw [←HN0.out,← HN2.out]; exact h.2.2.2.2.2.1⟩
    cases this
   clear HB
   go_wp2_with fail
   go_ret
   exact ⟨Tells.no HV.out,hB⟩
  obtain ⟨rfl,rfl⟩:=HB.out.1 rfl
  clear HB
  obtain ⟨e1,f1, -⟩:=NL.all (w':=w3)
  obtain ⟨e2,f2, -⟩:=NM.all (w':=w3)
  go_wp2_with fail
  clear e1 f1 e2 f2
  obtain ⟨p1,hp1⟩:∃ p,tot L1=p:=⟨_,rfl⟩
  obtain ⟨p2,hp2⟩:∃ p,tot L2=p:=⟨_,rfl⟩
  have ht1:=HP1.out.1.tot
  have ht2:=HP1.out.2.1.tot
  rw [hp1] at ht1
  rw [hp2] at ht2
  have HT1:=Lib.hid hp1
  have HT2:=Lib.hid hp2
  have HN3:Hid (∀ i,i<m→N i=n0):=fun i hi=>by rw [←HN0.out]; exact (HST.out.1.2.2 i hi).1
  have hn200:n0≤200:=by rw [←HN0.out]; exact HNN.out 0 hm1
  clear hp1 hp2
  go_loopw [49] (fun i wr=>∃ (x:Nat),x≤r∧i = .int .i64 x∧Hid (∀ x',x'<x→∀ z,z<n0→((p2:Int):Rat)*sm m (fun y=>ce L1 x' y*F y z)=((p1:Int):Rat)*ce L2 x' z)∧
   Loc wr w.heap.size 120 #[.slice (some a1) r c1]∧Loc wr (w.heap.size+1) 120 #[.slice (some a2) s c2]∧Below w.heap.size w wr) (fun i _=>r - (intOf i).toNat)
  case atStart=>exact ⟨0,by omega,rfl,Lib.hid (fun i hi=>absurd hi (by omega)),NL,NM,hB⟩
  case round=>
   obtain ⟨x,hx,rfl,hall,NLx,NMx,hBx⟩:=hrel
   obtain ⟨wx,rfl⟩:∃ wx:World,wx=wr:=⟨_,rfl⟩
   clear NL NM hB y3 q1 q2
   have yx:=hBx.size; (try simp only [zs] at yx)
   have q1:=NLx.lt
   have q2:=NMx.lt
   by_cases hlt:x<r
   ·obtain ⟨lx,hex⟩:∃ l,L1[x]? = some l:=⟨_,List.getElem?_eq_getElem (by have:=HR.out; omega)⟩
    obtain ⟨ly,hey⟩:∃ l,L2[x]? = some l:=⟨_,List.getElem?_eq_getElem (by have:=HS.out; have:=HP1.out.2.2; have:=HR.out; omega)⟩
    have hxs:x<s:=by have:=HS.out; have:=HP1.out.2.2; have:=HR.out; omega
    obtain ⟨a1',Dx,dx,ea,habx,hcellx,hintx,lcx,lmx⟩:=(H1.out.keep (.of_below hBx)).at hex
    injection ea with ea
    subst ea
    obtain ⟨a2',Dy,dy,ea,haby,hcelly,hinty,lcy,lmy⟩:=(H2.out.keep (.of_below hBx)).at hey
    injection ea with ea
    subst ea
    obtain ⟨a0',D0',d0',ea,hab0', -,hcell0, -,lc0', -⟩:=Mat.at (Mat.keep H.out (.of_below hBx)) hm1
    injection ea with ea
    subst ea
    rw [(HP1.out.1.row hex).1,HN1.out] at hcellx hintx lcx
    rw [(HP1.out.2.1.row hey).1,HN2.out] at hcelly hinty lcy
    rw [HN0.out,addr_zero] at hcell0
    have k0:(0:Int)≤(x:Int):=by omega
    have k1:(x:Int)<(r:Int):=by omega
    have k2:(x:Int)<(s:Int):=by omega
    obtain ⟨e1,f1, -⟩:=NLx.all (w':=wx)
    obtain ⟨e2,f2, -⟩:=NMx.all (w':=wx)
    have HX1:=Lib.hid hintx
    have HEX:=Lib.hid hex
    have HEY:=Lib.hid hey
    have HIY:=Lib.hid hinty
    have HCY:Hid (∀ W,Below wx.heap.size wx W→W.cell? (a2.add x)=some (.slice Dy n0 dy)):=fun W hW=>cell_keep (X:=fun _=>False) hcelly (by rw [addr_block]; exact haby) id (.of_below hW)
    clear hintx hinty hex hey hcelly
    go_wp2_with fail
    clear e1 f1 e2 f2 hcellx hcell0
    go_loopw [58] (fun i wr=>∃ (z:Nat),z≤n0∧i = .int .i64 z∧Hid (∀ z',z'<z→((p2:Int):Rat)*sm m (fun y=>ce L1 x y*F y z')=((p1:Int):Rat)*ce L2 x z')∧
     Loc wr w.heap.size 120 #[.slice (some a1) r c1]∧Loc wr (w.heap.size+1) 120 #[.slice (some a2) s c2]∧Below wx.heap.size wx wr) (fun i _=>n0 - (intOf i).toNat)
    case atStart=>exact ⟨0,by omega,rfl,Lib.hid (fun i hi=>absurd hi (by omega)),NLx,NMx,bel⟩
    case round=>
     obtain ⟨z,hz,rfl,hallz,NLz,NMz,hBz⟩:=hrel
     obtain ⟨wz,rfl⟩:∃ wz:World,wz=wr:=⟨_,rfl⟩
     clear NLx NMx
     have yz:=hBz.size; (try simp only [zs] at yz)
     have q3:=NLz.lt
     have q4:=NMz.lt
     have HBZ:=Lib.hid (hBx.trans (hBz.mono yx))
     have HBZ0:=Lib.hid hBz
     by_cases hltz:z<n0
     ·have k3:(0:Int)≤(z:Int):=by omega
      have k4:(z:Int)<(n0:Int):=by omega
      have HSM:Hid (∀ i,i≤m→Rsz 900000 (sm i (fun y=>ce L1 x y*F y z))):=wsum_rsz HP1.out.1 (by rw [HR.out]; exact hlt) HN1.out.symm hm (fun i hi=>HFZ.out i hi z (by rw [HN3.out i hi]; exact hltz)) hk
      clear hBz
      go_wp2_with fail
      refine (rwhole_any _ 0 (by decide) (by decide)).mono ?_
      rintro e w5 ⟨v5,rfl,i5,hb5⟩
      rw [show ((0:Int):Rat)=0 from rfl] at i5
      have y5:=hb5.size; (try simp only [zs] at y5)
      obtain ⟨b5,A5,m5,c5,b5',A5',m5',c5',rfl,i5, -, -⟩:=i5.op
      have T:=made1 w5 #[.bool b5, .slice A5 m5 c5, .bool b5', .slice A5' m5' c5'] 213
      have NLt:Loc w5 w.heap.size _ _:=NLz.to
      have NMt:Loc w5 (w.heap.size+1) _ _:=NMz.to
      go_wp2_with fail
      go_loopw [64] (fun i wr=>∃ (y:Nat) (q:R4),y≤m∧i = .int .i64 y∧Loc wr w5.heap.size 213 #[.bool q.b, .slice q.A q.m q.c, .bool q.b', .slice q.A' q.m' q.c']∧RatV wr (fun b=>b=w5.heap.size∨b<wz.heap.size) q.v (sm y (fun y=>ce L1 x y*F y z))∧
       Loc wr w.heap.size 120 #[.slice (some a1) r c1]∧Loc wr (w.heap.size+1) 120 #[.slice (some a2) s c2]∧Below wz.heap.size wz wr) (fun i _=>m - (intOf i).toNat)
      case atStart=>exact ⟨0,⟨b5,A5,m5,c5,b5',A5',m5',c5'⟩,by omega,rfl,T,RatV.out i5,NLt.to,NMt.to,bel⟩
      case round=>
       obtain ⟨y,q,hy,rfl,Ty,sy,NLy,NMy,hBy⟩:=hrel
       obtain ⟨wy,rfl⟩:∃ wy:World,wy=wr:=⟨_,rfl⟩
       obtain ⟨b6,A6,m6,c6,b6',A6',m6',c6'⟩:=q
       unfold R4.v at sy
       dsimp only at Ty sy
       clear i5 T NLt NMt
       have yy:=hBy.size; (try simp only [zs] at yy)
       have q5:=Ty.lt
       have q6:=NLy.lt
       have q7:=NMy.lt
       by_cases hlty:y<m
       ·obtain ⟨ny,hny⟩:∃ n,lx[y]? = some n:=⟨_,List.getElem?_eq_getElem (by have:=(HP1.out.1.row HEX.out).1; have:=HN1.out; omega)⟩
        have hny2:=(HP1.out.1.row HEX.out).2 ny (List.mem_of_getElem? hny)
        have HBY:Hid (Below wx.heap.size wx wy):=HBZ0.out.trans (hBy.mono yz)
        obtain ⟨ax,rfl,hbx,hcx, -, -⟩:=(HX1.out.keep (.of_below HBY.out)).at hny
        obtain ⟨a7,D7,d7,ea,hab7, -,hcell7,hnum7,lc7, -⟩:=Mat.at (Mat.keep H.out (.of_below (HBZ.out.trans (hBy.mono (by omega))))) hlty
        injection ea with ea
        subst ea
        rw [HN3.out y hlty] at hcell7 hnum7 lc7
        obtain ⟨a8,b8,A8,m8,c8,b8',A8',m8',c8',rfl,hab8, -,x0,x1,x2,x3,r8⟩:=Nums.at hnum7 hltz
        have HE:Hid (sm (y+1) (fun y=>ce L1 x y*F y z)=sm y (fun y=>ce L1 x y*F y z)+(ny:Rat)*F y z):=by
         show _=_
         rw [sm_succ,ce_get HEX.out hny]
        have HS1:=Lib.hid (HSM.out y hy)
        have HF1:Hid (Rsz k (F y z)):=HFZ.out y hlty z (by rw [HN3.out y hlty]; exact hltz)
        have HLS:Hid (∀ W,Keep (fun _=>False) wy W→((W.cell? ⟨w5.heap.size,0,none⟩=some (.bool b6)∧W.cell? ⟨w5.heap.size,1,none⟩=some (.slice A6 m6 c6))∧W.cell? ⟨w5.heap.size,2,none⟩=some (.bool b6')∧W.cell? ⟨w5.heap.size,3,none⟩=some (.slice A6' m6' c6'))∧
         (W.cell? (a0.add y)=some (.slice (some a8) n0 d7)∧W.cell? (a8.add (z*4))=some (.bool b8))∧(W.cell? ⟨(a8.add (z*4)).block,(a8.add (z*4)).off+1,none⟩=some (.slice A8 m8 c8)∧W.cell? ⟨(a8.add (z*4)).block,(a8.add (z*4)).off+2,none⟩=some (.bool b8'))∧W.cell? ⟨(a8.add (z*4)).block,(a8.add (z*4)).off+3,none⟩=some (.slice A8' m8' c8')):=fun W hW=>by
         have hb8:(a8.add (z*4)).block<wy.heap.size:=by rw [addr_block]; exact hab8
         exact ⟨⟨⟨cell_keep (Loc.c 0 Ty) q5 id hW,cell_keep (Loc.c 1 Ty) q5 id hW⟩,cell_keep (Loc.c 2 Ty) q5 id hW,cell_keep (Loc.c 3 Ty) q5 id hW⟩,⟨cell_keep hcell7 (by rw [addr_block]; exact hab7) id hW,cell_keep x0 hb8 id hW⟩,⟨cell_keep x1 hb8 id hW,cell_keep x2 hb8 id hW⟩,cell_keep x3 hb8 id hW⟩
        have k5:(0:Int)≤(y:Int):=by omega
        have k6:(y:Int)<(m:Int):=by omega
        clear hny hcell7 x0 x1 x2 x3
        go_upto_block 5 with fail
        go_cut [] from 66 to 81 (fun W=>∃ q:R4,Loc W w5.heap.size 213 #[.bool q.b, .slice q.A q.m q.c, .bool q.b', .slice q.A' q.m' q.c']∧RatV W (fun b=>b=w5.heap.size∨b<wz.heap.size) q.v (sm (y+1) (fun y=>ce L1 x y*F y z))∧
         Loc W w.heap.size 120 #[.slice (some a1) r c1]∧Loc W (w.heap.size+1) 120 #[.slice (some a2) s c2]∧Below wz.heap.size wz W)
        case first=>
         go_wp2_with fail
         refine wp_region_noPanic ?_
         refine wp_region_heldK (k:=12) (S:=(fun W=>((W.cell? ⟨w5.heap.size,0,none⟩=some (.bool b6)∧W.cell? ⟨w5.heap.size,1,none⟩=some (.slice A6 m6 c6))∧W.cell? ⟨w5.heap.size,2,none⟩=some (.bool b6')∧W.cell? ⟨w5.heap.size,3,none⟩=some (.slice A6' m6' c6'))∧(W.cell? (a0.add y)=some (.slice (some a8) n0 d7)∧W.cell? (a8.add (z*4))=some (.bool b8))∧(W.cell? ⟨(a8.add (z*4)).block,(a8.add (z*4)).off+1,none⟩=some (.slice A8 m8 c8)∧W.cell? ⟨(a8.add (z*4)).block,(a8.add (z*4)).off+2,none⟩=some (.bool b8'))∧W.cell? ⟨(a8.add (z*4)).block,(a8.add (z*4)).off+3,none⟩=some (.slice A8' m8' c8'))) (by kernel_rfl) ?_ (fun hHeld=>?_)
         ·exact HLS.out _ kp
         refine tkK 0 ?_
         (try simp only [Act.put,ly])
         refine puK 1 ?_
         (try simp only [Act.put,ly])
         refine puK 3 ?_
         (try simp only [Act.put,ly])
         refine puK 4 ?_
         (try simp only [Act.put,ly])
         refine puK 5 ?_
         (try simp only [Act.put,ly])
         refine tkK 6 ?_
         (try simp only [Act.put,ly])
         refine puK 7 ?_
         (try simp only [Act.put,ly])
         refine puK 8 ?_
         (try simp only [Act.put,ly])
         refine tkK 9 ?_
         (try simp only [Act.put,ly])
         refine wpAnyK_ready (rs:=[2]) (by kernel_rfl) (by simp) ?_
         refine AllReadyK.cons rfl (fun KK hKK=>?_) AllReadyK.nil
         go_simp
         refine (rwhole_any _ ny (by omega) (by omega)).mono ?_
         rintro e u1 ⟨v1,rfl,j1,hb1⟩
         obtain ⟨b11,A11,m11,c11,b11',A11',m11',c11',rfl,j1, -, -⟩:=j1.op
         have y11:=hb1.size; (try simp only [zs] at y11)
         (try go_wp2_with fail)
         refine hKK.out _ _ ?_ (fun hHeld=>?_)
         ·(try dsimp only)
          exact HLS.out _ kp
         clear hKK KK
         (try simp only [Act.put,ly])
         refine wpAnyK_ready (rs:=[10]) (by kernel_rfl) (by simp) ?_
         refine AllReadyK.cons rfl (fun KK hKK=>?_) AllReadyK.nil
         go_simp
         refine (mul_rat _ (fun _=>False) _ _ (ny:Rat) (F y z) (RatL.to (j1.len ((rsz_int (by omega) (by omega)).mono (show 2≤10000000 by omega)))) (RatL.to (r8.mono (by omega)))).mono ?_
         rintro e u2 ⟨v2,rfl,j2,hb2⟩
         obtain ⟨b12,A12,m12,c12,b12',A12',m12',c12',rfl,j2, -, -⟩:=j2.op
         have y12:=hb2.size; (try simp only [zs] at y12)
         (try go_wp2_with fail)
         refine hKK.out _ _ ?_ (fun hHeld=>?_)
         ·(try dsimp only)
          exact HLS.out _ kp
         clear hKK KK
         (try simp only [Act.put,ly])
         refine wpAnyK_ready (rs:=[11]) (by kernel_rfl) (by simp) ?_
         refine AllReadyK.cons rfl (fun KK hKK=>?_) AllReadyK.nil
         go_simp
         refine (add_rat _ (fun _=>False) _ _ (sm y (fun y=>ce L1 x y*F y z)) ((ny:Rat)*F y z) (RatL.to ((sy.len HS1.out).mono (by omega))) (RatL.to ((j2.len ((rsz_int (by omega) (by omega)).mul HF1.out)).mono (by omega)))).mono ?_
         rintro e u3 ⟨v3,rfl,j3,hb3⟩
         rw [←HE.out] at j3
         obtain ⟨b13,A13,m13,c13,b13',A13',m13',c13',rfl,j3, -, -⟩:=j3.op
         have y13:=hb3.size; (try simp only [zs] at y13)
         obtain ⟨e3,f3, -⟩:=Loc.all Ty (w':=u3)
         (try go_wp2_with fail)
         refine hKK.out _ _ ?_ (fun hHeld=>?_)
         ·(try dsimp only)
          exact HLS.out _ kp
         clear hKK KK
         (try simp only [Act.put,ly])
         refine wpAnyK_ready (rs:=[12]) (by kernel_rfl) (by simp) ?_
         refine AllReadyK.last (by kernel_rfl) rfl (fun KK hKK=>?_) AllReadyK.nil
         go_simp
         refine hKK.out _ _ ?_
         clear hKK KK
         (try simp only [Act.put,ly])
         refine wpAnyK_done (by kernel_rfl) ?_ _
         refine NoPanic.normal ?_
         go_wp2_with fail
         go_meet
         exact ⟨⟨b13,A13,m13,c13,b13',A13',m13',c13'⟩,Loc.fill4 (Loc.to Ty (w':=u3)),RatV.out j3,NLy.to,NMy.to,bel⟩
        case rest=>
         obtain ⟨q,T9,s9,NL9,NM9,hB9⟩:=hcut
         obtain ⟨w9,rfl⟩:∃ w9:World,w9=wc:=⟨_,rfl⟩
         go_wp2_with fail
         go_roundw
         case rel=>exact ⟨y+1,q,by omega,by go_num,T9,s9,NL9,NM9,hB9⟩
         case measure=>simp only [intOf]; omega
       ·obtain rfl:y=m:=by omega
        obtain ⟨SM,hSM⟩:∃ q,sm y (fun y=>ce L1 x y*F y z)=q:=⟨_,rfl⟩
        have HSZ:Hid (Rsz 900000 SM):=by show Rsz _ _; rw [←hSM]; exact HSM.out y (by omega)
        rw [hSM] at sy
        have HSE:=Lib.hid hSM
        obtain ⟨nz,hnz⟩:∃ n,ly[z]? = some n:=⟨_,List.getElem?_eq_getElem (by have:=(HP1.out.2.1.row HEY.out).1; have:=HN2.out; omega)⟩
        have hnz2:=(HP1.out.2.1.row HEY.out).2 nz (List.mem_of_getElem? hnz)
        have HCE:Hid (ce L2 x z=(nz:Rat)):=ce_get HEY.out hnz
        obtain ⟨ay,rfl,hby,hcy, -, -⟩:=HIY.out.at hnz
        have HBY:Hid (Below wx.heap.size wx wy):=HBZ0.out.trans (hBy.mono yz)
        have HLS:Hid (∀ W,Below wy.heap.size wy W→(W.cell? ⟨w.heap.size,0,none⟩=some (.slice (some a1) r c1)∧W.cell? ⟨w.heap.size+1,0,none⟩=some (.slice (some a2) s c2))∧W.cell? (a2.add x)=some (.slice (some ay) n0 dy)∧W.cell? (ay.add z)=some (.int .i64 nz)):=fun W hW=>
         ⟨⟨Loc.cell (NLy.below hW) 0,Loc.cell (NMy.below hW) 0⟩,HCY.out W (HBY.out.trans (hW.mono (by omega))),cell_keep (X:=fun _=>False) hcy (by rw [addr_block]; exact hby) id (.of_below (HBY.out.trans (hW.mono (by omega))))⟩
        have HTS:Hid (∀ W,Below wy.heap.size wy W→W.cell? ⟨w.heap.size+1,0,none⟩=some (.slice (some a2) s c2)∧(W.cell? ⟨w5.heap.size,0,none⟩=some (.bool b6)∧W.cell? ⟨w5.heap.size,1,none⟩=some (.slice A6 m6 c6))∧W.cell? ⟨w5.heap.size,2,none⟩=some (.bool b6')∧W.cell? ⟨w5.heap.size,3,none⟩=some (.slice A6' m6' c6')):=fun W hW=>
         ⟨Loc.cell (NMy.below hW) 0,⟨Loc.cell (Ty.below hW) 0,Loc.cell (Ty.below hW) 1⟩,Loc.cell (Ty.below hW) 2,Loc.cell (Ty.below hW) 3⟩
        have HBW:Hid (∀ W,Below wy.heap.size wy W→Below w.heap.size w W):=fun W hW=>HBZ.out.trans ((hBy.trans (hW.mono yy)).mono (by omega))
        have HPM:Hid (Rsz 900004 ((p2:Rat)*SM)):=((rsz_int (by omega) (by omega)).mul HSZ.out).mono (by omega)
        clear hSM hnz hcy
        go_upto_region 15 with fail
        go_cut [13] from 82 to 87 (fun v W=>∃ (g:Nat) (b7:Bool) (A7:Option Addr) (m7 c7:Nat) (b7':Bool) (A7':Option Addr) (m7' c7':Nat),v = .pointer (some ⟨g,0,none⟩)∧wy.heap.size≤g∧Loc W g 213 #[.bool b7, .slice A7 m7 c7, .bool b7', .slice A7' m7' c7']∧
         RatV W (fun b=>b<wy.heap.size) (.agg #[.bool b7, .slice A7 m7 c7, .bool b7', .slice A7' m7' c7']) ((p2:Rat)*SM)∧Below wy.heap.size wy W)
        case first=>
         go_wp2_with fail
         go_region_held3 (fun W=>W.cell? ⟨w.heap.size+1,0,none⟩=some (.slice (some a2) s c2)∧(W.cell? ⟨w5.heap.size,0,none⟩=some (.bool b6)∧W.cell? ⟨w5.heap.size,1,none⟩=some (.slice A6 m6 c6))∧W.cell? ⟨w5.heap.size,2,none⟩=some (.bool b6')∧W.cell? ⟨w5.heap.size,3,none⟩=some (.slice A6' m6' c6'))
          (exact HTS.out _ bel)
          (first
           | (go_at_call 287; refine (total_any _ _ L2 (H2.out.keep (.of_below (HBW.out _ bel))) HP1.out.2.1).mono ?_; rintro e u1 ⟨he,hb1⟩; rw [HT2.out] at he; subst he; have y11:=hb1.size; (try simp only [zs] at y11))
           | (go_at_call 286; refine (rwhole_any _ p2 (by omega) (by omega)).mono ?_; rintro e u2 ⟨v2,rfl,j2,hb2⟩; obtain ⟨b12,A12,m12,c12,b12',A12',m12',c12',rfl,j2, -, -⟩:=j2.op; have y12:=hb2.size; (try simp only [zs] at y12))
           | (go_at_call 293; refine (mul_rat _ (fun _ => False) _ _ (p2 : Rat) SM (RatL.to (j2.len ((rsz_int (by omega) (by omega)).mono (show 2 ≤ 10000000 by omega)))) (RatL.to ((sy.len HSZ.out).mono (by omega)))).mono ?_; rintro e u3 ⟨v3, rfl, j3, hb3⟩; obtain ⟨b13, A13, m13, c13, b13', A13', m13', c13', rfl, j3, -, -⟩ := j3.op; have y13 := hb3.size; (try simp only [zs] at y13); (first
             | (have h7:Loc u3 wy.heap.size 213 #[.bool false, .slice none 0 0, .bool false, .slice none 0 0]:=(made1 wy #[.bool false, .slice none 0 0, .bool false, .slice none 0 0] 213).to (w':=u3); obtain ⟨e7,g7,l7⟩:=h7.all (w':=u3))
             | (have h7:Loc u3 u1.heap.size 213 #[.bool false, .slice none 0 0, .bool false, .slice none 0 0]:=(made1 u1 #[.bool false, .slice none 0 0, .bool false, .slice none 0 0] 213).to (w':=u3); obtain ⟨e7,g7,l7⟩:=h7.all (w':=u3))
             | (have h7:Loc u3 u2.heap.size 213 #[.bool false, .slice none 0 0, .bool false, .slice none 0 0]:=(made1 u2 #[.bool false, .slice none 0 0, .bool false, .slice none 0 0] 213).to (w':=u3); obtain ⟨e7,g7,l7⟩:=h7.all (w':=u3))
             | skip)))
         all_goals
          go_wp2_with fail
          go_meet
          first
           | (have q:=Loc.fill4 (u:= .bool b13) (v:= .slice A13 m13 c13) (x:= .bool b13') (y:= .slice A13' m13' c13') h7; exact ⟨_,_,_,_,_,_,_,_,_,rfl,by omega,q,RatV.out j3,bel⟩)
           | exact ⟨_,_,_,_,_,_,_,_,_,rfl,by omega,made1 u3 _ _,RatV.out j3,bel⟩
        case rest=>
         obtain ⟨g7,b7,A7,m7,c7,b7',A7',m7',c7',rfl,hg7,T7,s7,hB7⟩:=hcut
         obtain ⟨w7,rfl⟩:∃ w7:World,w7=wc:=⟨_,rfl⟩
         have y7:=hB7.size; (try simp only [zs] at y7)
         obtain ⟨P,hP⟩:∃ P,p1*nz=P:=⟨_,rfl⟩
         have hPb:0≤P∧P≤1099511627776:=by
          have h1:0≤p1*nz:=Int.mul_nonneg (by omega) (by omega)
          have h2:p1*nz≤1048576*1048576:=Int.mul_le_mul ht1.2 hnz2.2 hnz2.1 (by omega)
          omega
         have hPw:IntKind.i64.wrap (p1*nz)=P:=by rw [hP,IntKind.wrap_i64]; omega
         have HPE:Hid ((P:Rat)=(p1:Rat)*ce L2 x z):=by show _=_; rw [HCE.out,← hP,Rat.intCast_mul]
         have q8:=T7.lt
         clear hP
         go_upto_region 16 with fail
         go_cut [14] from 87 to 99 (fun v W=>∃ (g:Nat) (b8:Bool) (A8:Option Addr) (m8 c8:Nat) (b8':Bool) (A8':Option Addr) (m8' c8':Nat),v = .pointer (some ⟨g,0,none⟩)∧w7.heap.size≤g∧Loc W g 213 #[.bool b8, .slice A8 m8 c8, .bool b8', .slice A8' m8' c8']∧
          RatV W (fun b=>b<w7.heap.size) (.agg #[.bool b8, .slice A8 m8 c8, .bool b8', .slice A8' m8' c8']) (P:Rat)∧Below w7.heap.size w7 W)
         case first=>
          go_wp2_with fail
          go_region_held3 (fun W=>(W.cell? ⟨w.heap.size,0,none⟩=some (.slice (some a1) r c1)∧W.cell? ⟨w.heap.size+1,0,none⟩=some (.slice (some a2) s c2))∧W.cell? (a2.add x)=some (.slice (some ay) n0 dy)∧W.cell? (ay.add z)=some (.int .i64 nz))
           (exact HLS.out _ bel)
           (first
            | (go_at_call 287; refine (total_any _ _ L1 (H1.out.keep (.of_below (HBW.out _ bel))) HP1.out.1).mono ?_; rintro e u1 ⟨he,hb1⟩; rw [HT1.out] at he; subst he; have y11:=hb1.size; (try simp only [zs] at y11))
            | (go_at_call 286; refine (rwhole_any _ P (by omega) (by omega)).mono ?_; rintro e u2 ⟨v2, rfl, j2, hb2⟩; obtain ⟨b12, A12, m12, c12, b12', A12', m12', c12', rfl, j2, -, -⟩ := j2.op; have y12 := hb2.size; (try simp only [zs] at y12); (first
              | (have h7:Loc u2 w7.heap.size 213 #[.bool false, .slice none 0 0, .bool false, .slice none 0 0]:=(made1 w7 #[.bool false, .slice none 0 0, .bool false, .slice none 0 0] 213).to (w':=u2); obtain ⟨e7,g7',l7⟩:=h7.all (w':=u2))
              | (have h7:Loc u2 u1.heap.size 213 #[.bool false, .slice none 0 0, .bool false, .slice none 0 0]:=(made1 u1 #[.bool false, .slice none 0 0, .bool false, .slice none 0 0] 213).to (w':=u2); obtain ⟨e7,g7',l7⟩:=h7.all (w':=u2))
              | skip)))
          all_goals
           go_wp2_with fail
           go_meet
           first
            | (have q:=Loc.fill4 (u:= .bool b12) (v:= .slice A12 m12 c12) (x:= .bool b12') (y:= .slice A12' m12' c12') h7; exact ⟨_,_,_,_,_,_,_,_,_,rfl,by omega,q,RatV.out j2,bel⟩)
            | exact ⟨_,_,_,_,_,_,_,_,_,rfl,by omega,made1 u2 _ _,RatV.out j2,bel⟩
         case rest=>
          obtain ⟨g8,b9,A9,m9,c9,b9',A9',m9',c9',rfl,hg8,T8,s8,hB8⟩:=hcut
          obtain ⟨w8,rfl⟩:∃ w8:World,w8=wc:=⟨_,rfl⟩
          have y8:=hB8.size; (try simp only [zs] at y8)
          have q9:=T8.lt
          have T7':Loc w8 g7 _ _:=T7.to
          obtain ⟨e7,f7, -⟩:=T7'.all (w':=w8)
          obtain ⟨e8,f8, -⟩:=T8.all (w':=w8)
          obtain ⟨q,hq⟩:∃ q,rcmp ((p2:Rat)*SM) (P:Rat)=q:=⟨_,rfl⟩
          have HQ:=Lib.hid hq
          have HZ:Hid (q=0↔(p2:Rat)*SM=(P:Rat)):=by show _↔_; rw [←hq]; exact rcmp_zero _ _
          clear hq
          go_wp2_with fail
          refine (ratcompare_any _ (fun _=>False) _ _ ((p2:Rat)*SM) (P:Rat) (RatL.to ((s7.len HPM.out).mono (by omega))) (RatL.to (s8.len ((rsz_int (by omega) (by omega)).mono (show 2≤10000000 by omega))))).mono ?_
          rintro e w10 ⟨he,hb10⟩
          rw [HQ.out] at he
          subst he
          have y14:=hb10.size; (try simp only [zs] at y14)
          have NLq:Loc w10 w.heap.size _ _:=Loc.to NLy
          have NMq:Loc w10 (w.heap.size+1) _ _:=Loc.to NMy
          have HB10:Hid (Below wx.heap.size wx w10):=HBY.out.trans ((bel:Below wy.heap.size wy w10).mono (by omega))
          by_cases h0:q=0
          ·have HV:Hid ((p2:Rat)*SM=(P:Rat)):=HZ.out.1 h0
           have d1:(q == 0)=true:=beq_iff_eq.2 h0
           have d2:(q != 0)=false:=by simp only [bne,d1]; rfl
           clear HZ h0 e7 f7 e8 f8
           go_wp2_with fail
           go_roundw
           case rel=>
            refine ⟨z+1,by omega,by go_num,Lib.hid (fun z' hz'=>?_),NLq,NMq,HB10.out⟩
            by_cases hzz:z'<z
            ·exact hallz.out z' hzz
            ·obtain rfl:z'=z:=by omega
             rw [HSE.out,HV.out,HPE.out]
           case measure=>simp only [intOf]; omega
          ·have HV:Hid (¬ WIT L1 L2 y N F):=fun h=>h0 (HZ.out.2 (by
            rw [HPE.out,← HSE.out,← HT1.out,← HT2.out]
            exact h.2.2.2.2.2.2 x (by rw [HR.out]; exact hlt) z (by rw [HN2.out]; exact hltz)))
           have d1:(q == 0)=false:=beq_eq_false_iff_ne.2 h0
           have d2:(q != 0)=true:=bne_iff_ne.2 h0
           clear HZ h0 e7 f7 e8 f8
           go_wp2_with fail
           go_ret
           exact ⟨Tells.no HV.out,hBx.trans (HB10.out.mono yx)⟩
     ·obtain rfl:z=n0:=by omega
      go_wp2_with fail
      go_roundw
      case rel=>
       refine ⟨x+1,by omega,by go_num,Lib.hid (fun x' hx'=>?_),NLz,NMz,HBZ.out⟩
       by_cases hxx:x'<x
       ·exact hall.out x' hxx
       ·obtain rfl:x'=x:=by omega
        exact hallz.out
      case measure=>simp only [intOf]; omega
   ·obtain rfl:x=r:=by omega
    have HV:Hid (WIT L1 L2 m N F):=⟨HP1.out.1,HP1.out.2.1,HP1.out.2.2,HST.out,HN1.out.symm,by rw [HN0.out,HN2.out],fun x hx z hz=>by
     rw [HT1.out,HT2.out]
     exact hall.out x (by rw [←HR.out]; exact hx) z (by rw [←HN2.out]; exact hz)⟩
    go_wp2_with fail
    go_ret
    exact ⟨Tells.yes HV.out,hBx⟩
end Go.Proofs.YtbdcjhoedhhabaaGreat

