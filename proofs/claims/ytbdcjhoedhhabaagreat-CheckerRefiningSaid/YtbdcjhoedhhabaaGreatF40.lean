/- Contracts of the functions that the statements reach, part 40. -/
import Derived.Test.YtbdcjhoedhhabaaGreatRows
import Derived.Test.YtbdcjhoedhhabaaGreatF27
import Derived.Test.YtbdcjhoedhhabaaGreatF38
import Derived.Test.YtbdcjhoedhhabaaGreatF39
set_option linter.unusedSimpArgs false
set_option linter.unusedVariables false

/- refinement.system's closures. -/
namespace Go.Proofs.YtbdcjhoedhhabaaGreat
open Go.RowKit
attribute [local go_sem ↓] Go.wp_at_zero Go.wp_at_succ

set_option maxHeartbeats 4000000 in
theorem at2_any (w:World) (y u z x:Nat) (tt:Int) (gz gt gc gx r c1 m d:Nat) (a1:Addr) (D:Option Addr) (lx:List Int) (n0:Int)
 (h1:w.cell? ⟨gz,0,none⟩=some (.int .i64 z)) (h2:w.cell? ⟨gt,0,none⟩=some (.int .i64 tt)) (h3:w.cell? ⟨gc,0,none⟩=some (.slice (some a1) r c1)) (h4:w.cell? ⟨gx,0,none⟩=some (.int .i64 x)) (h5:w.cell? (a1.add x)=some (.slice D m d))
 (hi:IntsV w (.slice D m d) lx) (hx:x<r) (hlx:lx[y]? = some n0) (hm:lx.length=m) (hn:0≤n0∧n0≤1048576) (ht:1≤tt∧tt≤1048576) :
 Calls Tryz.prog 288 #[.int .i64 y, .int .i64 u, .pointer (some ⟨gz,0,none⟩), .pointer (some ⟨gt,0,none⟩), .pointer (some ⟨gc,0,none⟩), .pointer (some ⟨gx,0,none⟩)] w fun e w'=>e = .returned (.int .i64 (if u=z then tt*n0 else 0))∧Below w.heap.size w w':=by
 by_cases huz:u=z
 ·subst huz
  obtain ⟨P,hP⟩:∃ P,tt*n0=P:=⟨_,rfl⟩
  have hPb:0≤P∧P≤1099511627776:=by
   have h1:0≤tt*n0:=Int.mul_nonneg (by omega) hn.1
   have h2:tt*n0≤1048576*1048576:=Int.mul_le_mul ht.2 hn.2 hn.1 (by omega)
   omega
  have hPw:IntKind.i64.wrap (tt*n0)=P:=by rw [hP,IntKind.wrap_i64]; omega
  rw [if_pos rfl,hP]
  obtain ⟨ax,rfl,hbx,hcx, -, -⟩:=hi.at hlx
  have hy:y<m:=by rw [←hm]; exact (List.getElem?_eq_some_iff.1 hlx).1
  have k0:(0:Int)≤(x:Int):=by omega
  have k1:(x:Int)<(r:Int):=by omega
  have k2:(0:Int)≤(y:Int):=by omega
  have k3:(y:Int)<(m:Int):=by omega
  have HP:=Lib.hid hP
  have HS:Hid (∀ W,Below w.heap.size w W→W.heap.size=w.heap.size→True):=fun _ _ _=>trivial
  clear hP hlx hm hi HS
  go_enter Tryz.func288,Tryz.ntmps288
  go_wp2_with fail
  refine wp_region_noPanic ?_
  refine wp_region_held_drew (S:=(fun W=>(W.cell? ⟨gt,0,none⟩=some (.int .i64 tt)∧W.cell? ⟨gc,0,none⟩=some (.slice (some a1) r c1))∧(W.cell? ⟨gx,0,none⟩=some (.int .i64 x)∧W.cell? (a1.add x)=some (.slice (some ax) m d))∧W.cell? (ax.add y)=some (.int .i64 n0))) (by kernel_rfl) ?_ (fun hHeld=>?_)
  ·exact ⟨⟨h2,h3⟩,⟨h4,h5⟩,hcx⟩
  refine takeT 0 hHeld ?_
  (try simp only [Act.put,ly])
  refine takeT 1 hHeld ?_
  (try simp only [Act.put,ly])
  refine takeT 2 hHeld ?_
  (try simp only [Act.put,ly])
  refine takeT 3 hHeld ?_
  (try simp only [Act.put,ly])
  refine takeT 4 hHeld ?_
  (try simp only [Act.put,ly])
  refine takeT 5 hHeld ?_
  (try simp only [Act.put,ly])
  refine takeT 6 hHeld ?_
  (try simp only [Act.put,ly])
  refine takeT 7 hHeld ?_
  (try simp only [Act.put,ly])
  refine takeT 8 hHeld ?_
  (try simp only [Act.put,ly])
  refine takeT 9 hHeld ?_
  (try simp only [Act.put,ly])
  refine takeT 10 hHeld ?_
  (try simp only [Act.put,ly])
  refine wpAnyH_done (by kernel_rfl) ?_ _
  refine NoPanic.normal ?_
  go_wp2_with fail
  go_ret
  exact ⟨by first | rfl | rw [HP.out],bel⟩
 ·rw [if_neg huz]
  have d1:((u:Int) == (z:Int))=false:=beq_eq_false_iff_ne.2 (by omega)
  have d2:((u:Int) != (z:Int))=true:=bne_iff_ne.2 (by omega)
  clear huz hlx hi hm
  go_enter Tryz.func288,Tryz.ntmps288
  go_wp2_with fail
  go_ret
  exact ⟨rfl,bel⟩
set_option maxHeartbeats 4000000 in
theorem at3_any (w:World) (y z x:Nat) (gx:Nat) (h1:w.cell? ⟨gx,0,none⟩=some (.int .i64 x)) :
 Calls Tryz.prog 289 #[.int .i64 y, .int .i64 z, .pointer (some ⟨gx,0,none⟩)] w fun e w'=>e = .returned (.int .i64 (if y=x then 1 else 0))∧Below w.heap.size w w':=by
 by_cases huz:y=x
 ·subst huz
  rw [if_pos rfl]
  go_enter Tryz.func289,Tryz.ntmps289
  go_wp2_with fail
  go_ret
  exact ⟨rfl,bel⟩
 ·rw [if_neg huz]
  have d1:((y:Int) == (x:Int))=false:=beq_eq_false_iff_ne.2 (by omega)
  clear huz
  go_enter Tryz.func289,Tryz.ntmps289
  go_wp2_with fail
  go_ret
  exact ⟨rfl,bel⟩

/-- A function of two numbers that is read. -/
def AtF (w:World) (F:Nat) (caps:Array Value) (n k:Nat) (g:Nat→Nat→Int):Prop:=
 ∀ (W:World) (y z:Nat),Below w.heap.size w W→y<n→z<k→Calls Tryz.prog F (#[.int .i64 y, .int .i64 z] ++ caps) W fun e w'=>e = .returned (.int .i64 (g y z))∧Below W.heap.size W w'
/-- The blocks that a growing system writes. -/
def GX (g7:Nat) (vA vB:Value):Nat→Prop:=fun b=>b=g7∨vA.ownBlock=some b∨vB.ownBlock=some b
/-- The blocks that hold nothing of a growing system's rows and numbers. -/
def EX (base:Nat) (vA vB:Value):Nat→Prop:=fun b=>b<base∨vA.ownBlock=some b∨vB.ownBlock=some b
/-- A system that grows, in its box. -/
structure SB (w:World) (g7 base:Nat) (vA vB:Value) (us:List Value) (rs:List R4) (n:Nat) (F:Nat→Nat→Rat) (Bf:Nat→Rat):Prop where
 box:Loc w g7 73 #[vA,vB]
 oa:OwnL w base vA us
 ob:OwnR w base vB rs
 len:us.length=rs.length
 rows:∀ i u,us[i]? = some u→Nums 2 w (EX base vA vB) u n (F i)
 vals:ValL 2 w (EX base vA vB) rs Bf

set_option maxRecDepth 100000 in
set_option maxHeartbeats 16000000 in
theorem sysadd_any (w:World) (b:Int) (Fn0:Nat) (caps:Array Value) (n k:Nat) (g:Nat→Nat→Int) (g5 g6 g7 base:Nat) (vA vB:Value) (us:List Value) (rs:List R4) (F:Nat→Nat→Rat) (Bf:Nat→Rat)
 (h5:w.cell? ⟨g5,0,none⟩=some (.int .i64 n)) (h6:w.cell? ⟨g6,0,none⟩=some (.int .i64 k)) (hg5:g5<w.heap.size) (hg6:g6<w.heap.size) (hg7:g7<base) (hbw:base≤w.heap.size) (hS:SB w g7 base vA vB us rs (n*k) F Bf) (hen:Enters Fn0) (hat:AtF w Fn0 caps n k g)
 (hu:us.length≤200) (hn1:1≤n) (hk1:1≤k) (hnk:n*k≤80) (hb0:0≤b) (hb1:b≤1099511627776) (hg:∀ y z,y<n→z<k→0≤g y z∧g y z≤1099511627776)
 (hF:∀ j,j<n*k→F us.length j=((g (j / k) (j % k):Int):Rat)) (hB:Bf us.length=(b:Rat)) :
 Calls Tryz.prog 285 #[.int .i64 b, .func (Fn.func Fn0) #[] caps, .pointer (some ⟨g5,0,none⟩), .pointer (some ⟨g6,0,none⟩), .pointer (some ⟨g7,0,none⟩)] w fun e w'=>e = .returned (.tuple #[])∧
  ∃ vA' vB' us' rs',us'.length=us.length+1∧SB w' g7 base vA' vB' us' rs' (n*k) F Bf∧Keep (GX g7 vA vB) w w':=by
 have HS:=Lib.hid hS
 have HAT:=Lib.hid hat
 have HG:=Lib.hid hg
 have HF:=Lib.hid hF
 have HB:=Lib.hid hB
 have hen2:∀ (args:Array Value) (W:World),(callFunc Fn0 args).run Tryz.prog W = .ok (.enter Fn0 args) W:=hen
 have hn80:n≤80:=by have:=Nat.le_mul_of_pos_right n hk1; omega
 have hk80:k≤80:=by have:=Nat.le_mul_of_pos_left k hn1; omega
 have H5:Hid (∀ W,Below w.heap.size w W→W.cell? ⟨g5,0,none⟩=some (.int .i64 n)∧W.cell? ⟨g6,0,none⟩=some (.int .i64 k)):=fun W hW=>⟨cell_keep (X:=fun _=>False) h5 hg5 id (.of_below hW),cell_keep (X:=fun _=>False) h6 hg6 id (.of_below hW)⟩
 have HU:=Lib.hid hu
 have HNK:Hid (∀ y,y<n→y*k+k≤80):=fun y hy=>by
  have:(y+1)*k≤n*k:=Nat.mul_le_mul_right k hy
  rw [Nat.succ_mul] at this
  omega
 clear hS hat hg hF hB hu
 go_enter Tryz.func285,Tryz.ntmps285
 go_wp2_with fail
 clear h5 h6
 go_loopw [7,11] (fun v i wr=>∃ (y:Nat) (rr:List R4),y≤n∧i = .int .i64 y∧OwnR wr w.heap.size v rr∧rr.length=y*k∧ValL 2 wr (fun b=>v.ownBlock=some b∨b<w.heap.size) rr (fun j=>((g (j / k) (j % k):Int):Rat))∧Below w.heap.size w wr) (fun _ i _=>n - (intOf i).toNat)
 case atStart=>exact ⟨0,[],by omega,rfl,OwnR.nil _ _,by simp,fun i r hr=>by simp at hr,bel⟩
 case round=>
  obtain ⟨y,rr,hy,rfl,hown,hrl,hv,hB⟩:=hrel
  obtain ⟨wy,rfl⟩:∃ wy:World,wy=wr:=⟨_,rfl⟩
  have yy:=hB.size; (try simp only [zs] at yy)
  by_cases hlty:y<n
  ·obtain ⟨-,g6c⟩:=H5.out wy hB
   have hyk:=HNK.out y hlty
   have HRL:=Lib.hid hrl
   have HBy:=Lib.hid hB
   clear hrl
   go_wp2_with fail
   clear g6c
   go_loopw [7,15] (fun v i wr=>∃ (z:Nat) (rr:List R4),z≤k∧i = .int .i64 z∧OwnR wr w.heap.size v rr∧rr.length=y*k+z∧ValL 2 wr (fun b=>v.ownBlock=some b∨b<w.heap.size) rr (fun j=>((g (j / k) (j % k):Int):Rat))∧Below w.heap.size w wr) (fun _ i _=>k - (intOf i).toNat)
   case atStart=>exact ⟨0,rr,by omega,rfl,hown,by rw [HRL.out]; rfl,hv,hB⟩
   case round=>
    clear hown hv hB
    obtain ⟨z,rr,hz,rfl,hown,hrl,hv,hB⟩:=hrel
    obtain ⟨wz,rfl⟩:∃ wz:World,wz=wr:=⟨_,rfl⟩
    have yz:=hB.size; (try simp only [zs] at yz)
    by_cases hltz:z<k
    ·obtain ⟨q,hq⟩:∃ q,g y z=q:=⟨_,rfl⟩
     have hqb:=HG.out y z hlty hltz
     rw [hq] at hqb
     have HQ:Hid (∀ (i:Nat),i=y*k+z→((g (i / k) (i % k):Int):Rat)=(q:Rat)):=fun i hi=>by rw [hi,div_at hltz,mod_at hltz,hq]
     have HQ0:=Lib.hid hq
     have HRL2:=Lib.hid hrl
     have HBz:=Lib.hid hB
     have hrl80:rr.length≤80:=by omega
     clear hq hrl
     go_wp2_with fail
     refine (HAT.out wz y z HBz.out hlty hltz).mono ?_
     rintro e w2 ⟨he,hb2⟩
     rw [HQ0.out] at he
     subst he
     have y2:=hb2.size; (try simp only [zs] at y2)
     go_wp2_with fail
     refine (rwhole_any _ q (by omega) (by omega)).mono ?_
     rintro e w3 ⟨v3,rfl,i3,hb3⟩
     have y3:=hb3.size; (try simp only [zs] at y3)
     obtain ⟨b3,A3,m3,c3,b3',A3',m3',c3',rfl,i3, -, -⟩:=i3.op
     have hBelow:Hid (Below wz.heap.size wz (w3.alloc (.cells #[.bool b3, .slice A3 m3 c3, .bool b3', .slice A3' m3' c3'] 213))):=bel
     go_wp2_with (at_builtin; refine wpList_pushR _ rfl _ _ rfl w.heap.size _ rr rfl (hown.below hBelow.out) _ ⟨b3,A3,m3,c3,b3',A3',m3',c3'⟩ rfl (heap_alloc_new w3 _) (by omega) (by simp only [World.size_alloc]; omega) ?_)
     intro gg cap w4 hown4 hg4 ho4 hl4
     have hb4:Below w.heap.size w w4:=below_own (HBz.out.trans (hBelow.out.mono yz)) (hown.below hBelow.out) hg4 (Nat.le_refl _) (by simp only [World.size_alloc]; omega)
     have hval:ValL 2 w4 (fun b=>(Value.slice (some ⟨gg,0,none⟩) (rr.length+1) cap).ownBlock=some b∨b<w.heap.size) (rr ++ [⟨b3,A3,m3,c3,b3',A3',m3',c3'⟩]) (fun j=>((g (j / k) (j % k):Int):Rat)):=by
      have h1:=hv.keep (Keep.of_below hBelow.out)
      have h2:RatL 2 (w3.alloc (.cells #[.bool b3, .slice A3 m3 c3, .bool b3', .slice A3' m3' c3'] 213)) (fun b=>u7.ownBlock=some b∨b<w.heap.size) (R4.v ⟨b3,A3,m3,c3,b3',A3',m3',c3'⟩) (((g (rr.length / k) (rr.length % k):Int)):Rat):=by
       rw [HQ.out _ HRL2.out]
       refine RatL.keep (RatL.weak (i3.len (rsz_int (by omega) (by omega))) (fun b hb hh=>?_)) kp
       show b<w2.heap.size
       rcases hh with hh | hh
       ·have:=hown.lt hh; omega
       ·omega
      exact (h1.push h2).turn ((Keep.refl _ _).grown hg4 (fun g hg=> .inl (.inl hg))) (fun b hb hh=>by
       rcases hh with hh | hh
       ·rcases ho4 with ho | ho
        ·left; rw [ho]; exact hh
        ·have hh':some gg=some b:=hh
         injection hh' with hh'
         simp only [World.size_alloc] at hb ho
         omega
       ·exact .inr hh)
     clear hown hv hB
     go_wp2_with fail
     go_roundw
     case rel=>
      exact ⟨z+1,rr ++ [⟨b3,A3,m3,c3,b3',A3',m3',c3'⟩],by omega,by go_num,hown4,by simp [HRL2.out]; omega,hval,hb4⟩
     case measure=>simp only [intOf]; omega
    ·obtain rfl:z=k:=by omega
     have HRL2:=Lib.hid hrl
     clear hrl
     go_wp2_with fail
     go_roundw
     case rel=>exact ⟨y+1,rr,by omega,by go_num,hown,by rw [HRL2.out,Nat.succ_mul],hv,hB⟩
     case measure=>simp only [intOf]; omega
  ·obtain rfl:y=n:=by omega
   obtain ⟨hbox,hoa,hob,hlen,hrows,hvals⟩:=HS.out
   have HBy:=Lib.hid hB
   have HRL:=Lib.hid hrl
   have hq7:g7<w.heap.size:=by omega
   have hbox1:Loc wy g7 73 #[vA,vB]:=hbox.below hB
   have hoa1:OwnL wy base vA us:=hoa.below hB
   have hob1:OwnR wy base vB rs:=hob.below hB
   have HGXlt:Hid (∀ b,EX base vA vB b→b<w.heap.size):=fun b hb=>by
    rcases hb with hb | hb | hb
    ·omega
    ·exact (hoa.lt b hb).2
    ·exact (hob.lt hb).1
   have hrows1:Hid (∀ i u,us[i]? = some u→Nums 2 wy (EX base vA vB) u (y*k) (F i)):=fun i u hu=>(hrows i u hu).keep (.of_below hB)
   have hvals1:=Lib.hid (hvals.keep (Keep.of_below hB))
   have hul:us.length≤200:=HU.out
   have HLEN:=Lib.hid hlen
   have hrl200:rs.length≤200:=by rw [←hlen]; exact HU.out
   obtain ⟨A0,m0,c0,rfl⟩:∃ A m c,vA = .slice A m c:=by
    rcases hoa.2 with ⟨rfl, -⟩ | ⟨g,cap,cur,rfl, -⟩
    ·exact ⟨_,_,_,rfl⟩
    ·exact ⟨_,_,_,rfl⟩
   obtain ⟨B0,p0,d0,rfl⟩:∃ A m c,vB = .slice A m c:=by
    rcases hob.2 with ⟨rfl, -⟩ | ⟨g,cap,cur,rfl, -⟩
    ·exact ⟨_,_,_,rfl⟩
    ·exact ⟨_,_,_,rfl⟩
   have HSS:Hid (∀ W,Loc W g7 73 #[.slice A0 m0 c0, .slice B0 p0 d0]→W.cell? ⟨g7,0,none⟩=some (.slice A0 m0 c0)∧W.cell? ⟨g7,1,none⟩=some (.slice B0 p0 d0)):=fun W hW=>⟨Loc.cell hW 0,Loc.cell hW 1⟩
   have hul7:isL u7:=by
    rcases hown.2 with ⟨rfl, -⟩ | ⟨g,cap,cur,rfl, -⟩
    ·exact ⟨_,_,_,rfl⟩
    ·exact ⟨_,_,_,rfl⟩
   obtain ⟨B7,p7,c7,rfl⟩:=hul7
   have HROW:Hid (Nums 2 wy (EX base (.slice A0 m0 c0) (.slice B0 p0 d0)) (Value.slice B7 p7 c7) (y*k) (fun j=>((g (j / k) (j % k):Int):Rat))):=by
    have:=hown.nums hv (Y:=EX base (.slice A0 m0 c0) (.slice B0 p0 d0)) (fun b _ hb=> .inr (HGXlt.out b hb)) (fun gg hgg hx=>by have:=HGXlt.out gg hx; have:=hown.lt hgg; omega)
    rw [HRL.out] at this
    exact this
   clear hown hv hrl hB hoa hob hlen hrows hvals hbox
   go_wp2_with fail
   refine wp_region_noPanic ?_
   refine wp_region_heldK (k:=12) (S:=(fun W=>W.cell? ⟨g7,0,none⟩=some (.slice A0 m0 c0)∧W.cell? ⟨g7,1,none⟩=some (.slice B0 p0 d0))) (by kernel_rfl) ?_ (fun hHeld=>?_)
   ·exact HSS.out _ hbox1
   refine puK 0 ?_
   (try simp only [Act.put,ly])
   refine tkK 1 ?_
   (try simp only [Act.put,ly])
   refine puK 2 ?_
   (try simp only [Act.put,ly])
   refine puK 5 ?_
   (try simp only [Act.put,ly])
   refine tkK 6 ?_
   (try simp only [Act.put,ly])
   refine puK 7 ?_
   (try simp only [Act.put,ly])
   refine wpAnyK_ready (rs:=[3]) (by kernel_rfl) (by simp) ?_
   refine AllReadyK.cons rfl (fun KK hKK=>?_) AllReadyK.nil
   go_simp
   (try go_wp2_with fail)
   refine hKK.out _ _ ?_ (fun hHeld=>?_)
   ·(try dsimp only)
    exact HSS.out _ hbox1.to
   clear hKK KK
   (try simp only [Act.put,ly])
   have hoaA:OwnL (wy.alloc (.cells #[(Value.slice B7 p7 c7)] 71)).drew base (.slice A0 m0 c0) us:=(show OwnL (wy.alloc (.cells #[(Value.slice B7 p7 c7)] 71)) base (.slice A0 m0 c0) us from hoa1.below (below1 _ _))
   refine wpAnyK_ready (rs:=[4]) (by kernel_rfl) (by simp) ?_
   refine AllReadyK.cons rfl (fun KK hKK=>?_) AllReadyK.nil
   refine step_pushL _ rfl _ _ rfl base (.slice A0 m0 c0) us rfl hoaA ⟨wy.heap.size,0,none⟩ 1 1 (us.length+1) [(Value.slice B7 p7 c7)] rfl rfl rfl (fun j u hu=>World.news_of_block (w:=(wy.alloc (.cells #[(Value.slice B7 p7 c7)] 71)).drew) (made1 wy #[(Value.slice B7 p7 c7)] 71) j u (by simpa using hu)) (fun u hu=>⟨_,_,_,List.mem_singleton.1 hu⟩) (by decide) (by omega) (by simp only [size_drew,World.size_alloc]; omega) ?_
   intro gA capA w2 hoa2 hg2 ho2 hl2
   have y2:=hg2.size
   simp only [size_drew,World.size_alloc] at y2 ho2
   have hbox2:Loc w2 g7 73 #[.slice A0 m0 c0, .slice B0 p0 d0]:=loc_other hoaA hg2 (hbox1.to (w':=wy.alloc (.cells #[(Value.slice B7 p7 c7)] 71))) (by decide)
   have hob2:OwnR w2 base (.slice B0 p0 d0) rs:=own_other hoaA hg2 (show OwnR (wy.alloc (.cells #[(Value.slice B7 p7 c7)] 71)).drew base _ rs from (show OwnR (wy.alloc (.cells #[(Value.slice B7 p7 c7)] 71)) base _ rs from hob1.below (below1 _ _))) (by decide)
   refine hKK.out _ _ (HSS.out _ hbox2) (fun hHeld=>?_)
   clear hKK KK
   (try simp only [Act.put,ly])
   refine puK 11 ?_
   (try simp only [Act.put,ly])
   refine wpAnyK_ready (rs:=[8]) (by kernel_rfl) (by simp) ?_
   refine AllReadyK.cons rfl (fun KK hKK=>?_) AllReadyK.nil
   go_simp
   refine (rwhole_any _ b (by omega) (by omega)).mono ?_
   rintro e w3 ⟨v3,rfl,i3,hb3⟩
   have y3:=hb3.size; (try simp only [zs] at y3)
   obtain ⟨b3,A3,m3,c3,b3',A3',m3',c3',rfl,i3, -, -⟩:=i3.op
   have hbox3:Loc w3 g7 _ _:=hbox2.to
   (try go_wp2_with fail)
   refine hKK.out _ _ ?_ (fun hHeld=>?_)
   ·(try dsimp only)
    exact HSS.out _ hbox3
   clear hKK KK
   (try simp only [Act.put,ly])
   refine wpAnyK_ready (rs:=[9]) (by kernel_rfl) (by simp) ?_
   refine AllReadyK.cons rfl (fun KK hKK=>?_) AllReadyK.nil
   go_simp
   (try go_wp2_with fail)
   refine hKK.out _ _ ?_ (fun hHeld=>?_)
   ·(try dsimp only)
    exact HSS.out _ hbox3.to
   clear hKK KK
   (try simp only [Act.put,ly])
   have hobB:OwnR (w3.alloc (.cells #[.bool b3, .slice A3 m3 c3, .bool b3', .slice A3' m3' c3'] 213)) base (.slice B0 p0 d0) rs:=(hob2.below hb3).below (below1 _ _)
   have hoaB:OwnL (w3.alloc (.cells #[.bool b3, .slice A3 m3 c3, .bool b3', .slice A3' m3' c3'] 213)) base (.slice (some ⟨gA,0,none⟩) (us.length+1) capA) (us ++ [(Value.slice B7 p7 c7)]):=(hoa2.below hb3).below (below1 _ _)
   refine wpAnyK_ready (rs:=[10]) (by kernel_rfl) (by simp) ?_
   refine AllReadyK.cons rfl (fun KK hKK=>?_) AllReadyK.nil
   refine step_pushR _ rfl _ _ rfl base (.slice B0 p0 d0) rs rfl hobB _ ⟨b3,A3,m3,c3,b3',A3',m3',c3'⟩ rfl (heap_alloc_new w3 _) (by omega) (by simp only [size_drew,World.size_alloc]; omega) ?_
   intro gB capB w4 hob4 hg4 ho4 hl4
   have y4:=hg4.size
   simp only [size_drew,World.size_alloc] at y4 ho4
   have hbox4:Loc w4 g7 73 #[.slice A0 m0 c0, .slice B0 p0 d0]:=loc_other hobB hg4 (hbox3.to (w':=w3.alloc (.cells #[.bool b3, .slice A3 m3 c3, .bool b3', .slice A3' m3' c3'] 213))) (by decide)
   have hoa4:OwnL w4 base (.slice (some ⟨gA,0,none⟩) (us.length+1) capA) (us ++ [(Value.slice B7 p7 c7)]):=own_other hobB hg4 hoaB (by decide)
   refine hKK.out _ _ (HSS.out _ hbox4) (fun hHeld=>?_)
   clear hKK KK
   (try simp only [Act.put,ly])
   obtain ⟨e7,f7,l7⟩:=hbox4.all (w':=w4)
   refine wpAnyK_ready (rs:=[12]) (by kernel_rfl) (by simp) ?_
   refine AllReadyK.last (by kernel_rfl) rfl (fun KK hKK=>?_) AllReadyK.nil
   go_simp
   refine hKK.out _ _ ?_
   clear hKK KK
   (try simp only [Act.put,ly])
   have hbox5:Loc (w4.setCell ⟨g7,0,none⟩ (.slice (some ⟨gA,0,none⟩) (us.length+1) capA)) g7 73 #[.slice (some ⟨gA,0,none⟩) (us.length+1) capA, .slice B0 p0 d0]:=by
    have:=hbox4.set 0 (.slice (some ⟨gA,0,none⟩) (us.length+1) capA)
    simpa using this
   clear e7 f7
   obtain ⟨e8,f8,l8⟩:=hbox5.all (w':=w4.setCell ⟨g7,0,none⟩ (.slice (some ⟨gA,0,none⟩) (us.length+1) capA))
   refine puK 13 ?_
   (try simp only [Act.put,ly])
   refine wpAnyK_ready (rs:=[14]) (by kernel_rfl) (by simp) ?_
   refine AllReadyK.last (by kernel_rfl) rfl (fun KK hKK=>?_) AllReadyK.nil
   go_simp
   refine hKK.out _ _ ?_
   clear hKK KK
   (try simp only [Act.put,ly])
   refine wpAnyK_done (by kernel_rfl) ?_ _
   refine NoPanic.normal ?_
   go_wp2_with fail
   have hboxE:=Loc.fill2 (u:= .slice (some ⟨gA,0,none⟩) (us.length+1) capA) (v:= .slice (some ⟨gB,0,none⟩) (rs.length+1) capB) hbox4
   have hA0:∀ b,(Value.slice A0 m0 c0).ownBlock=some b→b<w.heap.size:=fun b hb=>HGXlt.out b (.inr (.inl hb))
   have hB0:∀ b,(Value.slice B0 p0 d0).ownBlock=some b→b<w.heap.size:=fun b hb=>HGXlt.out b (.inr (.inr hb))
   have k1:Keep (GX g7 (.slice A0 m0 c0) (.slice B0 p0 d0)) wy w2:=((Keep.refl _ wy).alloc (.cells #[(Value.slice B7 p7 c7)] 71)).drew.grown hg2 (fun g hg=> .inl (.inr (.inl hg)))
   have k2:Keep (GX g7 (.slice A0 m0 c0) (.slice B0 p0 d0)) wy w4:=((k1.below hb3).alloc (.cells #[.bool b3, .slice A3 m3 c3, .bool b3', .slice A3' m3' c3'] 213)).grown hg4 (fun g hg=> .inl (.inr (.inr hg)))
   have k3:Keep (GX g7 (.slice A0 m0 c0) (.slice B0 p0 d0)) wy ((w4.setCell ⟨g7,0,none⟩ (.slice (some ⟨gA,0,none⟩) (us.length+1) capA)).setCell ⟨g7,1,none⟩ (.slice (some ⟨gB,0,none⟩) (rs.length+1) capB)):=(k2.set (.inl (.inl rfl)) _).set (.inl (.inl rfl)) _
   have k3E:=k3.weak (Y:=EX base (.slice A0 m0 c0) (.slice B0 p0 d0)) (fun b _ h=>by rcases h with rfl | h; exact .inl hg7; exact .inr h)
   have hY:∀ b,b<wy.heap.size→EX base (.slice (some ⟨gA,0,none⟩) (us.length+1) capA) (.slice (some ⟨gB,0,none⟩) (rs.length+1) capB) b→EX base (.slice A0 m0 c0) (.slice B0 p0 d0) b:=fun b hb hg=>by
    rcases hg with hg | hg | hg
    ·exact .inl hg
    ·have e:some gA=some b:=hg
     injection e with e
     subst e
     rcases ho2 with ho | ho
     ·exact .inr (.inl ho)
     ·omega
    ·have e:some gB=some b:=hg
     injection e with e
     subst e
     rcases ho4 with ho | ho
     ·exact .inr (.inr ho)
     ·omega
   have k4:Keep (fun b=>b<w2.heap.size) w3 ((w4.setCell ⟨g7,0,none⟩ (.slice (some ⟨gA,0,none⟩) (us.length+1) capA)).setCell ⟨g7,1,none⟩ (.slice (some ⟨gB,0,none⟩) (rs.length+1) capB)):=by
    refine ((((Keep.refl _ w3).alloc (.cells #[.bool b3, .slice A3 m3 c3, .bool b3', .slice A3' m3' c3'] 213)).grown hg4 (fun g hg=> .inl ?_)).set (.inl ?_) _).set (.inl ?_) _
    ·have:=hB0 g hg; omega
    ·dsimp only; omega
    ·dsimp only; omega
   have hr5:RatL 2 ((w4.setCell ⟨g7,0,none⟩ (.slice (some ⟨gA,0,none⟩) (us.length+1) capA)).setCell ⟨g7,1,none⟩ (.slice (some ⟨gB,0,none⟩) (rs.length+1) capB)) (EX base (.slice (some ⟨gA,0,none⟩) (us.length+1) capA) (.slice (some ⟨gB,0,none⟩) (rs.length+1) capB)) (R4.v ⟨b3,A3,m3,c3,b3',A3',m3',c3'⟩) (Bf rs.length):=by
    rw [show Bf rs.length=(b:Rat) by rw [←HLEN.out]; exact HB.out]
    refine RatL.turn (X:=fun b=>b<w2.heap.size) (i3.len (rsz_int (by omega) (by omega))) k4 (fun b hb hg=>?_)
    rcases hg with hg | hg | hg
    ·omega
    ·have e:some gA=some b:=hg
     injection e with e
     omega
    ·have e:some gB=some b:=hg
     injection e with e
     subst e
     rcases ho4 with ho | ho
     ·have:=hB0 _ ho; omega
     ·omega
   have hoaE:OwnL ((w4.setCell ⟨g7,0,none⟩ (.slice (some ⟨gA,0,none⟩) (us.length+1) capA)).setCell ⟨g7,1,none⟩ (.slice (some ⟨gB,0,none⟩) (rs.length+1) capB)) base (.slice (some ⟨gA,0,none⟩) (us.length+1) capA) (us ++ [(Value.slice B7 p7 c7)]):=hoa4.keep (X:=fun b=>b=g7) (((Keep.refl (fun b=>b=g7) w4).set (p:=⟨g7,0,none⟩) (.inl rfl) _).set (p:=⟨g7,1,none⟩) (.inl rfl) _) (fun g hg e=>by subst e; exact hoa4.ne hbox4 (by decide) hg)
   have hobE:OwnR ((w4.setCell ⟨g7,0,none⟩ (.slice (some ⟨gA,0,none⟩) (us.length+1) capA)).setCell ⟨g7,1,none⟩ (.slice (some ⟨gB,0,none⟩) (rs.length+1) capB)) base (.slice (some ⟨gB,0,none⟩) (rs.length+1) capB) (rs ++ [⟨b3,A3,m3,c3,b3',A3',m3',c3'⟩]):=hob4.keep (X:=fun b=>b=g7) (((Keep.refl (fun b=>b=g7) w4).set (p:=⟨g7,0,none⟩) (.inl rfl) _).set (p:=⟨g7,1,none⟩) (.inl rfl) _) (fun g hg e=>by subst e; exact hob4.ne hbox4 (by decide) hg)
   go_end0
   refine ⟨rfl,_,_,_,_,?_,⟨hboxE,hoaE,hobE,?_,fun i u hu=>?_,(hvals1.out.turn k3E hY).push hr5⟩,(Keep.of_below HBy.out).trans (k3.weak (fun b hb h=>h))⟩
   ·simp
   ·simp [HLEN.out]
   ·by_cases hi:i<us.length
    ·rw [List.getElem?_append_left hi] at hu
     exact (hrows1.out i u hu).turn k3E hY
    ·have hlt:=(List.getElem?_eq_some_iff.1 hu).1
     simp at hlt
     obtain rfl:i=us.length:=by omega
     simp at hu
     subst hu
     exact (HROW.out.turn k3E hY).congr (fun j hj=>HF.out j hj)
end Go.Proofs.YtbdcjhoedhhabaaGreat

