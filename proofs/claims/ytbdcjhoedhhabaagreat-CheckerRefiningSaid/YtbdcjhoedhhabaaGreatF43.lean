/- Contracts of the functions that the statements reach, part 43. -/
import Derived.Test.YtbdcjhoedhhabaaGreatRows
import Derived.Test.YtbdcjhoedhhabaaGreatF27
import Derived.Test.YtbdcjhoedhhabaaGreatF42
set_option linter.unusedSimpArgs false
set_option linter.unusedVariables false

/- refinement.gain. -/
namespace Go.Proofs.YtbdcjhoedhhabaaGreat
open Go.RowKit
attribute [local go_sem ↓] Go.wp_at_zero Go.wp_at_succ

theorem OwnL.loc {w:World} {base g n:Nat} {us:List Value} (h:OwnL w base (.slice (some ⟨g,0,none⟩) n n) us):Loc w g 71 us.toArray:=by
 have hl:=h.1
 rcases h.2 with ⟨h',_⟩ | ⟨g',cap',cur,h',_,hg,_,_,hsz,htake⟩
 ·simp at h'
 ·simp only [Value.slice.injEq,Option.some.injEq,Addr.mk.injEq,and_true,true_and] at h'
  obtain ⟨rfl,hr,rfl⟩:=h'
  have:cur.toList=us:=by
   rw [←htake,List.take_of_length_le (by simp; omega)]
  unfold Loc
  rw [hg,← this]
/-- The greatest of the first n + 1 numbers, the first of them taken first. -/
def top (f:Nat→Rat):Nat→Rat
 | 0=>f 0
 | n+1=>if top f n<f n then f n else top f n
theorem top_le (f:Nat→Rat):∀ n z,z<n→f z≤top f n
 | 0,z,h=>absurd h (by omega)
 | n + 1, z, h => by
   unfold top
   by_cases e:z=n
   ·subst e; split <;> grind
   ·have:=top_le f n z (by omega)
    split <;> grind
theorem top_rsz {f:Nat→Rat} {B n:Nat} (h:∀ i,i<n→Rsz B (f i)) (hn:0<n):∀ i,i≤n→Rsz B (top f i)
 | 0,_=>h 0 hn
 | i + 1, hi => by
   unfold top
   split
   ·exact h i (by omega)
   ·exact top_rsz h hn i (by omega)
/-- The lists that gain fills. -/
def OX (gO k:Nat) (G:Nat→Nat):Nat→Prop:=fun b=>b≤gO∨∃ z,z<k∧b=G z
structure GO (w:World) (gO k rows B:Nat) (G:Nat→Nat) (f:Nat→Nat→Rat):Prop where
 out:∃ cs:Array Value,Loc w gO 71 cs∧∀ z,z<k→cs[z]? = some (.slice (some ⟨G z,0,none⟩) rows rows)
 row:∀ z,z<k→∃ rs,Line w (G z) rs∧rs.length=rows∧ValL B w (OX gO k G) rs (f z)
 ne:∀ z,z<k→gO<G z
 inj:∀ z z',z<k→z'<k→G z=G z'→z=z'
section
variable {w W:World} {gO k rows B:Nat} {G:Nat→Nat} {f f':Nat→Nat→Rat}
theorem GO.below (h:GO w gO k rows B G f) (hb:Below w.heap.size w W):GO W gO k rows B G f:=by
 obtain ⟨⟨cs,h1,h2⟩,h3,h4,h5⟩:=h
 refine ⟨⟨cs,h1.below hb,h2⟩,fun z hz=>?_,h4,h5⟩
 obtain ⟨rs,a,b,c⟩:=h3 z hz
 exact ⟨rs,Loc.below a hb,b,c.keep (.of_below hb)⟩
theorem GO.congr (h:GO w gO k rows B G f) (hf:∀ z,z<k→∀ x,x<rows→f' z x=f z x):GO w gO k rows B G f':=by
 obtain ⟨h1,h3,h4,h5⟩:=h
 refine ⟨h1,fun z hz=>?_,h4,h5⟩
 obtain ⟨rs,a,b,c⟩:=h3 z hz
 exact ⟨rs,a,b,c.congr (by rw [b]; exact hf z hz)⟩
theorem GO.lt (h:GO w gO k rows B G f) {b:Nat} (hb:OX gO k G b):b<w.heap.size:=by
 obtain ⟨⟨cs,h1,h2⟩,h3,h4,h5⟩:=h
 rcases hb with hb | ⟨z,hz,rfl⟩
 ·exact Nat.lt_of_le_of_lt hb h1.lt
 ·obtain ⟨rs,a, -⟩:=h3 z hz
  exact Loc.lt a
/-- One number stored. -/
theorem GO.put (h:GO w gO k rows B G f) {z0 x0:Nat} (hz:z0<k) (hx:x0<rows) (r:R4) (hr:RatL B w (OX gO k G) r.v (f' z0 x0)) (hf:∀ z,z<k→∀ x,x<rows→(z ≠ z0∨x ≠ x0)→f' z x=f z x) :
 GO ((((w.setCell ⟨G z0,x0*4,none⟩ (.bool r.b)).setCell ⟨G z0,x0*4+1,none⟩ (.slice r.A r.m r.c)).setCell ⟨G z0,x0*4+2,none⟩ (.bool r.b')).setCell ⟨G z0,x0*4+3,none⟩ (.slice r.A' r.m' r.c')) gO k rows B G f':=by
 have hg:OX gO k G (G z0):= .inr ⟨z0,hz,rfl⟩
 have k1:Keep (OX gO k G) w ((((w.setCell ⟨G z0,x0*4,none⟩ (.bool r.b)).setCell ⟨G z0,x0*4+1,none⟩ (.slice r.A r.m r.c)).setCell ⟨G z0,x0*4+2,none⟩ (.bool r.b')).setCell ⟨G z0,x0*4+3,none⟩ (.slice r.A' r.m' r.c')):=
  ((((Keep.refl _ w).set (.inl hg) _).set (.inl hg) _).set (.inl hg) _).set (.inl hg) _
 have k2:Keep (fun b=>b=G z0) w ((((w.setCell ⟨G z0,x0*4,none⟩ (.bool r.b)).setCell ⟨G z0,x0*4+1,none⟩ (.slice r.A r.m r.c)).setCell ⟨G z0,x0*4+2,none⟩ (.bool r.b')).setCell ⟨G z0,x0*4+3,none⟩ (.slice r.A' r.m' r.c')):=
  ((((Keep.refl (fun b=>b=G z0) w).set (.inl rfl) _).set (.inl rfl) _).set (.inl rfl) _).set (.inl rfl) _
 obtain ⟨⟨cs,h1,h2⟩,h3,h4,h5⟩:=h
 refine ⟨⟨cs,h1.keep k2 (fun e=>by have:=h4 z0 hz; omega),h2⟩,fun z hz'=>?_,h4,h5⟩
 obtain ⟨rs,a,b,c⟩:=h3 z hz'
 by_cases hzz:z=z0
 ·subst hzz
  refine ⟨rs.set x0 r,a.put (by omega) r,by simpa using b,((c.congr (f':=fun x=>if x=x0 then f z x0 else f' z x) (fun i hi=>?_)).keep k1).set (hr.keep k1) (fun j hj _=>by rw [if_neg hj])⟩
  by_cases e:i=x0
  ·rw [if_pos e,e]
  ·rw [if_neg e]; exact hf z hz' i (by omega) (.inr e)
 ·exact ⟨rs,Loc.keep a k2 (fun e=>hzz (h5 z z0 hz' hz e)),b,(c.congr (fun i hi=>hf z hz' i (by omega) (.inl hzz))).keep k1⟩
theorem GO.mat (h:GO w gO k rows B G f) (hk:k≤maxLen) (hr:rows≤maxLen):Mat B w (fun b=>b<gO) (.slice (some ⟨gO,0,none⟩) k k) k (fun _=>rows) f:=by
 obtain ⟨⟨cs,h1,h2⟩,h3,h4,h5⟩:=h
 have key:∀ i,i<k→∃ u:Value,w.cell? ⟨gO,i,none⟩=some u∧Nums B w (fun b=>b<gO) u rows (f i):=fun i hi=>by
  obtain ⟨rs,a,b,c⟩:=h3 i hi
  exact ⟨_,by rw [Loc.cell h1,h2 i hi],a.nums c b (fun b _ h=> .inl (Nat.le_of_lt h)) (fun h=>by have:=h4 i hi; omega) hr⟩
 obtain ⟨us,hl,hp⟩:=list_of _ k key
 refine ⟨us,_,_,hl,rfl,Nat.le_refl _,hk,fun _=>⟨_,rfl,h1.lt,Nat.lt_irrefl _,fun i u hu=>?_⟩,fun i u hu=>(hp i u hu).2⟩
 have e:(⟨gO,0,none⟩:Addr).add i=⟨gO,i,none⟩:=by simp [Addr.add]; intro h; omega
 rw [e]
 exact (hp i u hu).1
end
theorem set_mid {α β:Type} (f:α→β) (gs:List α) (g:α) (z:β) (n:Nat):((gs.map f) ++ List.replicate (n+1) z).set gs.length (f g)=((gs ++ [g]).map f) ++ List.replicate n z:=by
 rw [List.set_append_right _ _ (by simp)]
 simp [List.replicate_succ]

set_option maxRecDepth 100000 in
set_option maxHeartbeats 16000000 in
theorem gain_any (w:World) (vy:Value) (ny KY rows k:Nat) (yv:Nat→Rat) (h:Nums KY w (fun _=>False) vy ny yv) (hrk:rows*k≤ny) (hr1:1≤rows) (hk1:1≤k) (hr:rows≤256) (hk:k≤256) (hny:ny≤1000) (hK1:1≤KY) (hK:KY≤4000000) :
 Calls Tryz.prog 166 #[vy, .int .i64 rows, .int .i64 k] w fun e w'=>∃ v',e = .returned v'∧Mat (KY+KY+1) w' (Old w) v' k (fun _=>rows) (fun z x=>top (fun z=>yv (x*k+z)) k - yv (x*k+z))∧(∃ g,v' = .slice (some ⟨g,0,none⟩) k k)∧Below w.heap.size w w':=by
 have H:=Lib.hid h
 have HZ:=Lib.hid (h.rsz hK1)
 obtain ⟨A,cA,rfl, -,l1,l2⟩:=h.op
 have HRK:=Lib.hid hrk
 have HIX:Hid (∀ x,x<rows→x*k+k≤ny):=fun x hx=>by
  have:(x+1)*k≤rows*k:=Nat.mul_le_mul_right k hx
  rw [Nat.succ_mul] at this
  omega
 clear h hrk
 go_enter Tryz.func166,Tryz.ntmps166
 go_wp2_with (at_make; refine wpList_makeN _ rfl _ _ rfl Tryz.underlying70 info_rats rfl w.heap.size k rfl rfl rfl rfl (by omega) (by unfold maxLen; omega) (Nat.le_refl _) ?_)
 intro w1 hown hg1
 have O1:Loc w1 w.heap.size 71 (List.replicate k (.slice none 0 0)).toArray:=OwnL.loc (us:=List.replicate k (.slice none 0 0)) (by unfold OwnL; rw [List.length_replicate]; exact hown)
 have HB1:Below w.heap.size w w1:=below_none (Below.refl _ _) hg1 (Nat.le_refl _)
 have hs1:=O1.lt
 clear hown hg1
 go_wp2_with fail
 go_loopw [17] (fun i wr=>∃ (c:Nat) (gs:List Nat),c≤k∧i = .int .i64 c∧gs.length=c∧Loc wr w.heap.size 71 ((gs.map (fun g=>Value.slice (some ⟨g,0,none⟩) rows rows)) ++ List.replicate (k - c) (Value.slice none 0 0)).toArray∧Hid (∀ (i g:Nat),gs[i]? = some g→w.heap.size<g∧Line wr g (List.replicate rows zR4))∧Hid (∀ (i j g:Nat),gs[i]? = some g→gs[j]? = some g→i=j)∧Below w.heap.size w wr) (fun i _=>k - (intOf i).toNat)
 case atStart=>exact ⟨0,[],by omega,rfl,rfl,by simpa using O1,Lib.hid (fun i g h=>by simp at h),Lib.hid (fun i j g h=>by simp at h),HB1⟩
 case round=>
  clear O1
  obtain ⟨c,gs,hc,rfl,hgl,Oc,hgs,hinj,hB⟩:=hrel
  obtain ⟨wo,rfl⟩:∃ wo:World,wo=wr:=⟨_,rfl⟩
  have yo:=hB.size; (try simp only [zs] at yo)
  have q1:=Oc.lt
  have HGL:=Lib.hid hgl
  clear hgl
  by_cases hlt:c<k
  ·have k0:(0:Int)≤(c:Int):=by omega
   have k1:(c:Int)<(k:Int):=by omega
   have HBO:=Lib.hid hB
   clear hB
   go_wp2_with (at_make; refine wpList_makeR _ rfl _ _ rfl wo.heap.size rows rfl rfl rfl rfl (by omega) (Nat.le_refl _) ?_)
   intro w2 hline hg2
   have hB2:Below wo.heap.size wo w2:=below_none (Below.refl _ _) hg2 (Nat.le_refl _)
   have O2:=Oc.below hB2
   obtain ⟨-,f2,l2'⟩:=O2.all (w':=w2)
   have e2:w2.cell? ⟨w.heap.size,c,none⟩=some (.slice none 0 0):=by
    rw [Loc.cell O2,List.getElem?_toArray,List.getElem?_append_right (by simp [HGL.out]),List.getElem?_replicate,if_pos (by simp [HGL.out]; omega)]
   have hl2:=Loc.lt hline
   have HL:=Lib.hid hline
   clear hline hg2
   go_wp2_with fail
   go_roundw
   case rel=>
    refine ⟨c+1,gs ++ [wo.heap.size],by omega,by go_num,by simp [HGL.out],?_,Lib.hid (fun i g hi=>?_),Lib.hid (fun i j g hi hj=>?_),?_⟩
    ·have:=O2.set c (.slice (some ⟨wo.heap.size,0,none⟩) rows rows)
     rw [List.setIfInBounds_toArray,show k - c=(k - (c+1))+1 by omega] at this
     have e:=set_mid (fun g=>Value.slice (some ⟨g,0,none⟩) rows rows) gs wo.heap.size (Value.slice none 0 0) (k - (c+1))
     rw [HGL.out] at e
     rw [e] at this
     exact this
    ·by_cases hic:i<gs.length
     ·rw [List.getElem?_append_left hic] at hi
      obtain ⟨a,b⟩:=hgs.out i g hi
      exact ⟨a,(Loc.below b hB2).far (p:=⟨w.heap.size,c,none⟩) (by dsimp only; omega) _⟩
     ·have hlt2:=(List.getElem?_eq_some_iff.1 hi).1
      simp at hlt2
      obtain rfl:i=gs.length:=by omega
      simp at hi
      subst hi
      exact ⟨q1,Loc.far HL.out (p:=⟨w.heap.size,c,none⟩) (by dsimp only; omega) _⟩
    ·have hlow:∀ (i g:Nat),i<gs.length→(gs ++ [wo.heap.size])[i]? = some g→gs[i]? = some g∧g<wo.heap.size:=fun i g h hi=>by
      rw [List.getElem?_append_left h] at hi
      exact ⟨hi,Loc.lt (hgs.out i g hi).2⟩
     have hhi:∀ (i g:Nat),¬ i<gs.length→(gs ++ [wo.heap.size])[i]? = some g→i=gs.length∧g=wo.heap.size:=fun i g h hi=>by
      have hlt2:=(List.getElem?_eq_some_iff.1 hi).1
      simp at hlt2
      obtain rfl:i=gs.length:=by omega
      simp at hi
      exact ⟨rfl,hi.symm⟩
     by_cases h1:i<gs.length
     ·by_cases h2:j<gs.length
      ·exact hinj.out i j g (hlow i g h1 hi).1 (hlow j g h2 hj).1
      ·have:=(hlow i g h1 hi).2
       have:=(hhi j g h2 hj).2
       omega
     ·by_cases h2:j<gs.length
      ·have:=(hlow j g h2 hj).2
       have:=(hhi i g h1 hi).2
       omega
      ·rw [(hhi i g h1 hi).1,(hhi j g h2 hj).1]
    ·exact (HBO.out.trans (hB2.mono yo)).setCell (Nat.le_refl _) _
   case measure=>simp only [intOf]; omega
  ·obtain rfl:c=k:=by omega
   obtain ⟨G,hG⟩:∃ G:Nat→Nat,(fun z=>gs.getD z 0)=G:=⟨_,rfl⟩
   have hGz:∀ z,z<c→gs[z]? = some (G z):=fun z hz=>by
    rw [←hG]
    dsimp only
    rw [List.getD_eq_getElem?_getD,List.getElem?_eq_getElem (by rw [HGL.out]; exact hz)]
    rfl
   have HGO:Hid (GO wo w.heap.size c rows (KY+KY+1) G (fun _ _=>0)):=by
    refine ⟨⟨_,Oc,fun z hz=>?_⟩,fun z hz=>⟨_,(hgs.out z _ (hGz z hz)).2,by simp,fun i r hr=>?_⟩,fun z hz=>(hgs.out z _ (hGz z hz)).1,fun z z' hz hz' e=>hinj.out z z' (G z) (hGz z hz) (by rw [e]; exact hGz z' hz')⟩
    ·rw [List.getElem?_toArray,List.getElem?_append_left (by simp [HGL.out]; exact hz),List.getElem?_map,hGz z hz]
     rfl
    ·have:=List.mem_of_getElem? hr
     rw [List.mem_replicate] at this
     rw [this.2]
     exact zR4L _ _ _
   have HBO:=Lib.hid hB
   clear hgs hinj HGL Oc hG hGz hB
   go_wp2_with fail
   go_loopw [27] (fun i wr=>∃ (x:Nat),x≤rows∧i = .int .i64 x∧GO wr w.heap.size c rows (KY+KY+1) G (fun z x'=>if x'<x then top (fun z=>yv (x'*c+z)) c - yv (x'*c+z) else 0)∧Below w.heap.size w wr) (fun i _=>rows - (intOf i).toNat)
   case atStart=>exact ⟨0,by omega,rfl,HGO.out.congr (fun z hz x hx=>by simp),HBO.out⟩
   case round=>
    clear HGO
    obtain ⟨x,hx,rfl,hGO,hBx⟩:=hrel
    obtain ⟨wx,rfl⟩:∃ wx:World,wx=wr:=⟨_,rfl⟩
    have yx:=hBx.size
    have HGO:=Lib.hid hGO
    have HBX:=Lib.hid hBx
    clear hGO hBx
    by_cases hltx:x<rows
    ·have hxk:=HIX.out x hltx
     obtain ⟨P,hP⟩:∃ P,x*c=P:=⟨_,rfl⟩
     have hPi:(x:Int)*(c:Int)=(P:Int):=by rw [←hP,Int.natCast_mul]
     rw [hP] at hxk
     have hPw:IntKind.i64.wrap ((x:Int)*(c:Int))=(P:Int):=by rw [hPi,IntKind.wrap_i64]; omega
     have HP:=Lib.hid hP
     have hPlt:P<ny:=by omega
     obtain ⟨a8,b8,A8,m8,c8,b8',A8',m8',c8',rfl,hab8, -,x0,x1,x2,x3,r8⟩:=Nums.at H.out hPlt
     have HR8:=Lib.hid r8
     have hb8:(a8.add (P*4)).block<w.heap.size:=by rw [addr_block]; exact hab8
     have HKX:Hid (Keep (fun _=>False) w wx):= .of_below HBX.out
     have g0:wx.cell? (a8.add (P*4))=some (.bool b8):=cell_keep x0 hb8 id HKX.out
     have g1:wx.cell? ⟨(a8.add (P*4)).block,(a8.add (P*4)).off+1,none⟩=some (.slice A8 m8 c8):=cell_keep x1 hb8 id HKX.out
     have g2:wx.cell? ⟨(a8.add (P*4)).block,(a8.add (P*4)).off+2,none⟩=some (.bool b8'):=cell_keep x2 hb8 id HKX.out
     have g3:wx.cell? ⟨(a8.add (P*4)).block,(a8.add (P*4)).off+3,none⟩=some (.slice A8' m8' c8'):=cell_keep x3 hb8 id HKX.out
     have k2:(0:Int)≤(P:Int):=by omega
     have k3:(P:Int)<(ny:Int):=by omega
     have T1:=made1 wx #[.bool b8, .slice A8 m8 c8, .bool b8', .slice A8' m8' c8'] 213
     have HTOP0:Hid (top (fun z=>yv (x*c+z)) 0=yv P):=by show _=_; unfold top; rw [HP.out]; rfl
     clear x0 x1 x2 x3 hPi hP r8
     go_wp2_with fail
     clear g0 g1 g2 g3
     go_loopw [37] (fun i wr=>∃ (z:Nat) (q:R4),z≤c∧i = .int .i64 z∧Loc wr wx.heap.size 213 #[.bool q.b, .slice q.A q.m q.c, .bool q.b', .slice q.A' q.m' q.c']∧Hid (RatL KY w (fun _=>False) q.v (top (fun z=>yv (x*c+z)) z))∧Below wx.heap.size wx wr) (fun i _=>c - (intOf i).toNat)
     case atStart=>exact ⟨0,⟨b8,A8,m8,c8,b8',A8',m8',c8'⟩,by omega,rfl,T1,by rw [HTOP0.out]; exact HR8,bel⟩
     case round=>
      clear T1 HR8
      obtain ⟨z,q,hz,rfl,Tz,sz,hBz⟩:=hrel
      obtain ⟨wz,rfl⟩:∃ wz:World,wz=wr:=⟨_,rfl⟩
      obtain ⟨b2,A2,m2,c2,b2',A2',m2',c2'⟩:=q
      unfold R4.v at sz
      dsimp only at Tz sz
      have yz:=hBz.size
      have q2:=Tz.lt
      have HBZ:=Lib.hid (HBX.out.trans (hBz.mono yx))
      by_cases hltz:z<c
      ·obtain ⟨Q,hQ⟩:∃ Q,P+z=Q:=⟨_,rfl⟩
       have hQw:IntKind.i64.wrap ((P:Int)+(z:Int))=(Q:Int):=by rw [IntKind.wrap_i64]; omega
       have HQQ:Hid (yv Q=yv (x*c+z)):=by show _=_; rw [HP.out,hQ]
       have hQlt:Q<ny:=by omega
       obtain ⟨a9,b9,A9,m9,c9,b9',A9',m9',c9',ea9,hab9, -,x0,x1,x2,x3,r9⟩:=Nums.at H.out hQlt
       injection ea9 with ea9
       subst ea9
       have HR9:=Lib.hid r9
       have hb9:(a8.add (Q*4)).block<w.heap.size:=by rw [addr_block]; exact hab9
       have HLS:Hid (∀ W,Below wz.heap.size wz W→((W.cell? (a8.add (Q*4))=some (.bool b9)∧W.cell? ⟨(a8.add (Q*4)).block,(a8.add (Q*4)).off+1,none⟩=some (.slice A9 m9 c9))∧W.cell? ⟨(a8.add (Q*4)).block,(a8.add (Q*4)).off+2,none⟩=some (.bool b9')∧W.cell? ⟨(a8.add (Q*4)).block,(a8.add (Q*4)).off+3,none⟩=some (.slice A9' m9' c9'))∧(W.cell? ⟨wx.heap.size,0,none⟩=some (.bool b2)∧W.cell? ⟨wx.heap.size,1,none⟩=some (.slice A2 m2 c2))∧W.cell? ⟨wx.heap.size,2,none⟩=some (.bool b2')∧W.cell? ⟨wx.heap.size,3,none⟩=some (.slice A2' m2' c2')):=fun W hW=>by
        have hK:Keep (fun _=>False) w W:= .of_below (HBZ.out.trans (hW.mono HBZ.out.size))
        exact ⟨⟨⟨cell_keep x0 hb9 id hK,cell_keep x1 hb9 id hK⟩,cell_keep x2 hb9 id hK,cell_keep x3 hb9 id hK⟩,⟨Loc.cell (Tz.below hW) 0,Loc.cell (Tz.below hW) 1⟩,Loc.cell (Tz.below hW) 2,Loc.cell (Tz.below hW) 3⟩
       have k4:(0:Int)≤(Q:Int):=by omega
       have k5:(Q:Int)<(ny:Int):=by omega
       obtain ⟨tv,htv⟩:∃ q,top (fun z=>yv (x*c+z)) z=q:=⟨_,rfl⟩
       have HTE:Hid (top (fun z=>yv (x*c+z)) (z+1)=if tv<yv Q then yv Q else tv):=by show _=_; unfold top; rw [htv,HQQ.out]
       rw [htv] at sz
       obtain ⟨q,hq⟩:∃ q,rcmp (yv Q) tv=q:=⟨_,rfl⟩
       have HQ:=Lib.hid hq
       have HZ2:Hid (0<q↔tv<yv Q):=by show _↔_; rw [←hq]; exact rcmp_pos _ _
       have HBz:=Lib.hid hBz
       clear x0 x1 x2 x3 hQ htv hq r9 hBz
       go_wp2_with fail
       refine wp_region_noPanic ?_
       refine wp_region_held_drew (S:=(fun W=>((W.cell? (a8.add (Q*4))=some (.bool b9)∧W.cell? ⟨(a8.add (Q*4)).block,(a8.add (Q*4)).off+1,none⟩=some (.slice A9 m9 c9))∧W.cell? ⟨(a8.add (Q*4)).block,(a8.add (Q*4)).off+2,none⟩=some (.bool b9')∧W.cell? ⟨(a8.add (Q*4)).block,(a8.add (Q*4)).off+3,none⟩=some (.slice A9' m9' c9'))∧(W.cell? ⟨wx.heap.size,0,none⟩=some (.bool b2)∧W.cell? ⟨wx.heap.size,1,none⟩=some (.slice A2 m2 c2))∧W.cell? ⟨wx.heap.size,2,none⟩=some (.bool b2')∧W.cell? ⟨wx.heap.size,3,none⟩=some (.slice A2' m2' c2'))) (by kernel_rfl) ?_ (fun hHeld=>?_)
       ·exact HLS.out _ bel
       refine takeT 0 hHeld ?_
       (try simp only [Act.put,ly])
       refine takeT 1 hHeld ?_
       (try simp only [Act.put,ly])
       refine takeT 2 hHeld ?_
       (try simp only [Act.put,ly])
       refine takeT 3 hHeld ?_
       (try simp only [Act.put,ly])
       refine takeT 4 hHeld ?_
       (try simp only [Act.put,ly])
       refine takeT 5 hHeld ?_
       (try simp only [Act.put,ly])
       refine takeT 6 hHeld ?_
       (try simp only [Act.put,ly])
       refine takeT 7 hHeld ?_
       (try simp only [Act.put,ly])
       refine takeT 8 hHeld ?_
       (try simp only [Act.put,ly])
       refine wpAnyH_ready (rs:=[9]) (by kernel_rfl) (by simp) ?_
       refine AllReadyH.cons rfl (fun K hK=>?_) AllReadyH.nil
       go_simp
       refine (ratcompare_any _ (fun _=>False) _ _ (yv Q) tv (RatL.mono (RatL.keep HR9.out (.of_below (HBZ.out.trans (bel:Below w.heap.size wz _)))) (by omega)) (RatL.mono (RatL.keep sz.out (.of_below (HBZ.out.trans (bel:Below w.heap.size wz _)))) (by omega))).mono ?_
       rintro e u1 ⟨he,hb1⟩
       rw [HQ.out] at he
       subst he
       have y11:=hb1.size; (try simp only [zs] at y11)
       have hbz1:Below wz.heap.size wz u1:=bel
       (try go_wp2_with fail)
       refine hK.out _ _ ?_ (fun hHeld=>?_)
       ·(try dsimp only)
        exact HLS.out _ hbz1
       clear hK K
       (try simp only [Act.put,ly])
       have HS1:=HLS.out u1 hbz1
       have Tu:Loc u1 wx.heap.size _ _:=Tz.below hbz1
       have hBu:Hid (Below wx.heap.size wx u1):=HBz.out.trans (hbz1.mono yz)
       by_cases h0:0<q
       ·have d1:decide (0<q)=true:=decide_eq_true h0
        have HV:Hid (top (fun z=>yv (x*c+z)) (z+1)=yv Q):=by show _=_; rw [HTE.out,if_pos (HZ2.out.1 h0)]
        clear HZ2 h0
        refine takeT 10 hHeld ?_
        (try simp only [Act.put,ly])
        refine wpAnyH_done (by kernel_rfl) ?_ _
        refine NoPanic.normal ?_
        obtain ⟨⟨⟨g0,g1⟩,g2,g3⟩, -⟩:=HS1
        obtain ⟨e7,f7,l7⟩:=Tu.all (w':=u1)
        clear hHeld
        go_wp2_with fail
        go_roundw
        case rel=>exact ⟨z+1,⟨b9,A9,m9,c9,b9',A9',m9',c9'⟩,by omega,by go_num,Loc.fill4 Tu,by rw [HV.out]; exact HR9,(((hBu.out.setCell (Nat.le_refl _) _).setCell (Nat.le_refl _) _).setCell (Nat.le_refl _) _).setCell (Nat.le_refl _) _⟩
        case measure=>simp only [intOf]; omega
       ·have d1:decide (0<q)=false:=decide_eq_false h0
        have HV:Hid (top (fun z=>yv (x*c+z)) (z+1)=tv):=by show _=_; rw [HTE.out,if_neg (fun h=>h0 (HZ2.out.2 h))]
        clear HZ2 h0
        refine takeT 10 hHeld ?_
        (try simp only [Act.put,ly])
        refine wpAnyH_done (by kernel_rfl) ?_ _
        refine NoPanic.normal ?_
        go_wp2_with fail
        go_roundw
        case rel=>exact ⟨z+1,⟨b2,A2,m2,c2,b2',A2',m2',c2'⟩,by omega,by go_num,Tu,by rw [HV.out]; exact sz,hBu.out⟩
        case measure=>simp only [intOf]; omega
      ·obtain rfl:z=c:=by omega
       have HGZ:Hid (GO wz w.heap.size z rows (KY+KY+1) G (fun zz x'=>if x'<x then top (fun z'=>yv (x'*z+z')) z - yv (x'*z+zz) else 0)):=HGO.out.below hBz
       have hGlt:Hid (∀ b,OX w.heap.size z G b→b<wx.heap.size):=fun b hb=>HGO.out.lt hb
       have hTV:Hid (Rsz KY (top (fun z'=>yv (x*z+z')) z)):=top_rsz (fun i hi=>HZ.out _ (by rw [HP.out]; omega)) (by omega) z (Nat.le_refl _)
       obtain ⟨tv,htv⟩:∃ q,top (fun z'=>yv (x*z+z')) z=q:=⟨_,rfl⟩
       rw [htv] at sz hTV
       have HTV:=Lib.hid htv
       have q3:=hBz.size
       clear htv hBz HGO
       go_wp2_with fail
       go_loopw [61] (fun i wr=>∃ (z':Nat),z'≤z∧i = .int .i64 z'∧GO wr w.heap.size z rows (KY+KY+1) G (fun zz x'=>if x'<x∨(x'=x∧zz<z') then top (fun z'=>yv (x'*z+z')) z - yv (x'*z+zz) else 0)∧Loc wr wx.heap.size 213 #[.bool b2, .slice A2 m2 c2, .bool b2', .slice A2' m2' c2']∧Below w.heap.size w wr) (fun i _=>z - (intOf i).toNat)
       case atStart=>exact ⟨0,by omega,rfl,HGZ.out.congr (fun zz hz x' hx'=>by simp),Tz,HBZ.out⟩
       case round=>
        clear HGZ Tz HBZ
        obtain ⟨z',hz',rfl,hGO,Tz,hB'⟩:=hrel
        obtain ⟨wq,rfl⟩:∃ wq:World,wq=wr:=⟨_,rfl⟩
        have yq:=hB'.size
        have HGO:=Lib.hid hGO
        have HBQ:=Lib.hid hB'
        have q2:=Tz.lt
        clear hGO hB'
        by_cases hltz:z'<z
        ·obtain ⟨Q,hQ⟩:∃ Q,P+z'=Q:=⟨_,rfl⟩
         have hQw:IntKind.i64.wrap ((P:Int)+(z':Int))=(Q:Int):=by rw [IntKind.wrap_i64]; omega
         have HQQ:Hid (yv Q=yv (x*z+z')):=by show _=_; rw [HP.out,hQ]
         have hQlt:Q<ny:=by omega
         obtain ⟨a9,b9,A9,m9,c9,b9',A9',m9',c9',ea9,hab9, -,x0,x1,x2,x3,r9⟩:=Nums.at H.out hQlt
         injection ea9 with ea9
         subst ea9
         have HR9:=Lib.hid r9
         have hb9:(a8.add (Q*4)).block<w.heap.size:=by rw [addr_block]; exact hab9
         obtain ⟨⟨cs,hO,hcs⟩,hrow,hne,hinj⟩:=HGO.out
         obtain ⟨rs,hline,hrs,hval⟩:=hrow z' hltz
         have hOl:=hO.lt
         have hGl:=Loc.lt hline
         have hGx:G z'<wx.heap.size:=hGlt.out _ (.inr ⟨z',hltz,rfl⟩)
         have hGne:=hne z' hltz
         have HLS:Hid (∀ W,Below wq.heap.size wq W→(W.cell? ⟨w.heap.size,z',none⟩=some (.slice (some ⟨G z',0,none⟩) rows rows)∧(W.cell? ⟨wx.heap.size,0,none⟩=some (.bool b2)∧W.cell? ⟨wx.heap.size,1,none⟩=some (.slice A2 m2 c2))∧W.cell? ⟨wx.heap.size,2,none⟩=some (.bool b2')∧W.cell? ⟨wx.heap.size,3,none⟩=some (.slice A2' m2' c2'))∧(W.cell? (a8.add (Q*4))=some (.bool b9)∧W.cell? ⟨(a8.add (Q*4)).block,(a8.add (Q*4)).off+1,none⟩=some (.slice A9 m9 c9))∧W.cell? ⟨(a8.add (Q*4)).block,(a8.add (Q*4)).off+2,none⟩=some (.bool b9')∧W.cell? ⟨(a8.add (Q*4)).block,(a8.add (Q*4)).off+3,none⟩=some (.slice A9' m9' c9')):=fun W hW=>by
          have hK:Keep (fun _=>False) w W:= .of_below (HBQ.out.trans (hW.mono yq))
          exact ⟨⟨by rw [Loc.cell (hO.below hW)]; exact hcs z' hltz,⟨Loc.cell (Tz.below hW) 0,Loc.cell (Tz.below hW) 1⟩,Loc.cell (Tz.below hW) 2,Loc.cell (Tz.below hW) 3⟩,⟨cell_keep x0 hb9 id hK,cell_keep x1 hb9 id hK⟩,cell_keep x2 hb9 id hK,cell_keep x3 hb9 id hK⟩
         obtain ⟨r0,hr0⟩:∃ r,rs[x]? = some r:=⟨_,List.getElem?_eq_getElem (by omega)⟩
         have k4:(0:Int)≤(Q:Int):=by omega
         have k5:(Q:Int)<(ny:Int):=by omega
         have k6:(0:Int)≤(z':Int):=by omega
         have k7:(z':Int)<(z:Int):=by omega
         have k8:(0:Int)≤(x:Int):=by omega
         have k9:(x:Int)<(rows:Int):=by omega
         have HLN:=Lib.hid hline
         have HR0:=Lib.hid hr0
         have HRY:Hid (Rsz KY (yv Q)):=HZ.out Q hQlt
         clear x0 x1 x2 x3 hQ r9 hrow hinj hcs hline hval hrs hr0 hne
         go_wp2_with fail
         refine wp_region_noPanic ?_
         refine wp_region_heldK (k:=16) (S:=(fun W=>(W.cell? ⟨w.heap.size,z',none⟩=some (.slice (some ⟨G z',0,none⟩) rows rows)∧(W.cell? ⟨wx.heap.size,0,none⟩=some (.bool b2)∧W.cell? ⟨wx.heap.size,1,none⟩=some (.slice A2 m2 c2))∧W.cell? ⟨wx.heap.size,2,none⟩=some (.bool b2')∧W.cell? ⟨wx.heap.size,3,none⟩=some (.slice A2' m2' c2'))∧(W.cell? (a8.add (Q*4))=some (.bool b9)∧W.cell? ⟨(a8.add (Q*4)).block,(a8.add (Q*4)).off+1,none⟩=some (.slice A9 m9 c9))∧W.cell? ⟨(a8.add (Q*4)).block,(a8.add (Q*4)).off+2,none⟩=some (.bool b9')∧W.cell? ⟨(a8.add (Q*4)).block,(a8.add (Q*4)).off+3,none⟩=some (.slice A9' m9' c9'))) (by kernel_rfl) ?_ (fun hHeld=>?_)
         ·exact HLS.out _ bel
         refine puK 0 ?_
         (try simp only [Act.put,ly])
         refine puK 1 ?_
         (try simp only [Act.put,ly])
         refine puK 2 ?_
         (try simp only [Act.put,ly])
         refine tkK 3 ?_
         (try simp only [Act.put,ly])
         refine puK 4 ?_
         (try simp only [Act.put,ly])
         refine tkK 5 ?_
         (try simp only [Act.put,ly])
         refine puK 6 ?_
         (try simp only [Act.put,ly])
         refine puK 7 ?_
         (try simp only [Act.put,ly])
         refine puK 8 ?_
         (try simp only [Act.put,ly])
         refine puK 9 ?_
         (try simp only [Act.put,ly])
         refine puK 10 ?_
         (try simp only [Act.put,ly])
         refine puK 11 ?_
         (try simp only [Act.put,ly])
         refine puK 12 ?_
         (try simp only [Act.put,ly])
         refine tkK 13 ?_
         (try simp only [Act.put,ly])
         refine wpAnyK_ready (rs:=[14]) (by kernel_rfl) (by simp) ?_
         refine AllReadyK.cons rfl (fun KK hKK=>?_) AllReadyK.nil
         go_simp
         refine (sub_rat _ (fun _=>False) _ _ tv (yv Q) (RatL.mono (RatL.keep sz.out (.of_below (HBQ.out.trans (bel:Below w.heap.size wq _)))) (by omega)) (RatL.mono (RatL.keep HR9.out (.of_below (HBQ.out.trans (bel:Below w.heap.size wq _)))) (by omega))).mono ?_
         rintro e u1 ⟨v1,rfl,j1,hb1⟩
         obtain ⟨b12,A12,m12,c12,b12',A12',m12',c12',rfl,j1, -, -⟩:=j1.op
         have y11:=hb1.size; (try simp only [zs] at y11)
         have hbz1:Below wq.heap.size wq u1:=bel
         have hl1:Line u1 (G z') rs:=Loc.below HLN.out hbz1
         obtain ⟨g0,g1,g2,g3⟩:=Line.cells hl1 HR0.out
         have gf:=Line.frz hl1
         have gl:=Loc.lt hl1
         have HJ1:Hid (RatL (KY+KY+1) u1 (OX w.heap.size z G) (.agg #[.bool b12, .slice A12 m12 c12, .bool b12', .slice A12' m12' c12']) (tv - yv Q)):=by
          have e:tv - yv Q=tv + -(yv Q):=by grind
          refine RatL.weak (j1.len (by rw [e]; exact hTV.out.add HRY.out.neg)) (fun b _ hb=>?_)
          have:=hGlt.out b hb
          show b<_
          simp only [size_drew]
          omega
         (try go_wp2_with fail)
         refine hKK.out _ _ ?_ (fun hHeld=>?_)
         ·(try dsimp only)
          exact HLS.out _ hbz1
         clear hKK KK
         (try simp only [Act.put,ly])
         refine puK 15 ?_
         (try simp only [Act.put,ly])
         refine wpAnyK_ready (rs:=[16]) (by kernel_rfl) (by simp) ?_
         refine AllReadyK.last (by kernel_rfl) rfl (fun KK hKK=>?_) AllReadyK.nil
         go_simp
         refine hKK.out _ _ ?_
         clear hKK KK
         (try simp only [Act.put,ly])
         refine wpAnyK_done (by kernel_rfl) ?_ _
         refine NoPanic.normal ?_
         have HPUT:Hid (GO ((((u1.setCell ⟨G z',x*4,none⟩ (.bool b12)).setCell ⟨G z',x*4+1,none⟩ (.slice A12 m12 c12)).setCell ⟨G z',x*4+2,none⟩ (.bool b12')).setCell ⟨G z',x*4+3,none⟩ (.slice A12' m12' c12')) w.heap.size z rows (KY+KY+1) G (fun zz x'=>if x'<x∨(x'=x∧zz<z'+1) then top (fun z'=>yv (x'*z+z')) z - yv (x'*z+zz) else 0)):=by
          refine (HGO.out.below hbz1).put hltz hltx ⟨b12,A12,m12,c12,b12',A12',m12',c12'⟩ ?_ (fun zz hz x' hx' hne=>?_)
          ·(try dsimp only)
           rw [if_pos (by omega),HTV.out,← HQQ.out]
           exact HJ1.out
          ·(try dsimp only)
           by_cases h:x'<x∨(x'=x∧zz<z')
           ·rw [if_pos h,if_pos (by omega)]
           ·rw [if_neg h,if_neg (by omega)]
         have HTF:Hid (Loc ((((u1.setCell ⟨G z',x*4,none⟩ (.bool b12)).setCell ⟨G z',x*4+1,none⟩ (.slice A12 m12 c12)).setCell ⟨G z',x*4+2,none⟩ (.bool b12')).setCell ⟨G z',x*4+3,none⟩ (.slice A12' m12' c12')) wx.heap.size 213 #[.bool b2, .slice A2 m2 c2, .bool b2', .slice A2' m2' c2']):=((((Tz.below hbz1).far (p:=⟨G z',x*4,none⟩) (by dsimp only; omega) _).far (p:=⟨G z',x*4+1,none⟩) (by dsimp only; omega) _).far (p:=⟨G z',x*4+2,none⟩) (by dsimp only; omega) _).far (p:=⟨G z',x*4+3,none⟩) (by dsimp only; omega) _
         have HBF:Hid (Below w.heap.size w ((((u1.setCell ⟨G z',x*4,none⟩ (.bool b12)).setCell ⟨G z',x*4+1,none⟩ (.slice A12 m12 c12)).setCell ⟨G z',x*4+2,none⟩ (.bool b12')).setCell ⟨G z',x*4+3,none⟩ (.slice A12' m12' c12'))):=((((HBQ.out.trans (hbz1.mono yq)).setCell (by dsimp only; omega) _).setCell (by dsimp only; omega) _).setCell (by dsimp only; omega) _).setCell (by dsimp only; omega) _
         clear g0 g1 g2 g3 gf gl
         go_wp2_with fail
         go_roundw
         case rel=>exact ⟨z'+1,by omega,by go_num,HPUT.out,HTF.out,HBF.out⟩
         case measure=>simp only [intOf]; omega
        ·obtain rfl:z'=z:=by omega
         go_wp2_with fail
         go_roundw
         case rel=>
          refine ⟨x+1,by omega,by go_num,HGO.out.congr (fun zz hz x' hx'=>?_),HBQ.out⟩
          by_cases h:x'<x+1
          ·rw [if_pos h,if_pos (by omega)]
          ·rw [if_neg h,if_neg (by omega)]
         case measure=>simp only [intOf]; omega
    ·obtain rfl:x=rows:=by omega
     have HMAT:=Lib.hid ((HGO.out.congr (f':=fun z x'=>top (fun z=>yv (x'*c+z)) c - yv (x'*c+z)) (fun z hz x' hx'=>by rw [if_pos hx'])).mat (by unfold maxLen; omega) (by unfold maxLen; omega))
     go_wp2_with fail
     go_ret
     exact ⟨_,rfl,HMAT.out,⟨_,rfl⟩,HBX.out⟩
end Go.Proofs.YtbdcjhoedhhabaaGreat

/- Lists of one-cell elements that grow by append. -/
namespace Go.Proofs.YtbdcjhoedhhabaaGreat
open Go.RowKit

/-- A list of one-cell elements that lies in a block of its own, at or above base. -/
def Own1 (w:World) (base:Nat) (e:TypeId) (v:Value) (us:List Value):Prop:=w.ownsRow base e 1 v us.length us

section
variable {w w':World} {base:Nat} {v:Value} {us:List Value} {X:Nat→Prop} {e:TypeId}
theorem Own1.nil (w:World) (base:Nat) (e:TypeId):Own1 w base e (.slice none 0 0) []:=World.ownsRow_nil _ _ _ _
theorem Own1.lt (h:Own1 w base e v us) {g:Nat} (hg:v.ownBlock=some g):g<w.heap.size∧base≤g:=by
 rcases h.2 with ⟨h',_⟩ | ⟨g',cap',cur,h',hb,hg',_,_,hsz,htake⟩
 ·rw [h'] at hg; cases hg
 ·rw [h'] at hg; injection hg with hg; subst hg
  exact ⟨(Array.getElem?_eq_some_iff.1 hg').1,hb⟩
theorem Own1.below (h:Own1 w base e v us) (hb:Below w.heap.size w w'):Own1 w' base e v us:=by
 refine ⟨h.1,?_⟩
 rcases h.2 with ⟨h',hn⟩ | ⟨g',cap',cur,h',h3,hg',h1,h2,hsz,htake⟩
 ·exact .inl ⟨h',hn⟩
 ·exact .inr ⟨g',cap',cur,h',h3,by rw [hb.block g' (Array.getElem?_eq_some_iff.1 hg').1]; exact hg',h1,h2,hsz,htake⟩
theorem Own1.keep (h:Own1 w base e v us) (hb:Keep X w w') (hX:∀ g,v.ownBlock=some g→¬ X g):Own1 w' base e v us:=by
 refine ⟨h.1,?_⟩
 rcases h.2 with ⟨h',hn⟩ | ⟨g',cap',cur,h',h3,hg',h1,h2,hsz,htake⟩
 ·exact .inl ⟨h',hn⟩
 ·exact .inr ⟨g',cap',cur,h',h3,by rw [hb.block g' (Array.getElem?_eq_some_iff.1 hg').1 (hX g' (by rw [h']; rfl))]; exact hg',h1,h2,hsz,htake⟩
theorem Own1.stay (h:Own1 w base e v us) (hb:∀ g,v.ownBlock=some g→Stay g w w'):Own1 w' base e v us:=by
 refine ⟨h.1,?_⟩
 rcases h.2 with ⟨h',hn⟩ | ⟨g',cap',cur,h',h3,hg',h1,h2,hsz,htake⟩
 ·exact .inl ⟨h',hn⟩
 ·exact .inr ⟨g',cap',cur,h',h3,by rw [(hb g' (by rw [h']; rfl) (Array.getElem?_eq_some_iff.1 hg').1).1]; exact hg',h1,h2,hsz,htake⟩
/-- The shape of such a list that is not empty. -/
theorem Own1.op (h:Own1 w base e v us):(v = .slice none 0 0∧us = [])∨∃ (g cap:Nat) (cur:Array Value),v = .slice (some ⟨g,0,none⟩) us.length cap∧base≤g∧us.length≤cap∧Loc w g e cur∧∀ (i:Nat) (u:Value),us[i]? = some u→cur[i]? = some u:=by
 have hl:=h.1
 rcases h.2 with ⟨h',hn⟩ | ⟨g',cap',cur,h',h3,hg',h1,h2,hsz,htake⟩
 ·exact .inl ⟨h',List.length_eq_zero_iff.1 hn⟩
 ·refine .inr ⟨g',cap',cur,h',h3,h1,hg',fun i u hu=>?_⟩
  have hi:=(List.getElem?_eq_some_iff.1 hu).1
  rw [←htake,List.getElem?_take] at hu
  split at hu
  ·simpa using hu
  ·cases hu
end

theorem ValL.up {k j:Nat} {w:World} {X:Nat→Prop} {rs:List R4} {f:Nat→Rat} (h:ValL k w X rs f) (hj:k≤j):ValL j w X rs f:=fun i r hr=>(h i r hr).mono hj
/-- The first d values are canonical. -/
def ValP (d:Nat) (w:World) (X:Nat→Prop) (rs:List R4) (f:Nat→Rat):Prop:=∀ i r,i<d→rs[i]? = some r→RatV w X r.v (f i)
theorem ValP.keep {d:Nat} {w w':World} {X:Nat→Prop} {rs:List R4} {f:Nat→Rat} (h:ValP d w X rs f) (hk:Keep X w w'):ValP d w' X rs f:=fun i r hi hr=>(h i r hi hr).keep hk
theorem ValP.zero (w:World) (X:Nat→Prop) (rs:List R4) (f:Nat→Rat):ValP 0 w X rs f:=fun i r hi _=>absurd hi (Nat.not_lt_zero i)
theorem ValP.set {d:Nat} {w:World} {X:Nat→Prop} {rs:List R4} {f:Nat→Rat} (h:ValP d w X rs f) {r:R4} (hr:RatV w X r.v (f d)):ValP (d+1) w X (rs.set d r) f:=fun j q hj hq=>by
 by_cases hjd:j=d
 ·subst hjd
  rw [List.getElem?_set] at hq
  split at hq
  ·split at hq
   ·injection hq with hq; subst hq; exact hr
   ·simp at hq
  ·exact absurd rfl ‹_›
 ·rw [List.getElem?_set_ne (fun e=>hjd e.symm)] at hq
  exact h j q (by omega) hq
theorem ValP.all {d:Nat} {w:World} {X:Nat→Prop} {rs:List R4} {f:Nat→Rat} (h:ValP d w X rs f) (hd:rs.length=d):ValV w X rs f:=fun i r hr=>h i r (by rw [←hd]; exact (List.getElem?_eq_some_iff.1 hr).1) hr

/-- One element appended. -/
theorem wp_push1 {o:Oper} {a:Act} {K:Act→World→Prop} {Q:Exit→Act→World→Prop} {t e:TypeId} {z:Value} {bytes:Nat} (w:World) (s x:Operand) (ho:o.op = .call { callee:= .builtin .append,args:=#[s,x],argTypes:=#[t,t] })
 (ht:Tryz.prog.underlying t=some (.slice e)) (hE:(Tryz.prog.info? e).map (fun i=>(i.zero,i.size,i.bytes))=some (some z,1,bytes)) (hzs:z.cells.size=1) (hb:bytes≤64)
 (base:Nat) (v:Value) (us:List Value) (hs:a.eval s=v) (hown:Own1 w base e v us) (H:Nat) (u:Value) (hx:a.eval x = .slice (some ⟨H,0,none⟩) 1 1) (hH:w.heap[H]? = some (.cells #[u] e (0,0))) (hu:u.oneCell'=true)
 (hn:us.length≤1000) (hbase:base≤w.heap.size)
 (h:∀ g cap w',Own1 w' base e (.slice (some ⟨g,0,none⟩) (us.length+1) cap) (us ++ [u])→w.grownBy w' v.ownBlock→(v.ownBlock=some g∨g=w.heap.size)→g<w'.heap.size→K (a.put o.dst (.slice (some ⟨g,0,none⟩) (us.length+1) cap)) w') :
 Oper.wp Tryz.prog o a w K Q:=by
 obtain ⟨i,hi,hz0,hz1,hz2⟩:=info_parts hE
 refine wp_append_lies w s x t ho base e i z 1 bytes ht hi hz0 hz1 hz2 hzs (by omega) v us.length us hs hown ⟨H,0,none⟩ 1 1 [u] hx (by simp) (fun j u' hu'=>World.news_of_block hH j u' (by simpa using hu')) (by simpa using hu) (by omega) (by unfold maxLen; omega) (by have:=Nat.mul_le_mul (show us.length+1≤1001 by omega) hb; omega) hbase _ rfl ?_
 intro g cap w' h1 h2 h3 h4
 refine h g cap w' ?_ h2 h3 h4
 unfold Own1
 rw [List.length_append]
 exact h1
theorem step_push1 {ops:Array Oper} {o:Oper} {a:Act} {K:Act→World→Prop} {Q:Exit→Act→World→Prop} {E:Prop} {t e:TypeId} {z:Value} {bytes:Nat} (w:World) (hgd:o.guard=none) (s x:Operand) (ho:o.op = .call { callee:= .builtin .append,args:=#[s,x],argTypes:=#[t,t] })
 (ht:Tryz.prog.underlying t=some (.slice e)) (hE:(Tryz.prog.info? e).map (fun i=>(i.zero,i.size,i.bytes))=some (some z,1,bytes)) (hzs:z.cells.size=1) (hb:bytes≤64)
 (base:Nat) (v:Value) (us:List Value) (hs:a.eval s=v) (hown:Own1 w base e v us) (H:Nat) (u:Value) (hx:a.eval x = .slice (some ⟨H,0,none⟩) 1 1) (hH:w.heap[H]? = some (.cells #[u] e (0,0))) (hu:u.oneCell'=true)
 (hn:us.length≤1000) (hbase:base≤w.heap.size)
 (h:∀ g cap w',Own1 w' base e (.slice (some ⟨g,0,none⟩) (us.length+1) cap) (us ++ [u])→w.grownBy w' v.ownBlock→(v.ownBlock=some g∨g=w.heap.size)→g<w'.heap.size→K (a.put o.dst (.slice (some ⟨g,0,none⟩) (us.length+1) cap)) w') :
 if Region.wanted o (yielded ops a.tmps)=true then Oper.wp Tryz.prog o a w K Q else E:=by
 have hw:Region.wanted o (yielded ops a.tmps)=true:=by simp [Region.wanted,hgd]
 rw [if_pos hw]
 exact wp_push1 w s x ho ht hE hzs hb base v us hs hown H u hx hH hu hn hbase h

theorem info_int1:(Tryz.prog.info? 3).map (fun i=>(i.zero,i.size,i.bytes))=some (some (.int .i64 0),1,8):=by kernel_rfl
theorem info_list1:(Tryz.prog.info? 71).map (fun i=>(i.zero,i.size,i.bytes))=some (some (.slice none 0 0),1,24):=by kernel_rfl
end Go.Proofs.YtbdcjhoedhhabaaGreat

