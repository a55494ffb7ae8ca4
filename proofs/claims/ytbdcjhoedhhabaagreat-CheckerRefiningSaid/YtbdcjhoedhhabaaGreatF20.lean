/- Contracts of the functions that the statements reach, part 20. -/
import Derived.Test.YtbdcjhoedhhabaaGreatRows
import Derived.Deep.DeepCutAuto
import Derived.Deep.CutBlock
import Derived.Lib.BitFns
import Derived.Lib.Walk
import Derived.Test.YtbdcjhoedhhabaaGreatF3
import Derived.Test.YtbdcjhoedhhabaaGreatF19
set_option linter.unusedSimpArgs false
set_option linter.unusedVariables false

/- digit: the next word of a quotient, and the divisor times it taken away. -/
namespace Go.Proofs.YtbdcjhoedhhabaaGreat
open Go.RowKit

/-- The words from j on, k of them. -/
def seg (us:List Nat) (j k:Nat):Nat:=val ((us.drop j).take k)
theorem seg_succ (us:List Nat) (j k:Nat) (h:j+k<us.length):seg us j (k+1)=seg us j k+4294967296 ^ k*us[j+k]:=by
 unfold seg
 rw [val_take_succ _ k (by rw [List.length_drop]; omega),List.getElem_drop]
theorem seg_set (us:List Nat) (j k y:Nat) (h:j+k<us.length):seg (us.set (j+k) y) j (k+1)=seg us j k+4294967296 ^ k*y:=by
 unfold seg
 have e:(us.set (j+k) y).drop j=(us.drop j).set k y:=by
  rw [List.drop_set,if_neg (by omega)]
  congr 1; omega
 rw [e,val_take_set _ k y (by rw [List.length_drop]; omega)]
theorem seg_zero (us:List Nat) (j:Nat):seg us j 0=0:=by simp [seg]
theorem seg_lt {us:List Nat} (h:Ws us) (j k:Nat):seg us j k<4294967296 ^ k:=by
 unfold seg
 refine Nat.lt_of_lt_of_le (val_lt ((h.drop j).take k)) (Nat.pow_le_pow_right (by omega) ?_)
 rw [List.length_take]; omega

theorem seg_split {us ys:List Nat} {j p:Nat} (hu:Ws us) (hy:Ws ys) (hl:ys.length=p+2) (hj:j+(p+2)<us.length) (ht:2147483648≤ys[p+1]) (hlt:seg us j (p+2+1)<4294967296*val ys) :
 Split (4294967296 ^ p) (val ys) (seg us j (p+2+1)) (val (ys.take p)) ys[p] ys[p+1] (seg us j p) us[j+p] us[j+(p+1)] us[j+(p+2)]:=by
 refine ⟨Nat.pow_pos (by omega),?_,?_,?_,seg_lt hu j p,hy.get _,hu.get _,hu.get _,ht,hy.get _,hlt⟩
 ·have e:val ys=val (ys.take (p+1+1)):=by rw [List.take_of_length_le (by omega)]
  rw [e,val_take_succ ys (p+1) (by omega),val_take_succ ys p (by omega),Nat.pow_succ,Nat.mul_add,Nat.mul_assoc]
  omega
 ·rw [seg_succ us j (p+2) hj,seg_succ us j (p+1) (by omega),seg_succ us j p (by omega)]
  simp only [Nat.pow_succ,Nat.mul_add,Nat.mul_assoc]
  omega
 ·have h:=val_lt (hy.take p)
  rw [List.length_take,(by omega:min p ys.length=p)] at h
  exact h

theorem addb_end {nw T V X e s:Nat} (h:s+T*e=nw+V) (h2:nw+V=T+X) (hs:s<T) (hx:X<T):s=X:=by
 rcases Nat.lt_or_ge e 1 with h0 | h0
 ·obtain rfl:e=0:=by omega
  rw [Nat.mul_zero] at h
  omega
 ·rcases Nat.lt_or_ge 1 e with h1 | h1
  ·have:T*2≤T*e:=Nat.mul_le_mul_left _ h1
   omega
  ·obtain rfl:e=1:=by omega
   rw [Nat.mul_one] at h
   omega

set_option maxRecDepth 20000 in
set_option maxHeartbeats 4000000 in
theorem digit_any (w:World) (g j p cap:Nat) (us ys:List Nat) (vv:Value) (hr:Row w g us) (hu:Ws us) (hv:Words w (fun b=>b=g) vv ys) (hn:ys.length=p+2) (hj:j+(p+2)<us.length) (hlen:us.length≤10000000000000)
 (htop:2147483648≤ys[p+1]) (hlt:seg us j (p+2+1)<4294967296*val ys) :
 Calls Tryz.prog 556 #[.slice (some ⟨g,j,none⟩) (p+2+1) cap,vv] w fun e w'=>∃ us',e = .returned (.int .u32 ((seg us j (p+2+1) / val ys:Nat):Int))∧Row w' g us'∧Ws us'∧us'.length=us.length∧(∀ i,i<j∨j+(p+2)<i→us'[i]? = us[i]?)∧seg us' j (p+2+1)=seg us j (p+2+1) % val ys∧w.grownBy w' (some g):=by
 obtain ⟨B,d,rfl,hd,_,HB⟩:=hv.open_
 have S:=seg_split hu hv.2 hn hj htop hlt
 have HS:=Lib.hid S
 obtain ⟨hG1,hG2⟩:=S.first
 have HG2:=Lib.hid hG2
 have HG1:=Lib.hid hG1
 clear hG1 hG2
 have b0:=S.hu1
 have b1:=hu.get hj
 have b2:=S.hu2
 have b3:=S.hvt
 have b4:=S.hvt2
 have b5:=S.hv2
 clear S
 have c0:=hr.cell (k:=j+(p+2)) hj
 have c1:=hr.cell (k:=j+(p+1)) (by omega)
 have c2:=hr.cell (k:=j+p) (by omega)
 obtain ⟨a,rfl,_,_,d1⟩:=HB.at_ (k:=p+1) (by omega)
 obtain ⟨a',ha',_,_,d2⟩:=HB.at_ (k:=p) (by omega)
 injection ha' with ha'
 subst ha'
 generalize hu0:us[j+(p+2)] = u0 at *
 generalize hu1:us[j+(p+1)] = u1 at *
 generalize hu2:us[j+p] = u2 at *
 generalize hvt:ys[p+1] = vt at *
 generalize hv2:ys[p] = v2 at *
 have HU0:=Lib.hid hu0
 have HU2:=Lib.hid hu2
 have HVT:=Lib.hid hvt
 have HV2:=Lib.hid hv2
 clear hu0 hu1 hu2 hvt hv2
 have hxl:=HB.lt_max
 rw [hn] at hd HB hxl
 clear hv
 rw [hn]
 have HN:=Lib.hid hn
 obtain ⟨top,htp⟩:∃ top,top=u0*4294967296+u1:=⟨_,rfl⟩
 have hjoin:=join_u64 u0 u1 b1 b0
 rw [←htp] at hjoin
 have HTP:=Lib.hid htp
 have e1:IntKind.u64.wrap ((u0:Int)*4294967296)=(u0:Int)*4294967296:=by rw [IntKind.wrap_u64]; omega
 clear htp
 have hqlt:=HS.out.q_lt
 generalize hQ:seg us j (p+2+1) / val ys=Q at *
 have HQ:=Lib.hid hQ
 clear hQ
 have i0:(0:Int)≤(p:Int):=by omega
 have i1:(p:Int)≤10000000000000:=by omega
 have i3:(p:Int)+1<(p:Int)+2:=by omega
 have i4:(0:Int)≤(p:Int)+1:=by omega
 have i5:(p:Int)<(p:Int)+2:=by omega
 have w1:IntKind.i64.wrap ((p:Int)+2 - 1)=(p:Int)+1:=by rw [IntKind.wrap_i64]; omega
 have w2:IntKind.i64.wrap ((p:Int)+2 - 2)=(p:Int):=by rw [IntKind.wrap_i64]; omega
 have w3:IntKind.i64.wrap ((p:Int)+1)=(p:Int)+1:=by rw [IntKind.wrap_i64]; omega
 have w4:IntKind.i64.wrap (p:Int)=(p:Int):=by rw [IntKind.wrap_i64]; omega
 have w5:(p:Int)+2 - 1=(p:Int)+1:=by omega
 have w6:(p:Int)+2 - 2=(p:Int):=by omega
 have d1:w.cell? ⟨a.block,a.off+(p+1),none⟩=some (.int .u32 ((vt:Nat):Int)):=by have h:=d1; simp only [Addr.add] at h; simpa using h
 go_enter Tryz.func556,Tryz.ntmps556
 go_wp2_with fail
 go_quiet (fail)
 obtain ⟨G0,hG0⟩:∃ G,top / vt=G:=⟨_,rfl⟩
 obtain ⟨R0,hR0⟩:∃ R,top % vt=R:=⟨_,rfl⟩
 have e2:((top:Nat):Int) / ((vt:Nat):Int)=((G0:Nat):Int):=by rw [←hG0]; exact (Int.natCast_ediv top vt).symm
 have e3:((top:Nat):Int) % ((vt:Nat):Int)=((R0:Nat):Int):=by rw [←hR0]; exact (Int.natCast_emod top vt).symm
 have hv0:((vt:Int) != 0)=true:=by rw [bne_iff_ne]; omega
 have hv1:((vt:Int) == 0)=false:=by rw [beq_eq_false_iff_ne]; omega
 have hg0:G0*vt+R0=u1+4294967296*u0:=by
  have h:=Nat.div_add_mod top vt
  rw [hG0,hR0,Nat.mul_comm] at h
  have:=HTP.out
  omega
 have htt:top=u1+4294967296*u0:=by have:=HTP.out; omega
 have hb0:=HG1.out
 have hq0:=HG2.out
 rw [←htt,hG0] at hb0 hq0
 have hr0:R0<vt:=by rw [←hR0]; exact Nat.mod_lt _ (by omega)
 have hwg:IntKind.u64.wrap ((G0:Nat):Int)=((G0:Nat):Int):=by rw [IntKind.wrap_u64]; omega
 have HG0:=Lib.hid hg0
 clear hG0 hR0 hg0 htt
 go_wp2_with fail
 go_quiet (fail)
 go_upto_block 0 with fail
 go_cut [7,8] (fun x _ W=>∃ G:Nat,x = .int .u64 (G:Nat)∧G<4294967296∧Q≤G∧G≤Q+1∧Row W g us∧w.grownBy W (some g))
 case first=>
  go_wp2_with fail
  go_loopw [7,8] (fun x y wr=>∃ G R:Nat,x = .int .u64 (G:Nat)∧y = .int .u64 (R:Nat)∧G*vt+R=u1+4294967296*u0∧R<4294967296∧Q≤G∧G≤4294967298∧Row wr g us∧w.grownBy wr (some g)) (fun x _ _=>(intOf x).toNat)
  case atStart=>exact ⟨G0,R0,rfl,int_eq e3,HG0.out,by omega,hq0,hb0,(hr.drewN _).drewN _,grown_drewN (grown_drewN (grown_refl _ _) _) _⟩
  case round=>
   obtain ⟨G,R,rfl,rfl,hGR,hR,hQG,hGB,hrr,hgr⟩:=hrel
   clear d1 d2 c0 c1 c2 e2 e3 hwg hq0 hb0 hr0 hv0 hv1
   have HGR:=Lib.hid hGR
   clear hGR
   have HBr:=HB.keep (keep_grown hgr rfl)
   obtain ⟨a1,ha1,_,_,d1⟩:=HBr.at_ (k:=p+1) (by rw [HN.out]; omega)
   obtain ⟨a2,ha2,_,_,d2⟩:=HBr.at_ (k:=p) (by rw [HN.out]; omega)
   injection ha1 with ha1
   injection ha2 with ha2
   subst ha1 ha2
   rw [HVT.out] at d1
   rw [HV2.out] at d2
   have d1:wr.cell? ⟨a.block,a.off+(p+1),none⟩=some (.int .u32 ((vt:Nat):Int)):=by have h:=d1; simp only [Addr.add] at h; simpa using h
   have c2:=hrr.cell (k:=j+p) (by omega)
   rw [HU2.out] at c2
   by_cases hge:4294967296≤G
   ·have hless:=HS.out.less HGR.out (Or.inl hge)
    rw [HQ.out] at hless
    have hge':(4294967296:Int)≤(G:Int):=by omega
    clear hge
    obtain ⟨G1,hG1⟩:∃ G1,G=G1+1:=⟨G - 1,by omega⟩
    have g1:IntKind.u64.wrap ((G:Int) - 1)=(G1:Int):=by rw [IntKind.wrap_u64]; omega
    have g2:(G:Int) - 1=(G1:Int):=by omega
    have g3:IntKind.u64.wrap ((R:Int)+(vt:Int))=(R:Int)+(vt:Int):=by rw [IntKind.wrap_u64]; omega
    have hgr1:G1*vt+(R+vt)=u1+4294967296*u0:=by have h:=HGR.out; rw [hG1,Nat.add_mul,Nat.one_mul] at h; omega
    have HGR1:=Lib.hid hgr1
    have HGG:=Lib.hid hG1
    clear hgr1 HGR hG1
    have c2':=c2
    by_cases hbk:4294967296≤R+vt
    ·have hbk':(4294967296:Int)≤(R:Int)+(vt:Int):=by omega
     obtain ⟨hb1,hb2⟩:=HS.out.broke HGR1.out hbk
     have hnear:=HS.out.near HGR1.out hb1 hb2
     rw [HQ.out] at hnear
     have HNE:=Lib.hid hnear
     clear hb2 hnear hbk
     go_wp2_with fail
     go_quiet (fail)
     go_wp2_with fail
     go_meet
     exact ⟨G1,by first | rfl | go_num,hb1,by have:=HGG.out; omega,HNE.out,hrr.drewN _,grown_drewN hgr _⟩
    ·have hbk':decide ((4294967296:Int)≤(R:Int)+(vt:Int))=false:=by rw [decide_eq_false_iff_not]; omega
     clear hbk
     go_wp2_with fail
     go_quiet (fail)
     go_wp2_with fail
     go_roundw
     case rel=>exact ⟨G1,R+vt,by first | rfl | go_num,by first | rfl | go_num,HGR1.out,by have:=of_decide_eq_false hbk'; omega,by have:=HGG.out; omega,by have:=HGG.out; omega,hrr.drewN _,grown_drewN hgr _⟩
     case measure=>have:=HGG.out; simp only [intOf]; omega
   ·have hge':decide ((4294967296:Int)≤(G:Int))=false:=by rw [decide_eq_false_iff_not]; omega
    obtain ⟨M,hM⟩:∃ M,M=G*v2:=⟨_,rfl⟩
    have m0:M≤4294967295*4294967295:=by rw [hM]; exact Nat.mul_le_mul (by omega) (by omega)
    have m1:((G:Nat):Int)*((v2:Nat):Int)=((M:Nat):Int):=by rw [hM]; push_cast; rfl
    have m2:IntKind.u64.wrap ((M:Nat):Int)=((M:Nat):Int):=by rw [IntKind.wrap_u64]; omega
    have m3:IntKind.u64.wrap ((R:Int)*4294967296)=(R:Int)*4294967296:=by rw [IntKind.wrap_u64]; omega
    obtain ⟨T,hT⟩:∃ T,T=R*4294967296+u2:=⟨_,rfl⟩
    have m4:=join_u64 R u2 hR b2
    rw [←hT] at m4
    by_cases hgt:T<M
    ·have hless:=HS.out.less HGR.out (Or.inr (by rw [←hT,← hM]; exact hgt))
     rw [HQ.out] at hless
     have hgt':(T:Int)<(M:Int):=by omega
     clear hM hT hgt m0 hge
     obtain ⟨G1,hG1⟩:∃ G1,G=G1+1:=⟨G - 1,by omega⟩
     have g1:IntKind.u64.wrap ((G:Int) - 1)=(G1:Int):=by rw [IntKind.wrap_u64]; omega
     have g2:(G:Int) - 1=(G1:Int):=by omega
     have g3:IntKind.u64.wrap ((R:Int)+(vt:Int))=(R:Int)+(vt:Int):=by rw [IntKind.wrap_u64]; omega
     have hgr1:G1*vt+(R+vt)=u1+4294967296*u0:=by have h:=HGR.out; rw [hG1,Nat.add_mul,Nat.one_mul] at h; omega
     have HGR1:=Lib.hid hgr1
     have HGG:=Lib.hid hG1
     clear hgr1 HGR hG1
     have c2':=c2
     by_cases hbk:4294967296≤R+vt
     ·have hbk':(4294967296:Int)≤(R:Int)+(vt:Int):=by omega
      obtain ⟨hb1,hb2⟩:=HS.out.broke HGR1.out hbk
      have hnear:=HS.out.near HGR1.out hb1 hb2
      rw [HQ.out] at hnear
      have HNE:=Lib.hid hnear
      clear hb2 hnear hbk
      go_wp2_with fail
      go_quiet (fail)
      go_wp2_with fail
      go_meet
      exact ⟨G1,by first | rfl | go_num,hb1,by have:=HGG.out; omega,HNE.out,hrr.drewN _,grown_drewN hgr _⟩
     ·have hbk':decide ((4294967296:Int)≤(R:Int)+(vt:Int))=false:=by rw [decide_eq_false_iff_not]; omega
      clear hbk
      go_wp2_with fail
      go_quiet (fail)
      go_wp2_with fail
      go_roundw
      case rel=>exact ⟨G1,R+vt,by first | rfl | go_num,by first | rfl | go_num,HGR1.out,by have:=of_decide_eq_false hbk'; omega,by have:=HGG.out; omega,by have:=HGG.out; omega,hrr.drewN _,grown_drewN hgr _⟩
      case measure=>have:=HGG.out; simp only [intOf]; omega
    ·have hnear:=HS.out.near HGR.out (by omega) (by rw [←hT,← hM]; omega)
     rw [HQ.out] at hnear
     have HNE:=Lib.hid hnear
     have hgt':¬ (T:Int)<(M:Int):=by omega
     have hG32:G<4294967296:=by omega
     clear hM hT hgt m0 hnear hge
     go_wp2_with fail
     go_quiet (fail)
     go_wp2_with fail
     go_meet
     exact ⟨G,rfl,by omega,hQG,HNE.out,hrr.drewN _,grown_drewN hgr _⟩
 case rest=>
  obtain ⟨G,rfl,hG32,hQG,hGQ,hrc,hgc⟩:=hcut
  clear d1 d2 c0 c1 c2 e2 e3 hwg hq0 hb0 hr0 hv0 hv1 hjoin e1
  go_wp2_with fail
  have HGQ:=Lib.hid hGQ
  clear hGQ
  go_loopw [9,10,83] (fun x b i wr=>∃ (k cy bo:Nat) (vs:List Nat),k≤p+2∧i = .int .i64 (k:Nat)∧x = .int .u64 (cy:Nat)∧b = .int .u32 (bo:Nat)∧cy<4294967296∧bo≤1∧vs.length=us.length∧Ws vs∧Row wr g vs∧w.grownBy wr (some g)∧
   (∀ i,i<j∨j+k≤i→vs[i]? = us[i]?)∧seg vs j k+G*val (ys.take k)=seg us j k+4294967296 ^ k*(cy+bo)) (fun _ _ i _=>p+2 - (intOf i).toNat)
  case atStart=>exact ⟨0,0,0,us,by omega,rfl,rfl,rfl,by omega,by omega,rfl,hu,hrc,hgc,fun _ _=>rfl,by simp [seg_zero,val]⟩
  case round=>
   obtain ⟨k,cy,bo,vs,hk,rfl,rfl,rfl,hcy,hbo,hvl,hvs,hrr,hgr,hsame,hinv⟩:=hrel
   have HSAME:=Lib.hid hsame
   have HINV:=Lib.hid hinv
   have HVL:=Lib.hid hvl
   clear hsame hinv hrc
   have HBr:=HB.keep (keep_grown hgr rfl)
   by_cases hlt:k<p+2
   ·have hjk:j+k<vs.length:=by omega
    have hju:j+k<us.length:=by omega
    have hev:vs[j+k] = us[j+k]:=by
     have h:=HSAME.out (j+k) (Or.inr (Nat.le_refl _))
     rw [List.getElem?_eq_getElem hjk,List.getElem?_eq_getElem hju] at h
     injection h
    obtain ⟨a',ha',_,_,d1⟩:=HBr.at_ (k:=k) (by omega)
    injection ha' with ha'
    subst ha'
    have hy32:=HBr.lt (i:=k) (by omega)
    have cu:=hrr.cell hjk
    have fu:=hrr.frz (j+k)
    have hu32:=hvs.get hjk
    obtain ⟨y,hy⟩:∃ y,ys[k] = y:=⟨_,rfl⟩
    obtain ⟨u,hu'⟩:∃ u,vs[j+k] = u:=⟨_,rfl⟩
    rw [hy] at d1 hy32
    rw [hu'] at cu hu32 hev
    obtain ⟨m,hm⟩:∃ m,m=G*y:=⟨_,rfl⟩
    have m0:m≤4294967295*4294967295:=by rw [hm]; exact Nat.mul_le_mul (by omega) (by omega)
    have m1:((G:Nat):Int)*((y:Nat):Int)=((m:Nat):Int):=by rw [hm]; push_cast; rfl
    have m2:IntKind.u64.wrap ((m:Nat):Int)=((m:Nat):Int):=by rw [IntKind.wrap_u64]; omega
    obtain ⟨P,hP⟩:∃ P,P=cy+m:=⟨_,rfl⟩
    have m3:((cy:Nat):Int)+((m:Nat):Int)=((P:Nat):Int):=by omega
    have m4:IntKind.u64.wrap ((P:Nat):Int)=((P:Nat):Int):=by rw [IntKind.wrap_u64]; omega
    obtain ⟨lo,hlo⟩:∃ lo,lo=P % 4294967296:=⟨_,rfl⟩
    obtain ⟨hi,hhi⟩:∃ hi,hi=P / 4294967296:=⟨_,rfl⟩
    have m5:((P:Nat):Int) % 4294967296=((lo:Nat):Int):=by omega
    have m6:((P:Nat):Int) / 4294967296=((hi:Nat):Int):=by omega
    have hlo32:lo<4294967296:=by omega
    have hhi32:hi<4294967296:=by omega
    have hdb:=dif_bor u lo bo hu32 hlo32 hbo
    rw [hlo] at hdb
    have hst:=msub_step (seg vs j k) (seg us j k) (val (ys.take k)) (4294967296 ^ k) G cy bo u y (dif u lo bo) P hi (bor u lo bo) HINV.out (by rw [hP,hm]) hhi (by rw [hlo]; exact hdb)
    have hsub:=sub32_any wr u lo bo hu32 hlo32 hbo
    have hset:=hrr.set (j+k) (dif u lo bo)
    have hwset:=hvs.set (j+k) _ (dif_lt u lo bo)
    have hbo2:=bor_le u lo bo
    have HST:=Lib.hid hst
    have HEV:=Lib.hid hev
    have HY:=Lib.hid hy
    clear hdb hst hm hP hlo hhi hev hu' hy m0 hrr hvs
    go_wp2_with fail
    refine hsub.mono ?_
    rintro e w5 ⟨rfl,rfl⟩
    go_wp2_with fail
    go_roundw
    case rel=>
     refine ⟨k+1,hi,bor u lo bo,vs.set (j+k) (dif u lo bo),by omega,by go_num,rfl,rfl,hhi32,hbo2,by simpa using HVL.out,hwset,hset,grown_set hgr _ _,fun i hi=>?_,?_⟩
     ·rw [List.getElem?_set_ne (by omega)]
      exact HSAME.out i (by omega)
     ·rw [seg_set vs j k _ hjk,val_take_succ ys k (by omega),seg_succ us j k hju,HY.out,← HEV.out,Nat.pow_succ]
      exact HST.out
    case measure=>simp only [intOf]; omega
   ·obtain rfl:k=p+2:=by omega
    have hjk:j+(p+2)<vs.length:=by omega
    have hev:vs[j+(p+2)] = u0:=by
     have h:=HSAME.out (j+(p+2)) (Or.inr (Nat.le_refl _))
     rw [List.getElem?_eq_getElem hjk,List.getElem?_eq_getElem hj] at h
     injection h with h
     rw [h,HU0.out]
    have cu:=hrr.cell hjk
    have fu:=hrr.frz (j+(p+2))
    rw [hev] at cu
    have hsub:=sub32_any wr u0 cy bo b1 hcy hbo
    have hdb:=dif_bor u0 cy bo b1 hcy hbo
    have hset:=hrr.set (j+(p+2)) (dif u0 cy bo)
    have hwset:=hvs.set (j+(p+2)) _ (dif_lt u0 cy bo)
    have hseg:=seg_set vs j (p+2) (dif u0 cy bo) hjk
    have hbq:=bor_le u0 cy bo
    have n1:((cy:Nat):Int) % 4294967296=((cy:Nat):Int):=by omega
    have hinv:=HINV.out
    rw [List.take_of_length_le (by omega)] at hinv
    have hnw:seg (vs.set (j+(p+2)) (dif u0 cy bo)) j (p+2+1)+G*val ys=seg us j (p+2+1)+4294967296 ^ (p+2+1)*bor u0 cy bo:=by
     rw [hseg,seg_succ us j (p+2) hj,HU0.out,Nat.pow_succ 4294967296 (p+2),Nat.mul_assoc]
     have e:4294967296 ^ (p+2)*(dif u0 cy bo+cy+bo)=4294967296 ^ (p+2)*(u0+4294967296*bor u0 cy bo):=by rw [hdb]
     simp only [Nat.mul_add] at e hinv ⊢
     omega
    have hUV:seg us j (p+2+1) % val ys<4294967296 ^ (p+2+1):=Nat.lt_of_le_of_lt (Nat.mod_le _ _) (seg_lt hu _ _)
    obtain ⟨hend0,hend1⟩:=msub_end hnw (seg_lt hwset _ _) hbq HS.out.posV (by rw [HQ.out]; exact hQG) (by rw [HQ.out]; exact HGQ.out) hUV
    rw [HQ.out] at hend0 hend1
    have hlen2:(vs.set (j+(p+2)) (dif u0 cy bo)).length=us.length:=by simpa using HVL.out
    have hsame2:∀ i,i<j∨j+(p+2)<i→(vs.set (j+(p+2)) (dif u0 cy bo))[i]? = us[i]?:=fun i hi=>by
     rw [List.getElem?_set_ne (by omega)]
     exact HSAME.out i (by omega)
    have HE0:=Lib.hid hend0
    have HE1:=Lib.hid hend1
    have HSA2:=Lib.hid hsame2
    have HL2:=Lib.hid hlen2
    have hgr2:=grown_set hgr (j+(p+2)) (.int .u32 ((dif u0 cy bo:Nat):Int))
    clear hend0 hend1 hsame2 hlen2 hdb hnw hinv hseg hev hrr hvs hUV
    generalize hvs2:vs.set (j+(p+2)) (dif u0 cy bo)=vs2 at *
    clear hvs2
    generalize hdd:dif u0 cy bo=dd at *
    generalize hbb:bor u0 cy bo=bq at *
    clear hdd hbb
    go_wp2_with fail
    refine hsub.mono ?_
    rintro e w5 ⟨rfl,rfl⟩
    rcases (by omega:bq=0∨bq=1) with rfl | rfl
    ·obtain ⟨hgq,hsg⟩:=HE0.out rfl
     have n2:((G:Nat):Int) % 4294967296=((G:Nat):Int):=by omega
     have HGQ2:=Lib.hid hgq
     have HSG:=Lib.hid hsg
     clear hgq hsg
     go_wp2_with fail
     go_ret
     exact ⟨vs2,by rw [HGQ2.out]; rfl,hset,hwset,HL2.out,HSA2.out,HSG.out,hgr2⟩
    ·obtain ⟨hgq,hsg⟩:=HE1.out rfl
     have n2:IntKind.u64.wrap ((G:Int) - 1)=((Q:Nat):Int):=by rw [IntKind.wrap_u64]; omega
     have n3:(G:Int) - 1=((Q:Nat):Int):=by omega
     have n4:((Q:Nat):Int) % 4294967296=((Q:Nat):Int):=by omega
     have HSG:=Lib.hid hsg
     clear hgq hsg hsub
     go_wp2_with fail
     go_loopw [13,131] (fun x i wr=>∃ (k c:Nat) (vs:List Nat),k≤p+2∧i = .int .i64 (k:Nat)∧x = .int .u32 (c:Nat)∧c≤1∧vs.length=us.length∧Ws vs∧Row wr g vs∧w.grownBy wr (some g)∧
      (∀ i,i<j∨j+k≤i→vs[i]? = vs2[i]?)∧seg vs j k+4294967296 ^ k*c=seg vs2 j k+val (ys.take k)) (fun _ i _=>p+2 - (intOf i).toNat)
     case atStart=>exact ⟨0,0,vs2,by omega,rfl,rfl,by omega,HL2.out,hwset,hset,hgr2,fun _ _=>rfl,by simp [seg_zero,val]⟩
     case round=>
      obtain ⟨k,cc,vs3,hk3,rfl,rfl,hc3,hvl3,hws3,hr3,hg3,hsame3,hinv3⟩:=hrel
      have HSAME3:=Lib.hid hsame3
      have HINV3:=Lib.hid hinv3
      have HVL3:=Lib.hid hvl3
      have hl2:=HL2.out
      have HB3:=HB.keep (keep_grown hg3 rfl)
      clear hsame3 hinv3 hset fu cu d1
      by_cases hlt:k<p+2
      ·have hjk3:j+k<vs3.length:=by omega
       have hju3:j+k<vs2.length:=by omega
       have hev:vs3[j+k] = vs2[j+k]:=by
        have h:=HSAME3.out (j+k) (Or.inr (Nat.le_refl _))
        rw [List.getElem?_eq_getElem hjk3,List.getElem?_eq_getElem hju3] at h
        injection h
       obtain ⟨a',ha',_,_,d1⟩:=HB3.at_ (k:=k) (by omega)
       injection ha' with ha'
       subst ha'
       have hy32:=HB3.lt (i:=k) (by omega)
       have cu:=hr3.cell hjk3
       have fu:=hr3.frz (j+k)
       have hu32:=hws3.get hjk3
       obtain ⟨y,hy⟩:∃ y,ys[k] = y:=⟨_,rfl⟩
       obtain ⟨u,hu'⟩:∃ u,vs3[j+k] = u:=⟨_,rfl⟩
       rw [hy] at d1 hy32
       rw [hu'] at cu hu32 hev
       have hst:=addb_step (seg vs3 j k) (seg vs2 j k) (val (ys.take k)) (4294967296 ^ k) cc u y HINV3.out
       have hadd:=add32_any wr u y cc hu32 hy32 hc3
       have hset:=hr3.set (j+k) ((u+y+cc) % 4294967296)
       have hwset:=hws3.set (j+k) ((u+y+cc) % 4294967296) (Nat.mod_lt _ (by omega))
       have hc4:(u+y+cc) / 4294967296≤1:=by omega
       have HST:=Lib.hid hst
       have HEV:=Lib.hid hev
       have HY:=Lib.hid hy
       clear hst hev hu' hy hr3 hws3
       generalize hr:(u+y+cc) % 4294967296=r at *
       generalize hc':(u+y+cc) / 4294967296=c' at *
       clear hr hc'
       go_wp2_with fail
       refine hadd.mono ?_
       rintro e w5 ⟨rfl,rfl⟩
       go_wp2_with fail
       go_roundw
       case rel=>
        refine ⟨k+1,c',vs3.set (j+k) r,by omega,by go_num,rfl,hc4,by simpa using HVL3.out,hwset,hset,grown_set hg3 _ _,fun i hi=>?_,?_⟩
        ·rw [List.getElem?_set_ne (by omega)]
         exact HSAME3.out i (by omega)
        ·rw [seg_set vs3 j k _ hjk3,val_take_succ ys k (by omega),seg_succ vs2 j k hju3,HY.out,← HEV.out,Nat.pow_succ]
         exact HST.out
       case measure=>simp only [intOf]; omega
      ·obtain rfl:k=p+2:=by omega
       have hjk3:j+(p+2)<vs3.length:=by omega
       have hju3:j+(p+2)<vs2.length:=by omega
       have hev:vs3[j+(p+2)] = vs2[j+(p+2)]:=by
        have h:=HSAME3.out (j+(p+2)) (Or.inr (Nat.le_refl _))
        rw [List.getElem?_eq_getElem hjk3,List.getElem?_eq_getElem hju3] at h
        injection h
       have cu:=hr3.cell hjk3
       have fu:=hr3.frz (j+(p+2))
       have hu32:=hws3.get hjk3
       obtain ⟨u,hu'⟩:∃ u,vs3[j+(p+2)] = u:=⟨_,rfl⟩
       rw [hu'] at cu hu32 hev
       have hinv:=HINV3.out
       rw [List.take_of_length_le (by omega)] at hinv
       have hset:=hr3.set (j+(p+2)) ((u+cc) % 4294967296)
       have hwset2:=hws3.set (j+(p+2)) ((u+cc) % 4294967296) (Nat.mod_lt _ (by omega))
       have hseg:=seg_set vs3 j (p+2) ((u+cc) % 4294967296) hjk3
       have hfin:seg (vs3.set (j+(p+2)) ((u+cc) % 4294967296)) j (p+2+1)=seg us j (p+2+1) % val ys:=by
        refine addb_end (e:=(u+cc) / 4294967296) ?_ HSG.out (seg_lt hwset2 _ _) (Nat.lt_of_le_of_lt (Nat.mod_le _ _) (seg_lt hu _ _))
        rw [hseg,seg_succ vs2 j (p+2) hju3,← hev,Nat.pow_succ 4294967296 (p+2),Nat.mul_assoc]
        have e:4294967296 ^ (p+2)*(4294967296*((u+cc) / 4294967296)+(u+cc) % 4294967296)=4294967296 ^ (p+2)*(u+cc):=by rw [Nat.div_add_mod]
        simp only [Nat.mul_add] at e hinv ⊢
        omega
       have HFIN:=Lib.hid hfin
       have hlen4:(vs3.set (j+(p+2)) ((u+cc) % 4294967296)).length=us.length:=by simpa using HVL3.out
       have HL4:=Lib.hid hlen4
       have n5:(((u:Nat):Int)+((cc:Nat):Int)) % 4294967296=(((u+cc) % 4294967296:Nat):Int):=by omega
       have n6:IntKind.u32.wrap (((u:Nat):Int)+((cc:Nat):Int))=(((u+cc) % 4294967296:Nat):Int):=by rw [IntKind.wrap_u32]; omega
       clear hev hinv hseg hfin hlen4 hu' hr3 hws3
       generalize hr:(u+cc) % 4294967296=r at *
       clear hr
       go_wp2_with fail
       go_ret
       refine ⟨_,rfl,hset,hwset2,HL4.out,fun i hi=>?_,HFIN.out,grown_set hg3 _ _⟩
       rw [List.getElem?_set_ne (by omega),HSAME3.out i (by omega)]
       exact HSA2.out i hi

/- math/bits: Len32 and LeadingZeros32. -/

theorem tab_size:Lib.len8tab.size=256:=by decide +kernel
theorem tab_fin:∀ i:Fin 256,(Lib.len8tab[i.val]'(by rw [tab_size]; exact i.isLt)).toNat=Lib.bitLen i.val:=by decide +kernel
theorem tab_len (b:Int) (h0:0≤b) (h1:b<256) (h:b.toNat<Lib.len8tab.size):wrap64 ((Lib.len8tab[b.toNat]'h).toNat:Int)=(Lib.bitLen b.toNat:Int)∧Lib.bitLen b.toNat≤8:=by
 have e:=tab_fin ⟨b.toNat,by omega⟩
 have l:=Lib.bitLen_le8' b h0 (by omega)
 simp only at e
 rw [e]
 exact ⟨IntWalk.wrap64_in _ (by omega),l⟩

set_option maxRecDepth 100000 in
set_option maxHeartbeats 1000000 in
theorem len32_any (w:World) (x:Int) (h0:0≤x) (h1:x≤4294967295) :
 Calls Tryz.prog 204 #[.int .u32 x] w fun e w'=>e = .returned (.int .i64 (Lib.bitLen x.toNat))∧w=w':=by
 have hs:=tab_size
 have s24:=fun h=>Lib.bitLen_shift24 x.toNat h (by omega)
 have s16:=fun h=>Lib.bitLen_shift16 x.toNat h (by omega)
 have s8:=fun h=>Lib.bitLen_shift8 x.toNat h (by omega)
 have S24:=Lib.hid s24
 have S16:=Lib.hid s16
 have S8:=Lib.hid s8
 clear s24 s16 s8
 go_enter Tryz.func204,Tryz.ntmps204
 go_wp2
 all_goals (go_ret; refine ⟨congrArg Ending.returned (congrArg (Value.int IntKind.i64) ?_),rfl⟩)
 ·have e:(x / 65536 / 256).toNat=x.toNat / 16777216:=by omega
  have l:=tab_len (x / 65536 / 256) (by omega) (by omega) (by rw [tab_size]; omega)
  rw [l.1,IntWalk.wrap64_in _ (by omega),S24.out (by omega),e]
  omega
 ·have e:(x / 65536).toNat=x.toNat / 65536:=by omega
  have l:=tab_len (x / 65536) (by omega) (by omega) (by rw [tab_size]; omega)
  rw [l.1,IntWalk.wrap64_in _ (by omega),S16.out (by omega),e]
  omega
 ·have e:(x / 256).toNat=x.toNat / 256:=by omega
  have l:=tab_len (x / 256) (by omega) (by omega) (by rw [tab_size]; omega)
  rw [l.1,IntWalk.wrap64_in _ (by omega),S8.out (by omega),e]
  omega
 ·have l:=tab_len x (by omega) (by omega) (by rw [tab_size]; omega)
  rw [l.1,IntWalk.wrap64_in _ (by omega)]

set_option maxHeartbeats 1000000 in
theorem lead32_any (w:World) (x:Int) (h0:0≤x) (h1:x≤4294967295) :
 Calls Tryz.prog 554 #[.int .u32 x] w fun e w'=>e = .returned (.int .i64 ((32 - Lib.bitLen x.toNat:Nat):Int))∧w=w':=by
 have hb:=Lib.bitLen_le x.toNat 32 (by omega) (by omega)
 go_enter Tryz.func554,Tryz.ntmps554
 go_wp2_with (go_at_call 204; refine (len32_any _ x h0 h1).mono ?_; rintro e w' ⟨rfl,rfl⟩)
 go_ret
 exact ⟨ret_eq (int_eq (by omega)),rfl⟩

/- Long division: the plain law. -/

theorem bitLen_bounds (x:Nat) (h0:0<x) (h:x<2 ^ 64):1≤Lib.bitLen x∧2 ^ (Lib.bitLen x - 1)≤x∧x<2 ^ Lib.bitLen x:=by
 induction x using Nat.strongRecOn with
 | _ x ih =>
   have e:=Lib.bitLen_half x (by omega) h
   by_cases h2:x / 2=0
   ·obtain rfl:x=1:=by omega
    have:Lib.bitLen 1=1:=by decide +kernel
    rw [this]; decide
   ·obtain ⟨i1,i2,i3⟩:=ih (x / 2) (by omega) (by omega) (by omega)
    rw [e]
    generalize Lib.bitLen (x / 2)=L at *
    obtain ⟨l,rfl⟩:∃ l,L=l+1:=⟨L - 1,by omega⟩
    rw [(by omega:1+(l+1)=l+1+1),Nat.add_sub_cancel]
    rw [Nat.add_sub_cancel] at i2
    rw [Nat.pow_succ] at i3 ⊢
    rw [Nat.pow_succ]
    omega
theorem norm_word (x:Nat) (h0:0<x) (h:x<4294967296):32 - Lib.bitLen x<32∧2147483648≤x*2 ^ (32 - Lib.bitLen x)∧(x+1)*2 ^ (32 - Lib.bitLen x)≤4294967296:=by
 obtain ⟨h1,h2,h3⟩:=bitLen_bounds x h0 (by omega)
 have h4:=Lib.bitLen_le x 32 (by omega) (by omega)
 generalize Lib.bitLen x=L at *
 refine ⟨by omega,?_,?_⟩
 ·have e:2 ^ (L - 1)*2 ^ (32 - L)=2147483648:=by rw [←Nat.pow_add,(by omega:L - 1+(32 - L)=31)]
  rw [←e]
  exact Nat.mul_le_mul_right _ h2
 ·have e:2 ^ L*2 ^ (32 - L)=4294967296:=by rw [←Nat.pow_add,(by omega:L+(32 - L)=32)]
  rw [←e]
  exact Nat.mul_le_mul_right _ h3
theorem val_cut (zs:List Nat) (n:Nat) (h:val zs<4294967296 ^ n):val (zs.take n)=val zs∧val (zs.drop n)=0:=by
 have e:=val_take_drop zs n
 by_cases hl:zs.length≤n
 ·rw [List.take_of_length_le hl,List.drop_of_length_le hl]; exact ⟨rfl,rfl⟩
 ·rw [List.length_take,Nat.min_eq_left (by omega)] at e
  rcases Nat.eq_zero_or_pos (val (zs.drop n)) with h0 | h0
  ·rw [h0,Nat.mul_zero] at e
   exact ⟨by omega,h0⟩
  ·have:4294967296 ^ n*1≤4294967296 ^ n*val (zs.drop n):=Nat.mul_le_mul_left _ h0
   omega
/-- The divisor, shifted. -/
theorem norm_div (ys vs:List Nat) (p s:Nat) (hy:Ws ys) (hv:Ws vs) (hl:ys.length=p+2) (hvl:vs.length=p+2+1) (h0:0<ys[p+1]) (hs:s=32 - Lib.bitLen ys[p+1]) (hval:val vs=val ys*2 ^ s) :
 val (vs.take (p+2))=val ys*2 ^ s∧val ys*2 ^ s<4294967296 ^ (p+2)∧4294967296 ^ (p+1)*2147483648≤val ys*2 ^ s∧(vs.take (p+2)).length=p+2∧∀ h:p+1<(vs.take (p+2)).length,2147483648≤(vs.take (p+2))[p+1]:=by
 obtain ⟨n1,n2,n3⟩:=norm_word ys[p+1] h0 (hy.get _)
 rw [←hs] at n2 n3
 have e:val ys=val (ys.take (p+1))+4294967296 ^ (p+1)*ys[p+1]:=by
  rw [←val_take_succ ys (p+1) (by omega),List.take_of_length_le (by omega)]
 have hlo:=val_lt (hy.take (p+1))
 rw [List.length_take,Nat.min_eq_left (by omega)] at hlo
 have hV1:val ys*2 ^ s<4294967296 ^ (p+2):=by
  have h1:val ys<4294967296 ^ (p+1)*(ys[p+1] + 1):=by rw [Nat.mul_add]; omega
  have h2:val ys*2 ^ s<4294967296 ^ (p+1)*(ys[p+1] + 1)*2 ^ s:=Nat.mul_lt_mul_of_pos_right h1 (Nat.pow_pos (by omega))
  have h3:4294967296 ^ (p+1)*((ys[p+1] + 1)*2 ^ s)≤4294967296 ^ (p+1)*4294967296:=Nat.mul_le_mul_left _ n3
  rw [Nat.mul_assoc] at h2
  rw [Nat.pow_succ 4294967296 (p+1)]
  omega
 have hV2:4294967296 ^ (p+1)*2147483648≤val ys*2 ^ s:=by
  have h1:4294967296 ^ (p+1)*ys[p+1]≤val ys:=by omega
  have h2:=Nat.mul_le_mul_right (2 ^ s) h1
  have h3:4294967296 ^ (p+1)*2147483648≤4294967296 ^ (p+1)*(ys[p+1] * 2 ^ s):=Nat.mul_le_mul_left _ n2
  rw [Nat.mul_assoc] at h2
  omega
 obtain ⟨c1,_⟩:=val_cut vs (p+2) (by rw [hval]; exact hV1)
 have hl2:(vs.take (p+2)).length=p+2:=by rw [List.length_take]; omega
 refine ⟨by rw [c1,hval],hV1,hV2,hl2,fun h=>?_⟩
 have e2:val (vs.take (p+2))=val ((vs.take (p+2)).take (p+1))+4294967296 ^ (p+1)*(vs.take (p+2))[p+1]:=by
  have h5:=List.take_of_length_le (show (vs.take (p+2)).length≤p+1+1 by omega)
  rw [←val_take_succ (vs.take (p+2)) (p+1) h,h5]
 have h3:=val_lt ((hv.take (p+2)).take (p+1))
 rw [List.length_take,hl2,Nat.min_eq_left (by omega)] at h3
 rw [c1,hval] at e2
 have h4:4294967296 ^ (p+1)*2147483648<4294967296 ^ (p+1)*((vs.take (p+2))[p+1] + 1):=by rw [Nat.mul_add]; omega
 have:=Nat.lt_of_mul_lt_mul_left h4
 omega
/-- One step: the window's value. -/
theorem over_window {us:List Nat} {j n V:Nat} (hu:Ws us) (hj:j+n<us.length) (hV:V≤4294967296 ^ n) (hd:val (us.drop (j+1))<V) :
 seg us j (n+1)=val (us.drop j)∧val (us.drop j)<4294967296*V∧val (us.drop (j+n+1))=0∧val (us.drop j)=us[j] + 4294967296*val (us.drop (j+1)):=by
 have e:=val_drop_succ us j (by omega)
 have hx:=hu.get (i:=j) (by omega)
 have h1:val (us.drop j)<4294967296*V:=by
  have:4294967296*(val (us.drop (j+1))+1)≤4294967296*V:=Nat.mul_le_mul_left _ hd
  rw [e]; omega
 have h2:val (us.drop j)<4294967296 ^ (n+1):=by
  have:4294967296*V≤4294967296*4294967296 ^ n:=Nat.mul_le_mul_left _ hV
  rw [Nat.pow_succ,Nat.mul_comm]; omega
 obtain ⟨c1,c2⟩:=val_cut (us.drop j) (n+1) h2
 rw [List.drop_drop] at c2
 exact ⟨c1,h1,by rw [Nat.add_assoc]; exact c2,e⟩
theorem over_step {us vs qs:List Nat} {j n V U0:Nat} (hu:Ws us) (hj:j+n<us.length) (hV:V≤4294967296 ^ n) (hpos:0<V) (hd:val (us.drop (j+1))<V) (hl:vs.length=us.length)
 (hs:∀ i,i<j∨j+n<i→vs[i]? = us[i]?) (hseg:seg vs j (n+1)=seg us j (n+1) % V) (hq:j<qs.length)
 (hinv:U0=val (us.take (j+1))+4294967296 ^ (j+1)*(val (us.drop (j+1))+V*val (qs.drop (j+1)))) :
 val (vs.drop j)<V∧U0=val (vs.take j)+4294967296 ^ j*(val (vs.drop j)+V*val ((qs.set j (seg us j (n+1) / V)).drop j)):=by
 obtain ⟨w1,w2,w3,w4⟩:=over_window hu hj hV hd
 have hup:vs.drop (j+n+1)=us.drop (j+n+1):=by
  apply List.ext_getElem?
  intro i
  rw [List.getElem?_drop,List.getElem?_drop]
  exact hs _ (Or.inr (by omega))
 have hlow:vs.take j=us.take j:=by
  apply List.ext_getElem?
  intro i
  rw [List.getElem?_take,List.getElem?_take]
  split
  ·exact hs _ (Or.inl (by omega))
  ·rfl
 have e1:=val_take_drop (vs.drop j) (n+1)
 rw [List.drop_drop,← Nat.add_assoc,hup,w3,Nat.mul_zero,Nat.add_zero] at e1
 have e2:val (vs.drop j)=seg us j (n+1) % V:=by rw [e1]; exact hseg
 refine ⟨by rw [e2]; exact Nat.mod_lt _ hpos,?_⟩
 have e3:val ((qs.set j (seg us j (n+1) / V)).drop j)=seg us j (n+1) / V+4294967296*val (qs.drop (j+1)):=by
  rw [val_drop_succ _ j (by simpa using hq),List.getElem_set_self,List.drop_set,if_pos (by omega)]
 rw [e2,e3,hlow,hinv,val_take_succ us j (by omega),Nat.pow_succ]
 have e4:=Nat.div_add_mod (seg us j (n+1)) V
 rw [w1] at e4 ⊢
 generalize val (us.drop j) / V=q at *
 generalize val (us.drop j) % V=r at *
 generalize val (qs.drop (j+1))=Y at *
 have e5:us[j] + 4294967296*val (us.drop (j+1))+V*(4294967296*Y)=r+V*(q+4294967296*Y):=by rw [Nat.mul_add,← w4,← e4]; omega
 rw [←e5]
 simp only [Nat.mul_add]
 rw [Nat.mul_assoc,Nat.mul_assoc (4294967296 ^ j),Nat.mul_left_comm V 4294967296 Y]
 omega
theorem over_end {us qs xs ys:List Nat} {n s:Nat} (hV:val ys*2 ^ s≤4294967296 ^ n) (hpos:0<val ys) (hlt:val us<val ys*2 ^ s) (hinv:val xs*2 ^ s=val us+val ys*2 ^ s*val qs) :
 val qs=val xs / val ys∧val (us.take n) / 2 ^ s=val xs % val ys:=by
 have hP:0<2 ^ s:=Nat.pow_pos (by omega)
 have hq:val xs*2 ^ s / (val ys*2 ^ s)=val qs:=by
  rw [hinv,Nat.add_comm,Nat.mul_add_div (Nat.mul_pos hpos hP),Nat.div_eq_of_lt hlt,Nat.add_zero]
 have hr:val xs*2 ^ s % (val ys*2 ^ s)=val us:=by
  rw [hinv,Nat.add_mul_mod_self_left,Nat.mod_eq_of_lt hlt]
 rw [Nat.mul_div_mul_right _ _ hP] at hq
 rw [Nat.mul_mod_mul_right] at hr
 refine ⟨hq.symm,?_⟩
 rw [(val_cut us n (by omega)).1,← hr,Nat.mul_div_cancel _ hP]
/-- At the loop's start the upper words are less than the divisor. -/
theorem over_start {us xs:List Nat} {s n V:Nat} (hx:Ws xs) (hn:0<n) (hs:s<32) (hl:us.length=xs.length+1) (hnx:n≤xs.length) (hu:Ws us) (hval:val us=val xs*2 ^ s) (hV:4294967296 ^ (n - 1)*2147483648≤V) :
 val (us.drop (xs.length - n+1))<V:=by
 have e:=val_take_drop us (xs.length - n+1)
 rw [List.length_take,Nat.min_eq_left (by omega)] at e
 have h1:val us<4294967296 ^ xs.length*2147483648:=by
  have h2:(2:Nat) ^ s≤2 ^ 31:=Nat.pow_le_pow_right (by omega) (by omega)
  have h3:val xs*2 ^ s≤val xs*2147483648:=Nat.mul_le_mul_left _ h2
  have h4:=val_lt hx
  have h5:val xs*2147483648<4294967296 ^ xs.length*2147483648:=Nat.mul_lt_mul_of_pos_right h4 (by omega)
  omega
 have h6:4294967296 ^ xs.length=4294967296 ^ (xs.length - n+1)*4294967296 ^ (n - 1):=by rw [←Nat.pow_add]; congr 1; omega
 rw [h6,Nat.mul_assoc] at h1
 have h7:4294967296 ^ (xs.length - n+1)*val (us.drop (xs.length - n+1))<4294967296 ^ (xs.length - n+1)*(4294967296 ^ (n - 1)*2147483648):=by omega
 have:=Nat.lt_of_mul_lt_mul_left h7
 omega
end Go.Proofs.YtbdcjhoedhhabaaGreat

