/- Contracts of the functions that the statements reach, part 22. -/
import Derived.Test.YtbdcjhoedhhabaaGreatRows
import Derived.Deep.RegionHeld3
import Derived.Deep.DrawnRows
import Derived.Deep.DeepCutAuto
import Derived.Laws.OwnMore
import Derived.Lib.Strings
import Derived.Lib.Slices
import Derived.Laws.Strings3
import Derived.Test.YtbdcjhoedhhabaaGreatF3
import Derived.Test.YtbdcjhoedhhabaaGreatF18
import Derived.Test.YtbdcjhoedhhabaaGreatF19
import Derived.Test.YtbdcjhoedhhabaaGreatF20
import Derived.Test.YtbdcjhoedhhabaaGreatF21
set_option linter.unusedSimpArgs false
set_option linter.unusedVariables false

/- Clean, Neg, Abs, Sign, Valid, Mul of package integer. -/
namespace Go.Proofs.YtbdcjhoedhhabaaGreat
open Go.RowKit
attribute [local go_sem ↓] Go.wp_at_zero Go.wp_at_succ

set_option maxHeartbeats 1000000 in
theorem mul_any (w:World) (X:Nat→Prop) (v1 v2:Value) (n1 n2:Bool) (xs ys:List Nat) (h1:IntR w X v1 n1 xs) (h2:IntR w X v2 n2 ys) (hs1:xs.length≤1099511627776) (hs2:ys.length≤1099511627776) :
 Calls Tryz.prog 350 #[v1,v2] w fun e w'=>∃ v',e = .returned v'∧IntV w' (Old w) v' (sv n1 xs*sv n2 ys)∧Below w.heap.size w w':=by
 obtain ⟨A,c,rfl,_,_,H1⟩:=h1.open_
 obtain ⟨B,d,rfl,_,_,H2⟩:=h2.open_
 go_enter Tryz.func350,Tryz.ntmps350
 go_wp2_with fail
 have KS:=boxes3 w #[.bool n1, .slice A xs.length c] #[.bool n2, .slice B ys.length d] #[.bool false, .slice none 0 0] 211 211 211
 go_region_held3 (fun w'=>w'.cell? ⟨w.heap.size,0,none⟩=some (.bool n1)∧w'.cell? ⟨w.heap.size,1,none⟩=some (.slice A xs.length c)∧w'.cell? ⟨w.heap.size+1,0,none⟩=some (.bool n2)∧w'.cell? ⟨w.heap.size+1,1,none⟩=some (.slice B ys.length d))
  (first | (refine (fun K=>⟨K.1.cell 0,K.1.cell 1,K.2.cell 0,K.2.cell 1⟩) (KS.out _ ?_); first | exact hbs.mono (by simp) | exact hbt.mono (by simp) | exact ((hbs.mono (by simp)).setCell (by simp) _).setCell (by simp) _) | go_keep)
  (first
   | (go_at_call_of 426 (Value.slice A xs.length c); refine (trim_any _ X (.slice A xs.length c) xs (by exact H1.below (below3 _ _ _ _).drew)).mono ?_; rintro e w' ⟨va,rfl,ha,rfl⟩)
   | (go_at_call_of 426 (Value.slice B ys.length d); refine (trim_any _ X (.slice B ys.length d) ys (by exact H2.below (below3 _ _ _ _).drew)).mono ?_; rintro e w' ⟨vb,rfl,hb,rfl⟩)
   | (go_at_call 428; refine (times_any _ X va vb (trimL xs) (trimL ys) ha hb (by have:=trimL_len xs; omega) (by have:=trimL_len ys; omega)).mono ?_; rintro e w2 ⟨vt,zs,rfl,ht,hv,hl,hb2⟩; have HV:=Lib.hid hv; have HL:=Lib.hid hl; clear hv hl; have hbt:=below_undrew hb2; have hst:=(locs3 hbt).2.2.2.2)
   | (go_at_call 427; refine (signed_any _ _ _ vt zs ht (by have:=HL.out; have:=trimL_len xs; have:=trimL_len ys; omega)).mono ?_; rintro e w3 ⟨vs,rfl,hs,hb3⟩; have hbs:=hbt.trans (hb3.mono hbt.size); rw [sv_mul n1 n2 (trimL xs) (trimL ys) zs HV.out,sv_trim,sv_trim] at hs; obtain ⟨As,cs,rfl,_,_,Hs⟩:=hs.open_; obtain ⟨La,Lb,Lr,hB,hsz⟩:=locs3 hbs; have cc:=Lr.cell; have cf:=Lr.frz))
 all_goals
  go_wp2_with fail
  refine bodyPost_ret (by simp [results,Tryz.results350,go_sem,cc,cf] <;> rfl) rfl ⟨_,rfl,IntV.stored hs (by simp [Old]; omega) _ _ (by intro b _; simp [Old]; omega),below_set2 hB (by omega) _ _⟩
end Go.Proofs.YtbdcjhoedhhabaaGreat

/- plus: the sum of two magnitudes. -/
namespace Go.Proofs.YtbdcjhoedhhabaaGreat
open Go.RowKit

set_option maxRecDepth 20000 in
set_option maxHeartbeats 1000000 in
theorem plus_any (w:World) (X:Nat→Prop) (va vb:Value) (xs ys:List Nat) (ha:Words w X va xs) (hb:Words w X vb ys) (hs:xs.length≤1099511627776) (ht:ys.length≤1099511627776) :
 Calls Tryz.prog 450 #[va,vb] w fun e w'=>∃ v' zs,e = .returned v'∧Words w' (Old w) v' zs∧val zs=val xs+val ys∧zs.length≤xs.length+ys.length+1∧Below w.heap.size w w':=by
 obtain ⟨i0,hi,hz0,hz1,hz2⟩:=info_parts info_u32
 obtain ⟨A,c,rfl,hc,_,HA⟩:=ha.open_
 obtain ⟨B,d,rfl,hd,_,HB⟩:=hb.open_
 go_enter Tryz.func450,Tryz.ntmps450
 go_upto_if 13 with fail
 go_cut [0,1] (fun p q wx=>w=wx∧∃ P Q A' c' B' d',p = .slice A' (List.length P) c'∧q = .slice B' (List.length Q) d'∧Words w X p P∧Words w X q Q∧Q.length≤P.length∧P.length≤xs.length+ys.length∧P.length≤1099511627776∧val P+val Q=val xs+val ys)
 case first=>
  by_cases hl:xs.length<ys.length
  all_goals
   go_wp2_with fail
   go_meet
   case rel=>first | exact ⟨rfl,ys,xs,B,d,A,c,rfl,rfl,HB,HA,by omega,by omega,by omega,by omega⟩ | exact ⟨rfl,xs,ys,A,c,B,d,rfl,rfl,HA,HB,by omega,by omega,by omega,by omega⟩
 case rest=>
  obtain ⟨rfl,P,Q,A',c',B',d',rfl,rfl,HP,HQ,hQP,hPl,hPm,hsum⟩:=hcut
  have Hsum:=Lib.hid hsum
  clear hsum
  go_wp2_with (at_make; refine wpList_make0 _ rfl _ _ rfl Tryz.underlying209 info_u32 w.heap.size (P.length+1) rfl rfl (by omega) (by omega) (by unfold maxLen; omega) (by omega) ?_)
  intro w1 hown hgrow
  have hb1:Below w.heap.size w w1:=below_none (Below.refl _ _) hgrow (Nat.le_refl _)
  clear hgrow
  go_wp2_with fail
  go_loopw [5,6,22] (fun o cr i wr=>∃ (k:Nat) (zs:List Nat) (cy:Nat),k≤P.length∧i = .int .i64 k∧cr = .int .u64 cy∧cy≤1∧zs.length=k∧wr.ownsRow w.heap.size 305 1 o zs.length (nums .u32 zs)∧Ws zs∧
   val zs+4294967296 ^ k*cy=val (P.take k)+val (Q.take k)∧Below w.heap.size w wr) (fun _ _ i _=>P.length - (intOf i).toNat)
  case atStart=>exact ⟨0,[],0,by omega,rfl,rfl,by omega,rfl,by simpa [nums] using hown,Ws.nil,by simp,hb1⟩
  case round=>
   obtain ⟨k,zs,cy,hk,rfl,rfl,hcy,hzl,hown',hws,hval,hbr⟩:=hrel
   have Hval:=Lib.hid hval
   have Hzl:=Lib.hid hzl
   have hzb:zs.length≤1099511627776:=by omega
   have hsz:=hbr.size
   clear hval hzl hown
   have HPr:=HP.below hbr
   have HQr:=HQ.below hbr
   by_cases hlt:k<P.length
   ·obtain ⟨a,rfl,_,_,hca⟩:=HPr.at_ hlt
    have bx:=HP.lt hlt
    by_cases hq:k<Q.length
    ·obtain ⟨b,rfl,_,_,hcb⟩:=HQr.at_ hq
     have bq:=HQ.lt hq
     go_wp2_with (at_builtin; refine wpList_push _ rfl _ _ rfl Tryz.underlying209 info_u32 rfl w.heap.size _ _ _ rfl (hown'.alloc _) _ _ rfl (heap_alloc_new wr _) rfl (by omega) (by unfold maxLen; omega) (by simp; omega) ?_)
     intro v2 w2 hown2 hg2 _
     have hb2:=below_own (hbr.alloc hsz _) (hown'.alloc _) hg2 (Nat.le_refl _) (by simp; omega)
     go_wp2_with fail
     go_roundw
     case rel=>
      rw [nums_snoc' _ _ _ ((cy+P[k] + Q[k]) % 4294967296) (by omega)] at hown2
      exact ⟨k+1,zs ++ [(cy+P[k] + Q[k]) % 4294967296],(cy+P[k] + Q[k]) / 4294967296,by omega,by go_num,by go_num,by omega,by simp [Hzl.out],by simpa using hown2,Ws.append.2 ⟨hws,by simp [Ws]; omega⟩,add_step zs P Q k cy Hzl.out Hval.out hlt hq,hb2⟩
     case measure=>simp [intOf]; omega
    ·go_wp2_with (at_builtin; refine wpList_push _ rfl _ _ rfl Tryz.underlying209 info_u32 rfl w.heap.size _ _ _ rfl (hown'.alloc _) _ _ rfl (heap_alloc_new wr _) rfl (by omega) (by unfold maxLen; omega) (by simp; omega) ?_)
     intro v2 w2 hown2 hg2 _
     have hb2:=below_own (hbr.alloc hsz _) (hown'.alloc _) hg2 (Nat.le_refl _) (by simp; omega)
     go_wp2_with fail
     go_roundw
     case rel=>
      rw [nums_snoc' _ _ _ ((cy+P[k]) % 4294967296) (by omega)] at hown2
      exact ⟨k+1,zs ++ [(cy+P[k]) % 4294967296],(cy+P[k]) / 4294967296,by omega,by go_num,by go_num,by omega,by simp [Hzl.out],by simpa using hown2,Ws.append.2 ⟨hws,by simp [Ws]; omega⟩,add_step1 zs P Q k cy Hzl.out Hval.out hlt (by omega),hb2⟩
     case measure=>simp [intOf]; omega
   ·go_wp2_with (at_builtin; refine wpList_push _ rfl _ _ rfl Tryz.underlying209 info_u32 rfl w.heap.size _ _ _ rfl (hown'.alloc _) _ _ rfl (heap_alloc_new wr _) rfl (by omega) (by unfold maxLen; omega) (by simp; omega) ?_)
    intro v2 w2 hown2 hg2 _
    have hb2:=below_own (hbr.alloc hsz _) (hown'.alloc _) hg2 (Nat.le_refl _) (by simp; omega)
    go_wp2_with fail
    go_ret
    rw [nums_snoc' _ _ _ (cy % 4294967296) (by omega)] at hown2
    refine ⟨_,zs ++ [cy % 4294967296],rfl,Words.of_own (by simpa using hown2) (Ws.append.2 ⟨hws,by simp [Ws]; omega⟩) (fun b h1 _ _=>by unfold Old; omega),?_,by have:=Hzl.out; simp; omega,hb2⟩
    have h1:=Hval.out
    rw [List.take_of_length_le (by omega),List.take_of_length_le (by omega)] at h1
    rw [val_snoc,Hzl.out,Nat.mod_eq_of_lt (by omega),h1,Hsum.out]

/- minus: the difference of two magnitudes. -/

set_option maxHeartbeats 1000000 in
theorem minus_any (w:World) (X:Nat→Prop) (va vb:Value) (xs ys:List Nat) (ha:Words w X va xs) (hb:Words w X vb ys) (hs:xs.length≤1099511627776) (hle:val ys≤val xs) (hlen:ys.length≤xs.length) :
 Calls Tryz.prog 451 #[va,vb] w fun e w'=>∃ v' zs,e = .returned v'∧Words w' (Old w) v' zs∧val zs=val xs - val ys∧zs.length=xs.length∧Below w.heap.size w w':=by
 obtain ⟨A,c,rfl,hc,_,HA⟩:=ha.open_
 obtain ⟨B,d,rfl,hd,_,HB⟩:=hb.open_
 have Hle:=Lib.hid hle
 clear hle
 go_enter Tryz.func451,Tryz.ntmps451
 go_wp2_with (at_make; refine wpList_makeN _ rfl _ _ rfl Tryz.underlying209 info_u32 rfl w.heap.size xs.length rfl rfl rfl rfl (by omega) (by unfold maxLen; omega) (Nat.le_refl _) ?_)
 intro w1 hown hgrow
 have hb1:Below w.heap.size w w1:=below_none (Below.refl _ _) hgrow (Nat.le_refl _)
 rw [nums_zeros] at hown
 clear hgrow
 go_wp2_with fail
 go_loopw [6,15] (fun br i wr=>∃ (k:Nat) (zs:List Nat) (b:Nat),k≤xs.length∧i = .int .i64 k∧br = .int .u32 b∧b≤1∧zs.length=xs.length∧wr.ownsRow w.heap.size 305 1 (.slice (some ⟨w.heap.size,0,none⟩) xs.length xs.length) xs.length (nums .u32 zs)∧Ws zs∧
  val (zs.take k)+val (ys.take k)=val (xs.take k)+4294967296 ^ k*b∧Below w.heap.size w wr) (fun _ i _=>xs.length - (intOf i).toNat)
 case atStart=>exact ⟨0,List.replicate xs.length 0,0,by omega,rfl,rfl,by omega,by simp,hown,Ws.replicate _,by simp,hb1⟩
 case round=>
  obtain ⟨k,zs,b,hk,rfl,rfl,hbb,hzl,hown',hws,hval,hbr⟩:=hrel
  have Hval:=Lib.hid hval
  have Hzl:=Lib.hid hzl
  have hsz:=hbr.size
  clear hval hzl hown
  have HPr:=HA.below hbr
  have HQr:=HB.below hbr
  by_cases hlt:k<xs.length
  ·obtain ⟨a,rfl,_,_,hca⟩:=HPr.at_ hlt
   have bx:=HA.lt hlt
   have hcO:wr.cell? ⟨w.heap.size,k,none⟩=some (.int .u32 ((zs[k]'(by have:=Hzl.out; omega):Nat):Int)):=(hown'.cellAt k (by omega)).trans (nums_get _)
   have hfO:=hown'.frozenAt k
   by_cases hq:k<ys.length
   ·obtain ⟨q,rfl,_,_,hcb⟩:=HQr.at_ hq
    have bq:=HB.lt hq
    go_wp2_with (go_at_call 498; refine (sub32_any _ _ _ _ bx bq hbb).mono ?_; rintro e w' ⟨rfl,rfl⟩)
    go_roundw
    case rel=>
     have hst:=(hown'.stored k (.int .u32 (dif xs[k] ys[k] b:Nat))).1
     rw [nums_set] at hst
     have hv:=sub_step zs xs k (dif xs[k] ys[k] b) xs[k] ys[k] b (bor xs[k] ys[k] b) (val (ys.take k)) (by have:=Hzl.out; omega) hlt rfl (dif_bor _ _ _ bx bq hbb) Hval.out
     rw [←val_take_succ ys k hq] at hv
     exact ⟨k+1,zs.set k (dif xs[k] ys[k] b),bor xs[k] ys[k] b,by omega,by go_num,rfl,bor_le _ _ _,by simpa using Hzl.out,hst,hws.set _ _ (dif_lt _ _ _),hv,hbr.setCell (Nat.le_refl _) _⟩
    case measure=>simp [intOf]; omega
   ·go_wp2_with (go_at_call 498; refine (sub32_any _ _ 0 _ bx (by omega) hbb).mono ?_; rintro e w' ⟨rfl,rfl⟩)
    go_roundw
    case rel=>
     have hst:=(hown'.stored k (.int .u32 (dif xs[k] 0 b:Nat))).1
     rw [nums_set] at hst
     have hv:=sub_step zs xs k (dif xs[k] 0 b) xs[k] 0 b (bor xs[k] 0 b) (val (ys.take k)) (by have:=Hzl.out; omega) hlt rfl (dif_bor _ _ _ bx (by omega) hbb) Hval.out
     rw [Nat.mul_zero,Nat.add_zero,← val_take_more ys k (by omega)] at hv
     exact ⟨k+1,zs.set k (dif xs[k] 0 b),bor xs[k] 0 b,by omega,by go_num,rfl,bor_le _ _ _,by simpa using Hzl.out,hst,hws.set _ _ (dif_lt _ _ _),hv,hbr.setCell (Nat.le_refl _) _⟩
    case measure=>simp [intOf]; omega
  ·go_wp2_with fail
   go_ret
   obtain rfl:k=xs.length:=by omega
   have hv:=Hval.out
   rw [List.take_of_length_le (by have:=Hzl.out; omega),List.take_of_length_le (by omega),List.take_of_length_le (by omega)] at hv
   have hend:=sub_end zs xs ys b hws Hzl.out Hle.out hv
   rw [←Hzl.out] at hown'
   exact ⟨_,zs,by rw [←Hzl.out]; rfl,Words.of_own hown' hws (fun b h1 _ _=>by unfold Old; omega),hend.1,Hzl.out,hbr⟩
end Go.Proofs.YtbdcjhoedhhabaaGreat

/- Add and Sub of package integer. -/
namespace Go.Proofs.YtbdcjhoedhhabaaGreat
open Go.RowKit
attribute [local go_sem ↓] Go.wp_at_zero Go.wp_at_succ
attribute [local go_sem] beq_self_eq_true

theorem undrew {B:Nat} {w w2:World} (h:Below B w.drew w2):Below B w w2:=⟨h.os,h.tape,h.output,h.size,h.block⟩
theorem undrewN {B n:Nat} {w w2:World} (h:Below B (w.drewN n) w2):Below B w w2:=⟨h.os,h.tape,h.output,h.size,h.block⟩

theorem sv_add_same (n:Bool) (xs ys zs:List Nat) (h:val zs=val xs+val ys):sv n zs=sv n xs+sv n ys:=by
 unfold sv; split <;> omega
theorem sv_sub1 (n m:Bool) (hn:(n == m)=false) (xs ys zs:List Nat) (hl:val ys≤val xs) (h:val zs=val xs - val ys):sv n zs=sv n xs+sv m ys:=by
 cases n <;> cases m <;> simp at hn <;> simp only [sv_false,sv_true] <;> omega
theorem sv_sub2 (n m:Bool) (hn:(n == m)=false) (xs ys zs:List Nat) (hl:val xs≤val ys) (h:val zs=val ys - val xs):sv m zs=sv n xs+sv m ys:=by
 cases n <;> cases m <;> simp at hn <;> simp only [sv_false,sv_true] <;> omega
theorem trim_len_le {xs ys:List Nat} (hx:Ws xs) (hy:Ws ys) (h:val ys≤val xs):(trimL ys).length≤(trimL xs).length:=by
 rw [trimL_dig hx,trimL_dig hy]; exact dig_len_mono h

theorem cmpN_ge {a b:Nat} (h:¬ a<b):0≤cmpN a b:=by
 unfold cmpN; rw [if_neg h]; split <;> omega
theorem cells_of {W:World} {g h:Nat} {t t':TypeId} {a b c d:Value} (K:Loc W g t #[a,b]∧Loc W h t' #[c,d]) :
 (W.cell? ⟨g,0,none⟩=some a∧W.cell? ⟨g,1,none⟩=some b)∧W.cell? ⟨h,0,none⟩=some c∧W.cell? ⟨h,1,none⟩=some d:=
 ⟨⟨K.1.cell 0,K.1.cell 1⟩,K.2.cell 0,K.2.cell 1⟩

set_option maxHeartbeats 2000000 in
theorem add_any (w:World) (X:Nat→Prop) (v1 v2:Value) (n1 n2:Bool) (xs ys:List Nat) (h1:IntR w X v1 n1 xs) (h2:IntR w X v2 n2 ys) (hs1:xs.length≤1000000000000) (hs2:ys.length≤1000000000000) :
 Calls Tryz.prog 386 #[v1,v2] w fun e w'=>∃ v',e = .returned v'∧IntV w' (Old w) v' (sv n1 xs+sv n2 ys)∧Below w.heap.size w w':=by
 obtain ⟨A,c,rfl,_,_,H1⟩:=h1.open_
 obtain ⟨B,d,rfl,_,_,H2⟩:=h2.open_
 have l1:=trimL_len xs
 have l2:=trimL_len ys
 have HL1:=Lib.hid (fun h:val (trimL ys)≤val (trimL xs)=>trim_len_le H1.2 H2.2 (by rwa [val_trimL,val_trimL] at h))
 have HL2:=Lib.hid (fun h:val (trimL xs)≤val (trimL ys)=>trim_len_le H2.2 H1.2 (by rwa [val_trimL,val_trimL] at h))
 have hv1:=val_trimL xs
 have hv2:=val_trimL ys
 have HV1:=Lib.hid hv1
 have HV2:=Lib.hid hv2
 have HC1:=Lib.hid (can_trimL H1.2)
 have HC2:=Lib.hid (can_trimL H2.2)
 clear hv1 hv2
 rw [←sv_trim n1 xs,← sv_trim n2 ys]
 generalize hz:sv n1 (trimL xs)+sv n2 (trimL ys)=z
 have HZ:=Lib.hid hz
 clear hz
 go_enter Tryz.func386,Tryz.ntmps386
 go_wp2_with fail
 have KS:=boxes3 w #[.bool n1, .slice A xs.length c] #[.bool n2, .slice B ys.length d] #[.bool false, .slice none 0 0] 211 211 211
 have K1:=(H1.weak (Y:=fun _=>False) (fun _ _ h=>h.elim)).below (below3 w (.cells #[.bool n1, .slice A xs.length c] 211) (.cells #[.bool n2, .slice B ys.length d] 211) (.cells #[.bool false, .slice none 0 0] 211))
 have K2:=(H2.weak (Y:=fun _=>False) (fun _ _ h=>h.elim)).below (below3 w (.cells #[.bool n1, .slice A xs.length c] 211) (.cells #[.bool n2, .slice B ys.length d] 211) (.cells #[.bool false, .slice none 0 0] 211))
 obtain ⟨-, -,Lr,hB0,hsz0⟩:=locs3 (c1:=#[.bool n1, .slice A xs.length c]) (c2:=#[.bool n2, .slice B ys.length d]) (c3:=#[.bool false, .slice none 0 0]) (t1:=211) (t2:=211) (t3:=211) (Below.refl _ (((w.alloc _).alloc _).alloc _))
 generalize (((w.alloc (.cells #[.bool n1, .slice A xs.length c] 211)).alloc (.cells #[.bool n2, .slice B ys.length d] 211)).alloc (.cells #[.bool false, .slice none 0 0] 211))=w0 at *
 clear H1 H2 h1 h2
 go_region_held3 (fun w'=>w'.cell? ⟨w.heap.size,0,none⟩=some (.bool n1)∧w'.cell? ⟨w.heap.size,1,none⟩=some (.slice A xs.length c)∧w'.cell? ⟨w.heap.size+1,0,none⟩=some (.bool n2)∧w'.cell? ⟨w.heap.size+1,1,none⟩=some (.slice B ys.length d))
  (first | exact (fun K=>⟨K.1.cell 0,K.1.cell 1,K.2.cell 0,K.2.cell 1⟩) (KS.out _ (Below.refl _ _).drew))
  (first
   | (go_at_call_of 426 (Value.slice A xs.length c); refine (trim_any _ (fun _=>False) (.slice A xs.length c) xs (K1.below (Below.refl _ _).drew)).mono ?_; rintro e w' ⟨va,rfl,ha,rfl⟩)
   | (go_at_call_of 426 (Value.slice B ys.length d); refine (trim_any _ (fun _=>False) (.slice B ys.length d) ys (K2.below (Below.refl _ _).drew)).mono ?_; rintro e w' ⟨vb,rfl,hb,rfl⟩))
 all_goals
  have KS1:Hid (∀ W,Below (w.heap.size+1+1) w0.drew W→Loc W w.heap.size 211 #[.bool n1, .slice A xs.length c]∧Loc W (w.heap.size+1) 211 #[.bool n2, .slice B ys.length d]):=fun W hW=>KS.out W (undrew hW)
  have hB1:Below w.heap.size w w0.drew:=hB0.drew
  have Lr1:Loc w0.drew (w.heap.size+1+1) 211 #[.bool false, .slice none 0 0]:=Lr
  have hsz1:w.heap.size+3≤w0.drew.heap.size:=hsz0
  clear KS K1 K2 hB0 Lr hsz0
  generalize w0.drew=w1 at *
  clear w0
  have k2:=KS1.out w1 (Below.refl _ _)
  have ca:=k2.1.cell
  have cb:=k2.2.cell
  clear k2
  clear HV1 HV2
  generalize trimL xs=es at *
  generalize trimL ys=fs at *
  by_cases hn:n1=n2
  ·subst hn
   go_wp2_with fail
   go_region_held3 (fun w'=>(w'.cell? ⟨w.heap.size,0,none⟩=some (.bool n1)∧w'.cell? ⟨w.heap.size,1,none⟩=some (.slice A xs.length c))∧w'.cell? ⟨w.heap.size+1,0,none⟩=some (.bool n1)∧w'.cell? ⟨w.heap.size+1,1,none⟩=some (.slice B ys.length d))
    (first | exact cells_of (KS1.out _ (((k2.mono (by omega)).setCell (by simp) _).setCell (by simp) _)) | exact cells_of (KS1.out _ (k2.mono (by omega))) | exact cells_of (KS1.out _ (k1.mono (by omega))) | exact cells_of (KS1.out _ (Below.refl _ _).drew) | go_keep)
    (first
     | (go_at_call 450; refine (plus_any _ (fun _=>False) va vb es fs (ha.below (Below.refl _ _).drew) (hb.below (Below.refl _ _).drew) (by omega) (by omega)).mono ?_; rintro e w2 ⟨v',zs,rfl,hp,hv,hl,hb2⟩; have HV:=Lib.hid hv; have HL:=Lib.hid hl; clear hv hl; have k1:=below_undrew hb2)
     | (go_at_call 427; refine (signed_any _ (fun _=>False) _ v' zs (hp.weak (fun _ _ h=>h.elim)) (by have:=HL.out; omega)).mono ?_; rintro e w3 ⟨vs,rfl,hs,hb3⟩; have k2:=k1.trans (hb3.mono k1.size); have hk1:=k1.size; rw [sv_add_same _ es fs zs HV.out,HZ.out] at hs; obtain ⟨bs,As,ns,cs,rfl,Hs⟩:=hs.op; have Lr2:=Lr1.below k2; have cc:=Lr2.cell; have cf:=Lr2.frz))
   all_goals
    clear HL1 HL2 HC1 HC2 KS1 ca cb Lr1
    go_wp2_with fail
    refine bodyPost_ret (by simp [results,Tryz.results386,go_sem,cc,cf] <;> rfl) rfl ⟨_,rfl,IntV.stored (g:=w.heap.size+1+1) (Y:=Old w) hs (by simp only [Old]; omega) _ _ (by intro b _ hb; simp only [Old] at hb ⊢; omega),below_set2 (hB1.trans (k2.mono (by omega))) (by omega) _ _⟩
  ·have hn':(n1 == n2)=false:=by simpa using hn
   clear hn
   by_cases hlt:val es<val fs
   ·have hcmp:=cmpN_lt hlt
    have hlen:=HL2.out (by omega)
    have HCM:=Lib.hid hcmp
    have HLEN:=Lib.hid hlen
    have HLT:=Lib.hid hlt
    clear hcmp hlen HL1 HL2 hlt
    go_wp2_with fail
    refine (compare_any _ (fun _=>False) va vb es fs ha hb HC1.out HC2.out).mono ?_
    rintro e w' ⟨he,n,rfl⟩
    rw [HCM.out] at he
    subst he
    go_wp2_with fail
    go_region_held3 (fun w'=>(w'.cell? ⟨w.heap.size,0,none⟩=some (.bool n1)∧w'.cell? ⟨w.heap.size,1,none⟩=some (.slice A xs.length c))∧w'.cell? ⟨w.heap.size+1,0,none⟩=some (.bool n2)∧w'.cell? ⟨w.heap.size+1,1,none⟩=some (.slice B ys.length d))
     (first | exact cells_of (KS1.out _ (((k2.mono (by omega)).setCell (by simp) _).setCell (by simp) _)) | exact cells_of (KS1.out _ (k2.mono (by omega))) | exact cells_of (KS1.out _ (k1.mono (by omega))) | exact cells_of (KS1.out _ (below_drewN (Below.refl _ _) n).drew) | go_keep)
     (first
      | (go_at_call 451; refine (minus_any _ (fun _=>False) vb va fs es (hb.below (below_drewN (Below.refl _ _) n).drew) (ha.below (below_drewN (Below.refl _ _) n).drew) (by omega) (by have:=HLT.out; omega) HLEN.out).mono ?_; rintro e w2 ⟨v',zs,rfl,hp,hv,hl,hb2⟩; have HV:=Lib.hid hv; have HL:=Lib.hid hl; clear hv hl; have k1:Below w1.heap.size w1 w2:=undrewN (undrew hb2))
      | (go_at_call 427; refine (signed_any _ (fun _=>False) _ v' zs (hp.weak (fun _ _ h=>h.elim)) (by have:=HL.out; omega)).mono ?_; rintro e w3 ⟨vs,rfl,hs,hb3⟩; have k2:=k1.trans (hb3.mono k1.size); have hk1:=k1.size; rw [sv_sub2 n1 n2 hn' es fs zs (Nat.le_of_lt HLT.out) HV.out,HZ.out] at hs; obtain ⟨bs,As,ns,cs,rfl,Hs⟩:=hs.op; have Lr2:=Lr1.below k2; have cc:=Lr2.cell; have cf:=Lr2.frz))
    all_goals
     clear HC1 HC2 KS1 ca cb Lr1
     go_wp2_with fail
     refine bodyPost_ret (by simp [results,Tryz.results386,go_sem,cc,cf] <;> rfl) rfl ⟨_,rfl,IntV.stored (g:=w.heap.size+1+1) (Y:=Old w) hs (by simp only [Old]; omega) _ _ (by intro b _ hb; simp only [Old] at hb ⊢; omega),below_set2 (hB1.trans (k2.mono (by omega))) (by omega) _ _⟩
   ·obtain ⟨cm,hcc,hcm0⟩:∃ cm,cmpN (val es) (val fs)=cm∧0≤cm:=⟨_,rfl,cmpN_ge hlt⟩
    have hlen:=HL1.out (by omega)
    have HCM:=Lib.hid hcc
    have HLEN:=Lib.hid hlen
    have HLT:=Lib.hid hlt
    clear hcc hlen HL1 HL2 hlt
    go_wp2_with fail
    refine (compare_any _ (fun _=>False) va vb es fs ha hb HC1.out HC2.out).mono ?_
    rintro e w' ⟨he,n,rfl⟩
    rw [HCM.out] at he
    subst he
    go_wp2_with fail
    go_region_held3 (fun w'=>(w'.cell? ⟨w.heap.size,0,none⟩=some (.bool n1)∧w'.cell? ⟨w.heap.size,1,none⟩=some (.slice A xs.length c))∧w'.cell? ⟨w.heap.size+1,0,none⟩=some (.bool n2)∧w'.cell? ⟨w.heap.size+1,1,none⟩=some (.slice B ys.length d))
     (first | exact cells_of (KS1.out _ (((k2.mono (by omega)).setCell (by simp) _).setCell (by simp) _)) | exact cells_of (KS1.out _ (k2.mono (by omega))) | exact cells_of (KS1.out _ (k1.mono (by omega))) | exact cells_of (KS1.out _ (below_drewN (Below.refl _ _) n).drew) | go_keep)
     (first
      | (go_at_call 451; refine (minus_any _ (fun _=>False) va vb es fs (ha.below (below_drewN (Below.refl _ _) n).drew) (hb.below (below_drewN (Below.refl _ _) n).drew) (by omega) (by have:=HLT.out; omega) HLEN.out).mono ?_; rintro e w2 ⟨v',zs,rfl,hp,hv,hl,hb2⟩; have HV:=Lib.hid hv; have HL:=Lib.hid hl; clear hv hl; have k1:Below w1.heap.size w1 w2:=undrewN (undrew hb2))
      | (go_at_call 427; refine (signed_any _ (fun _=>False) _ v' zs (hp.weak (fun _ _ h=>h.elim)) (by have:=HL.out; omega)).mono ?_; rintro e w3 ⟨vs,rfl,hs,hb3⟩; have k2:=k1.trans (hb3.mono k1.size); have hk1:=k1.size; rw [sv_sub1 n1 n2 hn' es fs zs (Nat.le_of_not_lt HLT.out) HV.out,HZ.out] at hs; obtain ⟨bs,As,ns,cs,rfl,Hs⟩:=hs.op; have Lr2:=Lr1.below k2; have cc:=Lr2.cell; have cf:=Lr2.frz))
    all_goals
     clear HC1 HC2 KS1 ca cb Lr1
     go_wp2_with fail
     refine bodyPost_ret (by simp [results,Tryz.results386,go_sem,cc,cf] <;> rfl) rfl ⟨_,rfl,IntV.stored (g:=w.heap.size+1+1) (Y:=Old w) hs (by simp only [Old]; omega) _ _ (by intro b _ hb; simp only [Old] at hb ⊢; omega),below_set2 (hB1.trans (k2.mono (by omega))) (by omega) _ _⟩

set_option maxHeartbeats 1000000 in
theorem sub_any (w:World) (X:Nat→Prop) (v1 v2:Value) (n1 n2:Bool) (xs ys:List Nat) (h1:IntR w X v1 n1 xs) (h2:IntR w X v2 n2 ys) (hs1:xs.length≤1000000000000) (hs2:ys.length≤1000000000000) :
 Calls Tryz.prog 558 #[v1,v2] w fun e w'=>∃ v',e = .returned v'∧IntV w' (Old w) v' (sv n1 xs - sv n2 ys)∧Below w.heap.size w w':=by
 obtain ⟨A,c,rfl,_,_,H1⟩:=h1.open_
 obtain ⟨B,d,rfl,_,_,H2⟩:=h2.open_
 go_enter Tryz.func558,Tryz.ntmps558
 go_wp2_with fail
 refine (add_any _ X _ _ n1 (!n2) xs ys ⟨_,rfl,H1.below (below3 _ _ _ _)⟩ ⟨_,rfl,H2.below (below3 _ _ _ _)⟩ hs1 hs2).mono ?_
 rintro e w2 ⟨v2,rfl,h2,hb2⟩
 obtain ⟨b2,A2,n2,c2,rfl,h2⟩:=h2.op
 obtain ⟨La,Lb,Lr,hB,hsz⟩:=locs3 hb2
 have cc:=Lr.cell
 have cf:=Lr.frz
 go_wp2_with fail
 refine bodyPost_ret (by simp [results,Tryz.results558,go_sem,cc,cf] <;> rfl) rfl ⟨_,rfl,?_,below_set2 hB (by omega) _ _⟩
 have h3:=IntV.stored (g:=w.heap.size+1+1) (Y:=Old w) h2 (by simp only [Old,World.size_alloc]; omega) (.bool b2) (.slice A2 n2 c2) (by intro b _ hb; simp only [Old,World.size_alloc] at hb ⊢; omega)
 rw [sv_not,← Int.sub_eq_add_neg] at h3
 exact h3
end Go.Proofs.YtbdcjhoedhhabaaGreat

/- The reference's inner functions, second part: timesWord, subWords, compareWords. -/
namespace Go.Proofs.YtbdcjhoedhhabaaGreat
open Go.RowKit

end Go.Proofs.YtbdcjhoedhhabaaGreat

/- Valid, Sign, Of of package integer; Equal, made, Of of the reference; short, same of the law. -/
namespace Go.Proofs.YtbdcjhoedhhabaaGreat
open Go.RowKit
attribute [local go_sem ↓] Go.wp_at_zero Go.wp_at_succ

set_option maxHeartbeats 400000 in
theorem sign_any (w:World) (X:Nat→Prop) (v:Value) (neg:Bool) (xs:List Nat) (h:IntR w X v neg xs) :
 Calls Tryz.prog 422 #[v] w fun e w'=>e = .returned (.int .i64 (sv neg xs).sign)∧Below w.heap.size w w':=by
 obtain ⟨A,c,rfl,h1,h2,H⟩:=h.open_
 have hlen:=trimL_dig H.2
 have hpos:=dig_len_pos (val xs)
 by_cases h0:val xs=0
 ·have hn:trimL xs = []:=by rw [hlen,h0,dig_zero]
  have HN:=Lib.hid hn
  have hs:(sv neg xs).sign=0:=by unfold sv; rw [h0]; cases neg <;> simp
  have HS:=Lib.hid hs
  clear hn hs hlen hpos h0
  go_enter Tryz.func422,Tryz.ntmps422
  go_wp2_with (go_at_call 426; refine (trim_any _ X _ xs (H.below (below1 _ _))).mono ?_; rintro e w' ⟨v1,rfl,hv1,rfl⟩; rw [HN.out] at hv1; obtain ⟨A1,c1,rfl,_,_,_⟩:=hv1.open_)
  go_ret
  exact ⟨ret_eq (int_eq HS.out.symm),below1 _ _⟩
 ·have hl:0<(trimL xs).length:=by rw [hlen]; omega
  have hlb:(((trimL xs).length:Int) == 0)=false:=by rw [beq_eq_false_iff_ne]; omega
  have hs:(sv neg xs).sign=if neg then -1 else 1:=by
   unfold sv; cases neg
   ·show ((val xs:Nat):Int).sign=1
    exact Int.sign_eq_one_of_pos (by omega)
   ·show (-((val xs:Nat):Int)).sign = -1
    exact Int.sign_eq_neg_one_of_neg (by omega)
  have HS:=Lib.hid hs
  clear hs hlen hpos h0
  cases neg
  all_goals
   go_enter Tryz.func422,Tryz.ntmps422
   go_wp2_with (go_at_call 426; refine (trim_any _ X _ xs (H.below (below1 _ _))).mono ?_; rintro e w' ⟨v1,rfl,hv1,rfl⟩; obtain ⟨A1,c1,rfl,_,_,_⟩:=hv1.open_)
   go_ret
   exact ⟨ret_eq (int_eq HS.out.symm),below1 _ _⟩

/- Neg, Abs, Bits of package integer; Clean, Neg, Abs, Valid, Sign, Bits of the reference. -/

set_option maxHeartbeats 400000 in
theorem neg_any (w:World) (X:Nat→Prop) (v:Value) (neg:Bool) (xs:List Nat) (h:IntR w X v neg xs) (hsz:xs.length≤1099511627776) :
 Calls Tryz.prog 449 #[v] w fun e w'=>∃ v',e = .returned v'∧IntV w' (Old w) v' (-(sv neg xs))∧Below w.heap.size w w':=by
 obtain ⟨A,c,rfl,_,_,H⟩:=h.open_
 go_enter Tryz.func449,Tryz.ntmps449
 go_wp2_with fail
 refine (signed_any _ X _ _ xs (H.below (below2 _ _ _)) (by omega)).mono ?_
 rintro e w2 ⟨v2,rfl,h2,hb2⟩
 obtain ⟨b2,A2,n2,c2,rfl,h2⟩:=h2.op
 obtain ⟨La,Lr,hB,hsz2⟩:=locs2 hb2
 have cc:=Lr.cell
 have cf:=Lr.frz
 go_wp2_with fail
 refine bodyPost_ret (by simp [results,Tryz.results449,go_sem,cc,cf] <;> rfl) rfl ⟨_,rfl,?_,below_set2 hB (by omega) _ _⟩
 have h3:=IntV.stored (g:=w.heap.size+1) (Y:=Old w) h2 (by simp only [Old,World.size_alloc]; omega) (.bool b2) (.slice A2 n2 c2) (by intro b _ hb; simp only [Old,World.size_alloc] at hb ⊢; omega)
 rw [sv_not] at h3
 exact h3

end Go.Proofs.YtbdcjhoedhhabaaGreat

/- Add and Sub of the reference. -/
namespace Go.Proofs.YtbdcjhoedhhabaaGreat
open Go.RowKit
attribute [local go_sem ↓] Go.wp_at_zero Go.wp_at_succ
attribute [local go_sem] beq_self_eq_true

/- Compare of package integer and of the reference. -/

theorem sign_cases (a:Int):(a<0∧a.sign = -1)∨(a=0∧a.sign=0)∨(0<a∧a.sign=1):=by
 rcases Int.lt_trichotomy a 0 with h | h | h
 ·exact Or.inl ⟨h,Int.sign_eq_neg_one_of_neg h⟩
 ·exact Or.inr (Or.inl ⟨h,by rw [h]; rfl⟩)
 ·exact Or.inr (Or.inr ⟨h,Int.sign_eq_one_of_pos h⟩)
theorem sv_cases (n:Bool) (xs:List Nat):(sv n xs=(val xs:Nat))∨(sv n xs = -((val xs:Nat):Int)):=by
 cases n
 ·exact Or.inl (sv_false xs)
 ·exact Or.inr (sv_true xs)
theorem cmp_lt {a b:Int} (h:a.sign<b.sign):(a - b).sign = -1:=by
 rcases sign_cases a with ⟨h1,e1⟩ | ⟨h1,e1⟩ | ⟨h1,e1⟩ <;> rcases sign_cases b with ⟨h2,e2⟩ | ⟨h2,e2⟩ | ⟨h2,e2⟩ <;> rw [e1,e2] at h <;>
  rcases sign_cases (a - b) with ⟨h3,e3⟩ | ⟨h3,e3⟩ | ⟨h3,e3⟩ <;> omega
theorem cmp_gt {a b:Int} (h:b.sign<a.sign):(a - b).sign=1:=by
 rcases sign_cases a with ⟨h1,e1⟩ | ⟨h1,e1⟩ | ⟨h1,e1⟩ <;> rcases sign_cases b with ⟨h2,e2⟩ | ⟨h2,e2⟩ | ⟨h2,e2⟩ <;> rw [e1,e2] at h <;>
  rcases sign_cases (a - b) with ⟨h3,e3⟩ | ⟨h3,e3⟩ | ⟨h3,e3⟩ <;> omega
theorem cmp_eq {n1 n2:Bool} {xs ys:List Nat} (h:(sv n1 xs).sign=(sv n2 ys).sign):(sv n1 xs).sign*cmpN (val xs) (val ys)=(sv n1 xs - sv n2 ys).sign:=by
 have hc:(val xs<val ys∧cmpN (val xs) (val ys) = -1)∨(val xs=val ys∧cmpN (val xs) (val ys)=0)∨(val ys<val xs∧cmpN (val xs) (val ys)=1):=by
  rcases Nat.lt_trichotomy (val xs) (val ys) with h | h | h
  ·exact Or.inl ⟨h,cmpN_lt h⟩
  ·exact Or.inr (Or.inl ⟨h,cmpN_eq h⟩)
  ·exact Or.inr (Or.inr ⟨h,cmpN_gt h⟩)
 have a1:=sv_cases n1 xs
 have a2:=sv_cases n2 ys
 generalize sv n1 xs=a at *
 generalize sv n2 ys=b at *
 rcases sign_cases a with ⟨h1,e1⟩ | ⟨h1,e1⟩ | ⟨h1,e1⟩ <;> rcases sign_cases b with ⟨h2,e2⟩ | ⟨h2,e2⟩ | ⟨h2,e2⟩ <;> rw [e1] at h ⊢ <;> rw [e2] at h <;>
  rcases sign_cases (a - b) with ⟨h3,e3⟩ | ⟨h3,e3⟩ | ⟨h3,e3⟩ <;> rw [e3] <;> rcases hc with ⟨h4,e4⟩ | ⟨h4,e4⟩ | ⟨h4,e4⟩ <;> rw [e4] <;> omega

theorem add_len (a b:Int) (k:Nat) (ha:(dig a.natAbs).length≤k) (hb:(dig b.natAbs).length≤k):(dig (a+b).natAbs).length≤k+1:=by
 have h1:=val_lt (can_dig a.natAbs).1
 have h2:=val_lt (can_dig b.natAbs).1
 rw [val_dig] at h1 h2
 have h3:4294967296 ^ (dig a.natAbs).length≤4294967296 ^ k:=Nat.pow_le_pow_right (by omega) ha
 have h4:4294967296 ^ (dig b.natAbs).length≤4294967296 ^ k:=Nat.pow_le_pow_right (by omega) hb
 refine dig_len_le ?_
 rw [Nat.pow_succ]
 omega
theorem sub_len (a b:Int) (k:Nat) (ha:(dig a.natAbs).length≤k) (hb:(dig b.natAbs).length≤k):(dig (a - b).natAbs).length≤k+1:=by
 rw [Int.sub_eq_add_neg]
 exact add_len a (-b) k ha (by rw [Int.natAbs_neg]; exact hb)
theorem sv_len (n:Bool) (xs:List Nat) (h:Ws xs):(dig (sv n xs).natAbs).length≤xs.length:=by rw [sv_abs]; exact dig_len_le (val_lt h)

set_option maxHeartbeats 2000000 in
theorem icompare_any (w:World) (X:Nat→Prop) (v1 v2:Value) (n1 n2:Bool) (xs ys:List Nat) (h1:IntR w X v1 n1 xs) (h2:IntR w X v2 n2 ys) :
 Calls Tryz.prog 349 #[v1,v2] w fun e w'=>e = .returned (.int .i64 (sv n1 xs - sv n2 ys).sign)∧Below w.heap.size w w':=by
 obtain ⟨A,c,rfl,_,_,H1⟩:=h1.open_
 obtain ⟨B,d,rfl,_,_,H2⟩:=h2.open_
 have HC1:=Lib.hid (can_trimL H1.2)
 have HC2:=Lib.hid (can_trimL H2.2)
 have c1:=cmp_lt (a:=sv n1 xs) (b:=sv n2 ys)
 have c2:=cmp_gt (a:=sv n1 xs) (b:=sv n2 ys)
 have c3:=cmp_eq (n1:=n1) (n2:=n2) (xs:=xs) (ys:=ys)
 have hsa:=sign_cases (sv n1 xs)
 have hsb:=sign_cases (sv n2 ys)
 have hv:cmpN (val (trimL xs)) (val (trimL ys))=cmpN (val xs) (val ys):=by rw [val_trimL,val_trimL]
 have HV:=Lib.hid hv
 have hbr : -1≤(sv n1 xs - sv n2 ys).sign∧(sv n1 xs - sv n2 ys).sign≤1:=by
  rcases sign_cases (sv n1 xs - sv n2 ys) with ⟨_,e⟩ | ⟨_,e⟩ | ⟨_,e⟩ <;> rw [e] <;> omega
 generalize hr:(sv n1 xs - sv n2 ys).sign=r at *
 generalize hs1:(sv n1 xs).sign=s1 at *
 generalize hs2:(sv n2 ys).sign=s2 at *
 generalize cmpN (val xs) (val ys)=cm at *
 have hb1 : -1≤s1∧s1≤1:=by omega
 have hb2 : -1≤s2∧s2≤1:=by omega
 have G1:=Lib.hid hs1
 have G2:=Lib.hid hs2
 have C1:=Lib.hid c1
 have C2:=Lib.hid c2
 have C3:=Lib.hid c3
 clear hr hs1 hs2 hsa hsb c1 c2 c3 hv
 go_enter Tryz.func349,Tryz.ntmps349
 go_wp2_with fail
 have K1:=(H1.weak (Y:=fun _=>False) (fun _ _ h=>h.elim)).below (below2 w (.cells #[.bool n1, .slice A xs.length c] 211) (.cells #[.bool n2, .slice B ys.length d] 211))
 have K2:=(H2.weak (Y:=fun _=>False) (fun _ _ h=>h.elim)).below (below2 w (.cells #[.bool n1, .slice A xs.length c] 211) (.cells #[.bool n2, .slice B ys.length d] 211))
 obtain ⟨La,Lb,hB0,hsz0⟩:=locs2 (c1:=#[.bool n1, .slice A xs.length c]) (c2:=#[.bool n2, .slice B ys.length d]) (t1:=211) (t2:=211) (Below.refl _ ((w.alloc _).alloc _))
 generalize ((w.alloc (.cells #[.bool n1, .slice A xs.length c] 211)).alloc (.cells #[.bool n2, .slice B ys.length d] 211))=w0 at *
 clear H1 H2 h1 h2
 have KS:Hid (∀ W,Below w0.heap.size w0 W→((W.cell? ⟨w.heap.size,0,none⟩=some (.bool n1)∧W.cell? ⟨w.heap.size,1,none⟩=some (.slice A xs.length c))∧W.cell? ⟨w.heap.size+1,0,none⟩=some (.bool n2)∧W.cell? ⟨w.heap.size+1,1,none⟩=some (.slice B ys.length d))):=fun W hW=>cells_of ⟨La.below hW,Lb.below hW⟩
 go_region_held3 (fun W=>((W.cell? ⟨w.heap.size,0,none⟩=some (.bool n1)∧W.cell? ⟨w.heap.size,1,none⟩=some (.slice A xs.length c))∧W.cell? ⟨w.heap.size+1,0,none⟩=some (.bool n2)∧W.cell? ⟨w.heap.size+1,1,none⟩=some (.slice B ys.length d)))
  (first | exact KS.out _ k2 | exact KS.out _ k1 | exact KS.out _ (Below.refl _ _).drew)
  (first
   | (go_at_call_of 422 (Value.agg #[Value.bool n1,Value.slice A xs.length c]); refine (sign_any _ (fun _=>False) _ n1 xs ⟨_,rfl,K1.below (Below.refl _ _).drew⟩).mono ?_; rintro e wa ⟨he,hka⟩; rw [G1.out] at he; subst he; have k1:=below_undrew hka)
   | (go_at_call_of 422 (Value.agg #[Value.bool n2,Value.slice B ys.length d]); refine (sign_any _ (fun _=>False) _ n2 ys ⟨_,rfl,K2.below k1⟩).mono ?_; rintro e wb ⟨he,hkb⟩; rw [G2.out] at he; subst he; have k2:=k1.trans (hkb.mono k1.size)))
 all_goals
  have hBn:=hB0.trans (k2.mono (by omega))
  have Ka:=K1.below k2
  have Kb:=K2.below k2
  have La2:=La.below k2
  have Lb2:=Lb.below k2
  clear K1 K2 La Lb KS k1 hka hkb
  by_cases hlt:s1<s2
  ·have HR:=Lib.hid (C1.out hlt)
   go_wp2_with fail
   go_ret
   exact ⟨ret_eq (int_eq HR.out.symm),hBn⟩
  ·by_cases hgt:s2<s1
   ·have HR:=Lib.hid (C2.out hgt)
    go_wp2_with fail
    go_ret
    exact ⟨ret_eq (int_eq HR.out.symm),hBn⟩
   ·obtain rfl:s1=s2:=by omega
    have HR:=Lib.hid (C3.out rfl)
    have KS:Hid (∀ W,Below wb.heap.size wb W→((W.cell? ⟨w.heap.size,0,none⟩=some (.bool n1)∧W.cell? ⟨w.heap.size,1,none⟩=some (.slice A xs.length c))∧W.cell? ⟨w.heap.size+1,0,none⟩=some (.bool n2)∧W.cell? ⟨w.heap.size+1,1,none⟩=some (.slice B ys.length d))):=fun W hW=>cells_of ⟨La2.below hW,Lb2.below hW⟩
    go_wp2_with fail
    go_region_held3 (fun W=>((W.cell? ⟨w.heap.size,0,none⟩=some (.bool n1)∧W.cell? ⟨w.heap.size,1,none⟩=some (.slice A xs.length c))∧W.cell? ⟨w.heap.size+1,0,none⟩=some (.bool n2)∧W.cell? ⟨w.heap.size+1,1,none⟩=some (.slice B ys.length d)))
     (first | exact KS.out _ (Below.refl _ _).drew | exact KS.out _ (below_drewN (Below.refl _ _) _))
     (first
      | (go_at_call_of 426 (Value.slice A xs.length c); refine (trim_any _ (fun _=>False) (.slice A xs.length c) xs (Ka.below (Below.refl _ _).drew)).mono ?_; rintro e w' ⟨va,rfl,ha,rfl⟩)
      | (go_at_call_of 426 (Value.slice B ys.length d); refine (trim_any _ (fun _=>False) (.slice B ys.length d) ys (Kb.below (Below.refl _ _).drew)).mono ?_; rintro e w' ⟨vb,rfl,hb,rfl⟩)
      | (go_at_call 425; refine (compare_any _ (fun _=>False) va vb _ _ ha hb HC1.out HC2.out).mono ?_; rintro e w' ⟨he,n,rfl⟩; rw [HV.out] at he; subst he))
    all_goals
     try go_wp2_with fail
     go_ret
     refine ⟨ret_eq (int_eq ?_),hBn.trans ((below_drewN (Below.refl _ _) _).mono hBn.size)⟩
     rw [HR.out,IntKind.wrap_i64]
     omega
end Go.Proofs.YtbdcjhoedhhabaaGreat

/- append(own row, words...): one law for a source that is nil or not; in a list of operations, and as one step of a region that draws. -/
namespace Go.Proofs.YtbdcjhoedhhabaaGreat
open Go.RowKit

section
variable {P:Program} {ops:Array Oper} {rest:List Oper} {o:Oper} {a:Act} {K:Act→World→Prop} {Q:Exit→Act→World→Prop} {E:Prop} {t e:TypeId} {X:Nat→Prop}

end
end Go.Proofs.YtbdcjhoedhhabaaGreat

/- mulWords of the reference. -/
namespace Go.Proofs.YtbdcjhoedhhabaaGreat
open Go.RowKit
attribute [local go_sem ↓] Go.wp_at_zero Go.wp_at_succ

theorem len_mul {xs ys:List Nat} (hx:Ws xs) (hy:Ws ys):(dig (val xs*val ys)).length≤xs.length+ys.length:=by
 refine dig_len_le ?_
 rw [Nat.pow_add]
 have h1:=val_lt hx
 have h2:=val_lt hy
 exact Nat.mul_lt_mul'' h1 h2
theorem ws_dig (n:Nat):Ws (dig n):=(can_dig n).1

/- Mul of the reference. -/
end Go.Proofs.YtbdcjhoedhhabaaGreat

/- Parse: the sign cut off. -/
namespace Go.Proofs.YtbdcjhoedhhabaaGreat
open Go.RowKit

/-- A string of bytes. -/
abbrev str (bs:List UInt8):Value:= .string ⟨bs.toArray⟩
end Go.Proofs.YtbdcjhoedhhabaaGreat

