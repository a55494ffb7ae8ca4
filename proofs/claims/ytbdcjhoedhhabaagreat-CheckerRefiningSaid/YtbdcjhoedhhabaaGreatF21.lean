/- Contracts of the functions that the statements reach, part 21. -/
import Derived.Test.YtbdcjhoedhhabaaGreatRows
import Derived.Deep.DeepCutAuto
import Derived.Deep.QuietTactic
import Derived.BigQuiet
import Derived.Test.YtbdcjhoedhhabaaGreatF18
import Derived.Test.YtbdcjhoedhhabaaGreatF19
import Derived.Test.YtbdcjhoedhhabaaGreatF20
set_option linter.unusedSimpArgs false
set_option linter.unusedVariables false

/- left and right: a magnitude shifted by fewer than 32 bits, and back. -/
namespace Go.Proofs.YtbdcjhoedhhabaaGreat
open Go.RowKit

theorem shl_parts (x P m h:Nat) (hx:x<4294967296) (hm:4294967296=P*m) (hP:0<P) (hh:h<P) :
 (x*P) / 4294967296<P∧(x*P) % 4294967296 % P=0∧h+(x*P) % 4294967296<4294967296:=by
 have h0:(x*P) % 4294967296 % P=0:=by rw [Nat.mod_mod_of_dvd _ ⟨m,hm⟩,Nat.mul_mod_left]
 refine ⟨?_,h0,?_⟩
 ·rw [Nat.div_lt_iff_lt_mul (by omega),Nat.mul_comm]
  exact Nat.mul_lt_mul_of_pos_left hx hP
 ·have hlt:=Nat.mod_lt (x*P) (show 4294967296 > 0 by omega)
  generalize (x*P) % 4294967296=lo at *
  obtain ⟨q,rfl⟩:∃ q,lo=P*q:=⟨lo / P,by have:=Nat.div_add_mod lo P; omega⟩
  rw [hm] at hlt
  have hq:q<m:=Nat.lt_of_mul_lt_mul_left hlt
  have:P*(q+1)≤P*m:=Nat.mul_le_mul_left _ hq
  rw [Nat.mul_add,Nat.mul_one] at this
  omega
theorem or_low (h lo P s:Nat) (hP:P=2 ^ s) (hh:h<P) (hl:lo % P=0) (hb:h+lo<4294967296):bits BinOp.or IntKind.u32 (h:Int) (lo:Int)=((h+lo:Nat):Int):=by
 have e:(2:Int) ^ s=((P:Nat):Int):=by rw [hP]; push_cast; rfl
 have:=Go.bits_join_low .u32 32 (by decide) (fun n h0 h1=>by rw [IntKind.wrap_u32]; omega) s (h:Int) (lo:Int) (by omega) (by rw [e]; omega) (by omega) (by omega) (by rw [e]; omega) (by omega)
 rw [this]; push_cast; rfl
theorem left_step (zs xs:List Nat) (k P:Nat) (hk:k<xs.length) (hz:k+1<zs.length) (hv:val (zs.take (k+1))=val (xs.take k)*P) :
 val (((zs.set k (zs[k]'(by omega)+xs[k] * P % 4294967296)).set (k+1) (xs[k] * P / 4294967296)).take (k+2))=val (xs.take (k+1))*P:=by
 rw [val_take_set _ (k+1) _ (by simpa using hz),val_take_set zs k _ (by omega),val_take_succ xs k hk]
 rw [val_take_succ zs k (by omega)] at hv
 rw [Nat.add_mul,← hv,Nat.mul_add,Nat.pow_succ,Nat.mul_assoc (4294967296 ^ k) xs[k] P]
 have:=Nat.div_add_mod (xs[k] * P) 4294967296
 generalize xs[k] * P / 4294967296=q at *
 generalize xs[k] * P % 4294967296=r at *
 rw [←this,Nat.mul_add,Nat.mul_assoc]
 omega

set_option maxHeartbeats 1000000 in
theorem left_any (w:World) (X:Nat→Prop) (va:Value) (xs:List Nat) (s:Nat) (ha:Words w X va xs) (hs:xs.length≤1099511627776) (h32:s<32) :
 Calls Tryz.prog 555 #[va, .int .i64 s] w fun e w'=>∃ g zs,e = .returned (.slice (some ⟨g,0,none⟩) (xs.length+1) (xs.length+1))∧w.heap.size≤g∧Row w' g zs∧zs.length=xs.length+1∧Ws zs∧val zs=val xs*2 ^ s∧Below w.heap.size w w':=by
 obtain ⟨A,c,rfl,hc,_,HA⟩:=ha.open_
 obtain ⟨P,hP⟩:∃ P,P=2 ^ s:=⟨_,rfl⟩
 have hP1:0<P:=by rw [hP]; exact Nat.pow_pos (by omega)
 have hP2:P≤2147483648:=by rw [hP]; exact Nat.pow_le_pow_right (i:=s) (j:=31) (by omega) (by omega)
 obtain ⟨m,hm⟩:∃ m,4294967296=P*m:=⟨2 ^ (32 - s),by rw [hP,← Nat.pow_add,(by omega:s+(32 - s)=32)]⟩
 have hPi:(2:Int) ^ s=((P:Nat):Int):=by rw [hP]; push_cast; rfl
 rw [←hP]
 have HP:=Lib.hid hP
 have HM:=Lib.hid hm
 have HPI:=Lib.hid hPi
 clear hP hm hPi
 go_enter Tryz.func555,Tryz.ntmps555
 go_wp2_with (at_make; refine wpList_makeN _ rfl _ _ rfl Tryz.underlying209 info_u32 rfl w.heap.size (xs.length+1) rfl rfl (by go_num) (by go_num) (by omega) (by unfold maxLen; omega) (Nat.le_refl _) ?_)
 intro w1 hown hgrow
 have hb1:Below w.heap.size w w1:=below_none (Below.refl _ _) hgrow (Nat.le_refl _)
 rw [nums_zeros] at hown
 have hrow:=(Row.of_own hown).1
 clear hgrow hown
 go_wp2_with fail
 go_loopw [15] (fun i wr=>∃ (k:Nat) (zs:List Nat),k≤xs.length∧i = .int .i64 k∧zs.length=xs.length+1∧Row wr w.heap.size zs∧Ws zs∧
  (∀ h:k<zs.length,zs[k] < P)∧val (zs.take (k+1))=val (xs.take k)*P∧(∀ t,k<t→(h:t<zs.length)→zs[t] = 0)∧Below w.heap.size w wr) (fun i _=>xs.length - (intOf i).toNat)
 case atStart=>exact ⟨0,List.replicate (xs.length+1) 0,by omega,rfl,by simp,hrow,Ws.replicate _,by simp; omega,by simp [List.take_replicate,val],by simp,hb1⟩
 case round=>
  obtain ⟨k,zs,hk,rfl,hzl,hr,hws,hhi,hval,hzero,hbr⟩:=hrel
  have Hval:=Lib.hid hval
  have Hzl:=Lib.hid hzl
  have hz1:k<zs.length:=by omega
  have hhi:=hhi hz1
  have HZ:=Lib.hid hzero
  have hsz:=hbr.size
  clear hval hrow hzero
  have HPr:=HA.below hbr
  by_cases hlt:k<xs.length
  ·obtain ⟨a,rfl,_,_,hca⟩:=HPr.at_ hlt
   have bx:=HA.lt hlt
   have hz2:k+1<zs.length:=by omega
   clear hzl
   obtain ⟨p1,p2,p3⟩:=shl_parts xs[k] P m zs[k] bx HM.out hP1 hhi
   have hor:=or_low zs[k] (xs[k] * P % 4294967296) P s HP.out hhi p2 p3
   have hst:=left_step zs xs k P hlt hz2 Hval.out
   have P2:=Lib.hid p2
   have HST:=Lib.hid hst
   clear p2 hst
   have hxP:xs[k] * P≤4294967295*2147483648:=Nat.mul_le_mul (by omega) hP2
   have hw64:IntKind.u64.wrap (((xs[k]:Nat):Int)*2 ^ s)=((xs[k] * P:Nat):Int):=by rw [HPI.out,← Int.natCast_mul,IntKind.wrap_u64]; omega
   have e1:((xs[k] * P:Nat):Int) % 4294967296=((xs[k] * P % 4294967296:Nat):Int):=by omega
   have e2:((xs[k] * P:Nat):Int) / 4294967296=((xs[k] * P / 4294967296:Nat):Int):=by omega
   have e3:((xs[k] * P / 4294967296:Nat):Int) % 4294967296=((xs[k] * P / 4294967296:Nat):Int):=by omega
   have hr2:=(hr.set k (zs[k] + xs[k] * P % 4294967296)).set (k+1) (xs[k] * P / 4294967296)
   have hws2:=(hws.set k (zs[k] + xs[k] * P % 4294967296) p3).set (k+1) (xs[k] * P / 4294967296) (by omega)
   have hcO:=hr.cell hz1
   have hfO:=hr.frz k
   have hcO1:=hr.cell hz2
   have hfO1:=hr.frz (k+1)
   clear hr hws
   generalize hxp:xs[k] * P=xp at *
   have HXP:=Lib.hid hxp
   clear hxp hxP
   generalize hlo:xp % 4294967296=lo at *
   generalize hhi':xp / 4294967296=hi at *
   have HLO:=Lib.hid hlo
   have HHI:=Lib.hid hhi'
   clear hlo hhi'
   generalize hy:zs[k] = y at *
   generalize hy1:zs[k+1] = y1 at *
   have HY:=Lib.hid hy
   have HY1:=Lib.hid hy1
   clear hy hy1
   go_wp2_with fail
   go_roundw
   case rel=>
    refine ⟨k+1,(zs.set k (y+lo)).set (k+1) hi,by omega,by go_num,by simpa using Hzl.out,hr2,hws2,fun h=>by simpa using p1,HST.out,fun t h1 h2=>?_,(hbr.setCell (Nat.le_refl _) _).setCell (Nat.le_refl _) _⟩
    rw [List.getElem_set_ne (by omega),List.getElem_set_ne (by omega)]
    exact HZ.out t (by omega) (by simpa using h2)
   case measure=>simp [intOf]; omega
  ·obtain rfl:k=xs.length:=by omega
   go_wp2_with fail
   go_ret
   have hv:=Hval.out
   rw [List.take_length,List.take_of_length_le (by omega)] at hv
   exact ⟨_,zs,rfl,Nat.le_refl _,hr,hzl,hws,hv,hbr⟩

/- The reference's inner functions: trim, word, compareWords, addWords, timesWord, subWords. -/

/-- The word at a place, 0 behind the end. -/
def wordAt (xs:List Nat) (i:Nat):Nat:=xs.getD i 0
theorem wordAt_in {xs:List Nat} {i:Nat} (hi:i<xs.length):wordAt xs i=xs[i]:=by
 unfold wordAt; rw [List.getD_eq_getElem?_getD,List.getElem?_eq_getElem hi]; rfl
theorem wordAt_out {xs:List Nat} {i:Nat} (hi:xs.length≤i):wordAt xs i=0:=by
 unfold wordAt; rw [List.getD_eq_getElem?_getD,List.getElem?_eq_none hi]; rfl

/- right: a magnitude shifted back. -/

theorem shr_word (x y P m:Nat) (hx:x<4294967296) (hm:4294967296=P*m) (hP:0<P) :
 P*((x+y*4294967296) / P % 4294967296)+x % P=x+4294967296*(y % P)∧(x+y*4294967296) / P % 4294967296<4294967296:=by
 refine ⟨?_,Nat.mod_lt _ (by omega)⟩
 have e1:(x+y*4294967296) / P=x / P+m*y:=by
  rw [hm,Nat.mul_left_comm y P m,Nat.add_mul_div_left _ _ hP,Nat.mul_comm y m]
 have hxm:x / P<m:=by rw [Nat.div_lt_iff_lt_mul hP,Nat.mul_comm,← hm]; exact hx
 have e2:(x / P+m*y) % 4294967296=x / P+m*(y % P):=by
  have h1:=Nat.div_add_mod y P
  have h2:m*y=m*(y % P)+4294967296*(y / P):=by
   rw [hm]
   have:m*y=m*(P*(y / P)+y % P):=by rw [h1]
   rw [this,Nat.mul_add,← Nat.mul_assoc,Nat.mul_comm m P]
   omega
  rw [h2,← Nat.add_assoc,Nat.add_mul_mod_self_left]
  refine Nat.mod_eq_of_lt ?_
  have h3:m*(y % P+1)≤m*P:=Nat.mul_le_mul_left _ (Nat.mod_lt y hP)
  rw [Nat.mul_add,Nat.mul_one,Nat.mul_comm m P,← hm] at h3
  omega
 rw [e1,e2,Nat.mul_add,← Nat.mul_assoc,← hm]
 have h1:=Nat.div_add_mod x P
 omega
theorem addr_succ (a:Addr) (k:Nat):a.add (k+1)=⟨a.block,a.off+(k+1),none⟩:=by simp [Addr.add]
theorem cast_shr (W P:Nat):((W:Nat):Int) / ((P:Nat):Int) % 4294967296=((W / P % 4294967296:Nat):Int):=by
 have:((W:Nat):Int) / ((P:Nat):Int)=((W / P:Nat):Int):=(Int.natCast_ediv W P).symm
 rw [this]; omega
theorem shr_or (x y P m s:Nat) (hx:x<4294967296) (hy:y<4294967296) (hm:4294967296=P*m) (hP:0<P) (hs:(2:Int) ^ s=((P:Nat):Int)) :
 ∃ W z:Nat,bits BinOp.or IntKind.u64 ((x:Nat):Int) (((y:Nat):Int)*4294967296)=((W:Nat):Int)∧((W:Nat):Int) / 2 ^ s % 4294967296=((z:Nat):Int)∧z<4294967296∧P*z+x % P=x+4294967296*(y % P):=by
 obtain ⟨h1,h2⟩:=shr_word x y P m hx hm hP
 refine ⟨x+y*4294967296,_,?_,?_,h2,h1⟩
 ·have:=Go.bits_join_low .u64 64 (by decide) (fun n h0 h1=>by rw [IntKind.wrap_u64]; omega) 32 ((x:Nat):Int) (((y:Nat):Int)*4294967296) (by omega) (by omega) (by omega) (by omega) (by omega) (by omega)
  rw [this]; omega
 ·rw [hs,cast_shr]
theorem shr_one (x P m s:Nat) (hx:x<4294967296) (hm:4294967296=P*m) (hP:0<P) (hs:(2:Int) ^ s=((P:Nat):Int)) :
 ∃ z:Nat,((x:Nat):Int) / 2 ^ s % 4294967296=((z:Nat):Int)∧z<4294967296∧P*z+x % P=x+4294967296*0:=by
 obtain ⟨h1,h2⟩:=shr_word x 0 P m hx hm hP
 rw [Nat.zero_mul,Nat.add_zero,Nat.zero_mod] at h1
 exact ⟨_,by rw [hs,cast_shr],Nat.mod_lt _ (by omega),h1⟩
theorem right_step (zs xs:List Nat) (k P z y0:Nat) (hk:k<xs.length) (hz:k<zs.length) (hv:P*val (zs.take k)+y0=val (xs.take k)+4294967296 ^ k*(xs[k] % P)) (Y:Nat) (hw:P*z+xs[k] % P=xs[k] + 4294967296*Y) :
 P*val ((zs.set k z).take (k+1))+y0=val (xs.take (k+1))+4294967296 ^ (k+1)*Y:=by
 rw [val_take_set zs k z hz,val_take_succ xs k hk,Nat.mul_add,Nat.pow_succ,Nat.mul_assoc (4294967296 ^ k)]
 have:4294967296 ^ k*(P*z)+4294967296 ^ k*(xs[k] % P)=4294967296 ^ k*xs[k] + 4294967296 ^ k*(4294967296*Y):=by rw [←Nat.mul_add,hw,Nat.mul_add]
 rw [Nat.mul_left_comm P]
 omega

set_option maxHeartbeats 1000000 in
theorem right_any (w:World) (X:Nat→Prop) (va:Value) (xs:List Nat) (s:Nat) (ha:Words w X va xs) (hs:xs.length≤1099511627776) (h32:s<32) :
 Calls Tryz.prog 557 #[va, .int .i64 s] w fun e w'=>∃ v' zs,e = .returned v'∧Words w' (Old w) v' zs∧zs.length=xs.length∧val zs=val xs / 2 ^ s∧Below w.heap.size w w':=by
 obtain ⟨A,c,rfl,hc,_,HA⟩:=ha.open_
 obtain ⟨P,hP⟩:∃ P,P=2 ^ s:=⟨_,rfl⟩
 have hP1:0<P:=by rw [hP]; exact Nat.pow_pos (by omega)
 obtain ⟨m,hm⟩:∃ m,4294967296=P*m:=⟨2 ^ (32 - s),by rw [hP,← Nat.pow_add,(by omega:s+(32 - s)=32)]⟩
 have hPi:(2:Int) ^ s=((P:Nat):Int):=by rw [hP]; push_cast; rfl
 rw [←hP]
 have HM:=Lib.hid hm
 have HPI:=Lib.hid hPi
 clear hP hm hPi
 go_enter Tryz.func557,Tryz.ntmps557
 go_wp2_with (at_make; refine wpList_makeN _ rfl _ _ rfl Tryz.underlying209 info_u32 rfl w.heap.size xs.length rfl rfl rfl rfl (by omega) (by unfold maxLen; omega) (Nat.le_refl _) ?_)
 intro w1 hown hgrow
 have hb1:Below w.heap.size w w1:=below_none (Below.refl _ _) hgrow (Nat.le_refl _)
 rw [nums_zeros] at hown
 have hrow:=(Row.of_own hown).1
 clear hgrow hown
 go_wp2_with fail
 go_loopw [14] (fun i wr=>∃ (k:Nat) (zs:List Nat),k≤xs.length∧i = .int .i64 k∧zs.length=xs.length∧Row wr w.heap.size zs∧Ws zs∧
  P*val (zs.take k)+wordAt xs 0 % P=val (xs.take k)+4294967296 ^ k*(wordAt xs k % P)∧Below w.heap.size w wr) (fun i _=>xs.length - (intOf i).toNat)
 case atStart=>exact ⟨0,List.replicate xs.length 0,by omega,rfl,by simp,hrow,Ws.replicate _,by simp [val],hb1⟩
 case round=>
  obtain ⟨k,zs,hk,rfl,hzl,hr,hws,hval,hbr⟩:=hrel
  have Hval:=Lib.hid hval
  have Hzl:=Lib.hid hzl
  have hsz:=hbr.size
  clear hval hrow
  have HPr:=HA.below hbr
  by_cases hlt:k<xs.length
  ·have hz1:k<zs.length:=by omega
   clear hzl
   have hv:=Hval.out
   rw [wordAt_in hlt] at hv
   have bx:=HA.lt hlt
   have hfO:=hr.frz k
   have hcO:=hr.cell hz1
   obtain ⟨a,rfl,_,_,hca⟩:=HPr.at_ hlt
   by_cases hl2:k+1<xs.length
   ·obtain ⟨a2,ha2,_,_,hca2⟩:=HPr.at_ hl2
    injection ha2 with ha2
    subst ha2
    have by1:=HA.lt hl2
    have hca3:wr.cell? ⟨a.block,a.off+(k+1),none⟩=some (.int .u32 ((xs[k+1]:Nat):Int)):=by have h:=hca2; rw [addr_succ] at h; exact h
    clear hca2
    obtain ⟨W,z,hor,e2,hw2,hw1⟩:=shr_or xs[k] xs[k+1] P m s bx by1 HM.out hP1 HPI.out
    have hst:=right_step zs xs k P z _ hlt hz1 hv _ hw1
    rw [←wordAt_in hl2] at hst
    have HST:=Lib.hid hst
    clear hst hw1 hv
    have e1:IntKind.u64.wrap (((xs[k+1]:Nat):Int)*4294967296)=((xs[k+1]:Nat):Int)*4294967296:=by rw [IntKind.wrap_u64]; omega
    have hr2:=hr.set k z
    have hws2:=hws.set k _ hw2
    clear hr hws
    go_wp2_with fail
    go_roundw
    case rel=>exact ⟨k+1,zs.set k z,by omega,by go_num,by simpa using Hzl.out,hr2,hws2,HST.out,hbr.setCell (Nat.le_refl _) _⟩
    case measure=>simp [intOf]; omega
   ·obtain ⟨z,e2,hw2,hw1⟩:=shr_one xs[k] P m s bx HM.out hP1 HPI.out
    have hst:=right_step zs xs k P z _ hlt hz1 hv _ hw1
    have HST:=Lib.hid hst
    clear hst hw1 hv
    have hr2:=hr.set k z
    have hws2:=hws.set k _ hw2
    clear hr hws
    go_wp2_with fail
    go_roundw
    case rel=>exact ⟨k+1,zs.set k z,by omega,by go_num,by simpa using Hzl.out,hr2,hws2,by rw [wordAt_out (xs:=xs) (i:=k+1) (by omega),Nat.zero_mod]; exact HST.out,hbr.setCell (Nat.le_refl _) _⟩
    case measure=>simp [intOf]; omega
  ·obtain rfl:k=xs.length:=by omega
   go_wp2_with fail
   go_ret
   have hv:=Hval.out
   rw [List.take_length,List.take_of_length_le (by omega),wordAt_out (Nat.le_refl _),Nat.zero_mod,Nat.mul_zero,Nat.add_zero] at hv
   refine ⟨_,zs,rfl,?_,hzl,?_,hbr⟩
   ·rw [←hzl]; exact hr.words hws (by unfold Old; omega) (by unfold maxLen; omega)
   ·rw [←hv,Nat.mul_add_div hP1,Nat.div_eq_of_lt (Nat.mod_lt _ hP1),Nat.add_zero]

/- short, compare. -/

set_option maxHeartbeats 1000000 in
theorem short_any (w:World) (X:Nat→Prop) (va:Value) (xs:List Nat) (d:Nat) (ha:Words w X va xs) (hs:xs.length≤1099511627776) (hd0:0<d) (hd:d<4294967296) :
 Calls Tryz.prog 553 #[va, .int .u32 d] w fun e w'=>∃ v' zs r,e = .returned (.tuple #[v', .int .u32 (r:Nat)])∧Words w' (Old w) v' zs∧val zs=val xs / d∧r=val xs % d∧zs.length=xs.length∧Below w.heap.size w w':=by
 obtain ⟨A,c,rfl,hc,_,HA⟩:=ha.open_
 go_enter Tryz.func553,Tryz.ntmps553
 go_wp2_with (at_make; refine wpList_makeN _ rfl _ _ rfl Tryz.underlying209 info_u32 rfl w.heap.size xs.length rfl rfl rfl rfl (by omega) (by unfold maxLen; omega) (Nat.le_refl _) ?_)
 intro w1 hown hgrow
 have hb1:Below w.heap.size w w1:=below_none (Below.refl _ _) hgrow (Nat.le_refl _)
 rw [nums_zeros] at hown
 clear hgrow
 go_wp2_with fail
 go_loopw [7,8] (fun rr i wr=>∃ (k:Nat) (zs:List Nat) (r:Nat),k≤xs.length∧i = .int .i64 ((k:Int) - 1)∧rr = .int .u32 r∧r<d∧zs.length=xs.length∧wr.ownsRow w.heap.size 305 1 (.slice (some ⟨w.heap.size,0,none⟩) xs.length xs.length) xs.length (nums .u32 zs)∧Ws zs∧
  val (zs.drop k)*d+r=val (xs.drop k)∧Below w.heap.size w wr) (fun _ i _=>(intOf i+1).toNat)
 case atStart=>exact ⟨xs.length,List.replicate xs.length 0,0,by omega,rfl,rfl,by omega,by simp,hown,Ws.replicate _,by simp,hb1⟩
 case round=>
  obtain ⟨k,zs,r,hk,rfl,rfl,hr,hzl,hown',hws,hval,hbr⟩:=hrel
  have Hval:=Lib.hid hval
  have Hzl:=Lib.hid hzl
  have hsz:=hbr.size
  clear hval hzl hown
  have HPr:=HA.below hbr
  by_cases hlt:0<k
  ·obtain ⟨p,rfl⟩:∃ p,k=p+1:=⟨k - 1,by omega⟩
   have hp:p<xs.length:=by omega
   have hpz:p<zs.length:=by have:=Hzl.out; omega
   obtain ⟨a,rfl,_,_,hca⟩:=HPr.at_ hp
   have bx:=HA.lt hp
   have hcO:wr.cell? ⟨w.heap.size,p,none⟩=some (.int .u32 ((zs[p]:Nat):Int)):=(hown'.cellAt p (by omega)).trans (nums_get _)
   have hfO:=hown'.frozenAt p
   go_wp2_with (go_at_call 573; refine (div32_any _ _ _ _ hr bx hd).mono ?_; rintro e w' ⟨rfl,n,rfl⟩)
   go_roundw
   case rel=>
    have hst:=(hown'.stored p (.int .u32 (((r*4294967296+xs[p]) / d:Nat):Int))).1
    rw [nums_set] at hst
    exact ⟨p,zs.set p ((r*4294967296+xs[p]) / d),(r*4294967296+xs[p]) % d,by omega,by go_num,by go_num,Nat.mod_lt _ hd0,by simpa using Hzl.out,hst,hws.set _ _ (div_lt_32 _ _ _ hr bx),short_step zs xs p d r xs[p] _ _ hpz hp rfl rfl rfl Hval.out,(below_drewN hbr n).setCell (Nat.le_refl _) _⟩
   case measure=>simp [intOf] <;> omega
  ·obtain rfl:k=0:=by omega
   go_wp2_with fail
   go_ret2
   have hv:=Hval.out
   simp only [List.drop_zero] at hv
   rw [←Hzl.out] at hown'
   refine ⟨_,zs,r,by rw [←Hzl.out]; rfl,Words.of_own hown' hws (fun b h1 _ _=>by unfold Old; omega),?_,?_,Hzl.out,hbr⟩
   ·rw [←hv,Nat.add_comm,Nat.add_mul_div_right _ _ hd0,Nat.div_eq_of_lt hr,Nat.zero_add]
   ·rw [←hv,Nat.add_comm,Nat.add_mul_mod_self_right,Nat.mod_eq_of_lt hr]

set_option maxHeartbeats 1000000 in
theorem compare_any (w:World) (X:Nat→Prop) (va vb:Value) (xs ys:List Nat) (ha:Words w X va xs) (hb:Words w X vb ys) (hx:Can xs) (hy:Can ys) :
 Calls Tryz.prog 425 #[va,vb] w fun e w'=>e = .returned (.int .i64 (cmpN (val xs) (val ys)))∧∃ n,w'=w.drewN n:=by
 have m1:=ha.lt_max
 have m2:=hb.lt_max
 obtain ⟨A,c,rfl,hc,_,HA⟩:=ha.open_
 obtain ⟨B,d,rfl,hd,_,HB⟩:=hb.open_
 by_cases hl:xs.length=ys.length
 ·have hlb:((xs.length:Int) != (ys.length:Int))=false:=by simp [hl]
  have HL:=Lib.hid hl
  have hl1:xs.length≤ys.length:=by omega
  have hl2:ys.length≤xs.length:=by omega
  clear hl
  go_enter Tryz.func425,Tryz.ntmps425
  go_wp2_with fail
  go_loopw [5] (fun i wr=>∃ (k n:Nat),k≤xs.length∧i = .int .i64 ((k:Int) - 1)∧xs.drop k=ys.drop k∧wr=w.drewN n) (fun i _=>(intOf i+1).toNat)
  case atStart=>exact ⟨xs.length,0,by omega,rfl,by rw [List.drop_length,List.drop_of_length_le hl2],rfl⟩
  case round=>
   obtain ⟨k,n,hk,rfl,hdr,rfl⟩:=hrel
   have Hdr:=Lib.hid hdr
   clear hdr
   by_cases hlt:0<k
   ·obtain ⟨p,rfl⟩:∃ p,k=p+1:=⟨k - 1,by omega⟩
    have hp:p<xs.length:=by omega
    have hq:p<ys.length:=by omega
    obtain ⟨a,rfl,_,_,hca⟩:=HA.at_ hp
    obtain ⟨b,rfl,_,_,hcb⟩:=HB.at_ hq
    have ip:(p:Int)<(xs.length:Int):=by omega
    have iq:(p:Int)<(ys.length:Int):=by omega
    by_cases he:xs[p] = ys[p]
    ·have hbb:(((xs[p]:Nat):Int) != ((ys[p]:Nat):Int))=false:=by simp [he]
     have HE:=Lib.hid he
     clear he
     go_wp2_with fail
     go_quiet (fail)
     go_wp2_with fail
     go_roundw
     case rel=>exact ⟨p,n+nq,by omega,by go_num,by rw [List.drop_eq_getElem_cons hp,List.drop_eq_getElem_cons hq,HE.out,Hdr.out],rfl⟩
     case measure=>simp [intOf] <;> omega
    ·have hbb:(((xs[p]:Nat):Int) != ((ys[p]:Nat):Int))=true:=by simp; omega
     rcases Nat.lt_or_gt_of_ne he with h | h
     ·have h1:((xs[p]:Nat):Int)<((ys[p]:Nat):Int):=by omega
      have hd:decide (((xs[p]:Nat):Int)<((ys[p]:Nat):Int))=true:=by simpa using h
      go_wp2_with fail
      go_quiet (fail)
      go_wp2_with fail
      go_quiet (fail)
      go_wp2_with fail
      go_ret
      exact ⟨ret_eq (int_eq (cmpN_lt (val_lt_at xs ys HL.out hx.1 p hp Hdr.out h)).symm),_,by rw [World.drewN_drewN,World.drewN_drewN]⟩
     ·have h1:¬ ((xs[p]:Nat):Int)<((ys[p]:Nat):Int):=by omega
      have hd:decide (((xs[p]:Nat):Int)<((ys[p]:Nat):Int))=false:=by simp; omega
      go_wp2_with fail
      go_quiet (fail)
      go_wp2_with fail
      go_quiet (fail)
      go_wp2_with fail
      go_ret
      exact ⟨ret_eq (int_eq (cmpN_gt (val_lt_at ys xs HL.out.symm hy.1 p hq Hdr.out.symm h)).symm),_,by rw [World.drewN_drewN,World.drewN_drewN]⟩
   ·obtain rfl:k=0:=by omega
    go_wp2_with fail
    go_ret
    have h:=Hdr.out
    simp only [List.drop_zero] at h
    exact ⟨ret_eq (int_eq (cmpN_eq (by rw [h])).symm),n,rfl⟩
 ·have hlb:((xs.length:Int) != (ys.length:Int))=true:=by simp; omega
  by_cases hlt:xs.length<ys.length
  ·go_enter Tryz.func425,Tryz.ntmps425
   go_wp2_with fail
   go_ret
   exact ⟨ret_eq (int_eq (cmpN_lt (val_lt_of_len hx.1 hy hlt)).symm),0,rfl⟩
  ·go_enter Tryz.func425,Tryz.ntmps425
   go_wp2_with fail
   go_ret
   exact ⟨ret_eq (int_eq (cmpN_gt (val_lt_of_len hy.1 hx (by omega))).symm),0,rfl⟩

/- over: quotient and remainder of two magnitudes. -/

set_option maxHeartbeats 1000000 in
theorem over_any (w:World) (X:Nat→Prop) (hX:∀ b,X b→b<w.heap.size) (va vb:Value) (xs ys:List Nat) (ha0:Words w X va xs) (hb:Words w (fun _=>False) vb ys) (hx:Can xs) (hy:Can ys) (hne:0<ys.length) (hs:xs.length≤1000000000000) (ht:ys.length≤1000000000000) :
 Calls Tryz.prog 526 #[va,vb] w fun e w'=>∃ v1 v2 qs rs,e = .returned (.tuple #[v1,v2])∧Words w' X v1 qs∧Words w' X v2 rs∧val qs=val xs / val ys∧val rs=val xs % val ys∧qs.length≤xs.length∧rs.length≤xs.length∧Below w.heap.size w w':=by
 have ha:=ha0.weak (Y:=fun _=>False) (fun _ _ h=>h.elim)
 obtain ⟨A,c,rfl,hc,_,HA⟩:=ha.open_
 obtain ⟨B,d,rfl,hd,_,HB⟩:=hb.open_
 have hpos:0<val ys:=hy.pos (by intro e; subst e; simp at hne)
 have hlow:=can_lower hy (by intro e; subst e; simp at hne)
 have hcmp:=compare_any w (fun _=>False) _ _ xs ys HA HB hx hy
 go_enter Tryz.func526,Tryz.ntmps526
 go_wp2_with fail
 refine hcmp.mono ?_
 rintro e w1 ⟨rfl,n,rfl⟩
 by_cases hlt:val xs<val ys
 ·rw [cmpN_lt hlt]
  go_wp2_with fail
  go_ret2
  exact ⟨_,_,[],xs,rfl,Words.nil _ _,ha0.drewN n,by rw [Nat.div_eq_of_lt hlt]; rfl,by rw [Nat.mod_eq_of_lt hlt],by simp,by simp,below_drewN (Below.refl _ _) n⟩
 ·obtain ⟨cc,hcc,hc0⟩:∃ cc,cmpN (val xs) (val ys)=cc∧0≤cc:=⟨_,rfl,by unfold cmpN; rw [if_neg hlt]; split <;> omega⟩
  rw [hcc]
  have hc0':decide (cc<0)=false:=by rw [decide_eq_false_iff_not]; omega
  have hlen:ys.length≤xs.length:=by
   rcases Nat.lt_or_ge xs.length ys.length with h | h
   ·exact absurd (val_lt_of_len hx.1 hy h) hlt
   ·exact h
  clear hcc hcmp
  by_cases h1:ys.length=1
  ·obtain ⟨y,rfl⟩:∃ y,ys = [y]:=by
    rcases ys with _ | ⟨y,_ | ⟨z,zs⟩⟩
    ·simp at hne
    ·exact ⟨y,rfl⟩
    ·simp at h1
   have hy0:val [y] = y:=by show y+4294967296*0=y; omega
   rw [hy0] at hpos
   have hy32:=HB.lt (i:=0) (by simp)
   obtain ⟨a,rfl,_,_,d0⟩:=HB.at_ (k:=0) (by simp)
   simp only [List.getElem_cons_zero] at hy32 d0
   rw [addr_zero] at d0
   go_wp2_with fail
   refine (short_any _ _ _ xs y (HA.drewN n) (by omega) hpos hy32).mono ?_
   rintro e w2 ⟨v2,zs,r,rfl,h2,hz,hr,hzl,hb2⟩
   have hr32:r<4294967296:=by have:=Nat.mod_lt (val xs) hpos; omega
   have HZ:=Lib.hid hz
   have HR:=Lib.hid hr
   clear hz hr
   go_wp2_with fail
   go_ret2
   refine ⟨_,_,zs,[r],rfl,(h2.weak (fun b _ h=>hX b h)).below (below1 _ _),Words.lit [r] (Loc.new _ _ _) (by simp; omega) (fun h=>by have h3:=hX _ h; have h4:w.heap.size≤w2.heap.size:=hb2.size; omega) (by unfold maxLen; simp),by rw [hy0]; exact HZ.out,by rw [hy0,← HR.out]; show r+4294967296*0=r; omega,by omega,by simpa using hlen,?_⟩
   exact ((below_undrewN hb2).trans ((below1 _ _).mono (below_undrewN hb2).size))
  ·obtain ⟨p,hp⟩:∃ p,ys.length=p+2:=⟨ys.length - 2,by omega⟩
   have h0:0<ys[p+1]:=by
    have h:=hy.2 (by intro e; subst e; simp at hne)
    rw [List.getLast_eq_getElem] at h
    have e:ys[ys.length - 1] = ys[p+1]:=by congr 1; omega
    omega
   have hy32:=HB.lt (i:=p+1) (by omega)
   obtain ⟨a,rfl,_,_,d1⟩:=HB.at_ (k:=p+1) (by omega)
   have d1:w.cell? ⟨a.block,a.off+(p+1),none⟩=some (.int .u32 ((ys[p+1]:Nat):Int)):=by rw [←addr_succ]; exact d1
   obtain ⟨s,hs'⟩:∃ s,s=32 - Lib.bitLen ys[p+1]:=⟨_,rfl⟩
   obtain ⟨hs32,_,_⟩:=norm_word ys[p+1] h0 hy32
   rw [←hs'] at hs32
   have hlead:=lead32_any (w.drewN n) ((ys[p+1]:Nat):Int) (by omega) (by omega)
   rw [Int.toNat_natCast,← hs'] at hlead
   have hno:=fun vs h1 h2 h3=>norm_div ys vs p s hy.1 h1 hp h2 h0 hs' h3
   have HNO:=Lib.hid hno
   have HS:=Lib.hid hs'
   have i0:(0:Int)≤(p:Int):=by omega
   have i1:(p:Int)≤1000000000000:=by omega
   have i4:(0:Int)≤(p:Int)+1:=by omega
   have i5:(p:Int)+1<(p:Int)+2:=by omega
   have w1:IntKind.i64.wrap ((p:Int)+2 - 1)=(p:Int)+1:=by rw [IntKind.wrap_i64]; omega
   have w3:IntKind.i64.wrap ((p:Int)+1)=(p:Int)+1:=by rw [IntKind.wrap_i64]; omega
   have w5:(p:Int)+2 - 1=(p:Int)+1:=by omega
   clear hno hs' h0 h1
   generalize hyt:ys[p+1] = yt at *
   clear hyt
   have hb1:((((p:Nat):Int)+2) == 1)=false:=by rw [beq_eq_false_iff_ne]; omega
   have HP:=Lib.hid hp
   have HPS:=Lib.hid hpos
   have HLW:=Lib.hid hlow
   have HLN:=Lib.hid hlen
   have HLT:=Lib.hid hlt
   clear hlt hlow hlen hpos hne
   rw [hp] at HB
   go_wp2_with fail
   refine hlead.mono ?_
   rintro e w2 ⟨rfl,rfl⟩
   go_wp2_with fail
   refine (left_any _ (fun _=>False) _ ys s (HB.drewN n) (by omega) hs32).mono ?_
   rintro e w2 ⟨gv,vs,rfl,hgv,hrv,hvl,hvs,hvv,hb2⟩
   obtain ⟨hv1,hv2,hv3,hv4,hv5⟩:=HNO.out vs hvs (by omega) hvv
   obtain ⟨q0,hq0⟩:∃ q0,q0=xs.length - (p+2):=⟨_,rfl⟩
   have hxl:q0+(p+2)=xs.length:=by have:=HLN.out; omega
   have f1:(xs.length:Int) - ((p:Int)+2)=(q0:Int):=by omega
   have f2:IntKind.i64.wrap ((xs.length:Int) - ((p:Int)+2))=(q0:Int):=by rw [IntKind.wrap_i64]; omega
   have f3:IntKind.i64.wrap ((q0:Int)+1)=(q0:Int)+1:=by rw [IntKind.wrap_i64]; omega
   have k2:=below_undrewN hb2
   have HA2:=HA.below k2
   have hvl2:vs.length=p+2+1:=by omega
   have HV1:=Lib.hid hv1
   have HV2:=Lib.hid hv2
   have HV3:=Lib.hid hv3
   have HV4:=Lib.hid hv4
   have HV5:=Lib.hid hv5
   have HVL:=Lib.hid hvl2
   have HXL:=Lib.hid hxl
   have HVV:=Lib.hid hvv
   clear hv1 hv2 hv3 hv4 hv5 hvl hvl2 hxl hvv hlead d1 hq0
   go_wp2_with fail
   refine (left_any _ (fun _=>False) _ xs s HA2 (by omega) hs32).mono ?_
   rintro e w3 ⟨gu,us,rfl,hgu,hru,hul,hus,huv,hb3⟩
   have hrv3:=hrv.below hb3
   have k3:=k2.trans (hb3.mono k2.size)
   have hgv2:w.heap.size≤gv:=hgv
   have hguv:gv<gu:=Nat.lt_of_lt_of_le hrv.lt hgu
   have HUV:=Lib.hid huv
   have HUL:=Lib.hid hul
   clear huv hul hrv k2 HA2 hb2 hgv
   go_wp2_with (at_make; refine wpList_makeN _ rfl _ _ rfl Tryz.underlying209 info_u32 rfl w3.heap.size (q0+1) rfl rfl (by go_num) (by go_num) (by omega) (by unfold maxLen; omega) (Nat.le_refl _) ?_)
   intro w4 hown hgrow
   have k4':Below w3.heap.size w3 w4:=below_none (Below.refl _ _) hgrow (Nat.le_refl _)
   rw [nums_zeros] at hown
   have hrq:=(Row.of_own hown).1
   have hru4:=hru.below k4'
   have hrv4:=hrv3.below k4'
   have hu3:=hru.lt
   have k4:=k3.trans (k4'.mono k3.size)
   have hq3:w.heap.size≤w3.heap.size:=k3.size
   generalize hgq:w3.heap.size=gq at *
   clear hgrow hown hru hrv3 k3 hb3 k4' hgq
   go_wp2_with fail
   go_loopw [12] (fun i wr=>∃ (k:Nat) (uu qs:List Nat),k≤q0+1∧i = .int .i64 ((k:Int) - 1)∧uu.length=xs.length+1∧Ws uu∧Row wr gu uu∧qs.length=q0+1∧Ws qs∧Row wr gq qs∧Row wr gv vs∧Below w.heap.size w wr∧val (uu.drop k)<val ys*2 ^ s∧
    val xs*2 ^ s=val (uu.take k)+4294967296 ^ k*(val (uu.drop k)+val ys*2 ^ s*val (qs.drop k))) (fun i _=>(intOf i+1).toNat)
   case atStart=>
    have h1:=over_start (V:=val ys*2 ^ s) hx.1 (by omega:0<p+2) hs32 HUL.out (by have:=HXL.out; omega) hus HUV.out HV3.out
    have e:xs.length - (p+2)=q0:=by have:=HXL.out; omega
    rw [e] at h1
    refine ⟨q0+1,us,List.replicate (q0+1) 0,Nat.le_refl _,by go_num,HUL.out,hus,hru4,by simp,Ws.replicate _,hrq,hrv4,k4,h1,?_⟩
    rw [List.drop_of_length_le (by simp:(List.replicate (q0+1) 0).length≤q0+1)]
    show _=_+_*(_+_*0)
    rw [←HUV.out,val_take_drop us (q0+1),List.length_take,Nat.min_eq_left (by have:=HUL.out; have:=HXL.out; omega)]
    rfl
   case round=>
    obtain ⟨k,uu,qs,hk,hi,hul,huu,hru,hql,hqs,hrq5,hrv5,hbr,hdl,hinv⟩:=hrel
    have HUL2:=Lib.hid hul
    have HQL:=Lib.hid hql
    have HDL:=Lib.hid hdl
    have HINV:=Lib.hid hinv
    clear hul hql hdl hinv hrq hru4 hrv4
    by_cases hk0:k=0
    ·subst hk0
     obtain rfl:=hi
     have hdl:=HDL.out
     have hinv:=HINV.out
     rw [List.drop_zero] at hdl
     rw [List.drop_zero,List.drop_zero,List.take_zero,Nat.pow_zero,Nat.one_mul] at hinv
     have hinv:val xs*2 ^ s=val uu+val ys*2 ^ s*val qs:=by rw [hinv]; show 0+_=_; omega
     obtain ⟨e1,e2⟩:=over_end (n:=p+2) (Nat.le_of_lt HV2.out) HPS.out hdl hinv
     have hwu:=(hru.words (X:=fun _=>False) huu (fun h=>h) (by rw [HUL2.out]; unfold maxLen; omega)).take (k:=p+2) (by rw [HUL2.out]; have:=HXL.out; omega)
     rw [HUL2.out] at hwu
     have hl3:(uu.take (p+2)).length=p+2:=by rw [List.length_take,HUL2.out]; have:=HXL.out; omega
     have HL3:=Lib.hid hl3
     have E1:=Lib.hid e1
     have E2:=Lib.hid e2
     clear hdl hinv e1 e2 hl3
     go_wp2_with fail
     refine (right_any _ (fun _=>False) _ (uu.take (p+2)) s hwu (by rw [HL3.out]; omega) hs32).mono ?_
     rintro e w6 ⟨v6,zs,rfl,h6,hzl,hzv,hb6⟩
     have hrq6:=hrq5.below hb6
     have hwq:=hrq6.words (X:=X) hqs (fun h=>by have:=hX _ h; omega) (by rw [HQL.out]; unfold maxLen; omega)
     rw [HQL.out] at hwq
     have HZL:=Lib.hid hzl
     have HZV:=Lib.hid hzv
     clear hzl hzv hrq6
     go_wp2_with fail
     go_ret2
     exact ⟨_,_,qs,zs,rfl,hwq,h6.weak (fun b _ h=>by have:=hX _ h; have:=hbr.size; show b<_; omega),E1.out,by rw [HZV.out]; exact E2.out,by rw [HQL.out]; have:=HXL.out; omega,by rw [HZL.out,HL3.out]; have:=HXL.out; omega,hbr.trans (hb6.mono hbr.size)⟩
    ·obtain ⟨j,rfl⟩:∃ j,k=j+1:=⟨k - 1,by omega⟩
     obtain rfl:=hi.trans (show Value.int .i64 (((j+1:Nat):Int) - 1) = .int .i64 (j:Int) by congr 1; omega)
     clear hi
     have j1:(0:Int)≤(j:Int):=by omega
     have j2:(j:Int)<(q0:Int)+1:=by omega
     have j3:(j:Int)+((p:Int)+2)+1≤(xs.length:Int)+1:=by have:=HXL.out; omega
     have j4:¬ xs.length+1=j:=by have:=HXL.out; omega
     have hjn:j+(p+2)<uu.length:=by rw [HUL2.out]; have:=HXL.out; omega
     obtain ⟨w1',w2',w3',w4'⟩:=over_window (n:=p+2) huu hjn (Nat.le_of_lt HV2.out) HDL.out
     have hwv:=(hrv5.words (X:=fun b=>b=gu) hvs (by show ¬ gv=gu; omega) (by rw [HVL.out]; unfold maxLen; omega)).take (k:=p+2) (by rw [HVL.out]; omega)
     rw [HVL.out] at hwv
     have hdig:=digit_any wr gu j p (xs.length+1 - j) uu (vs.take (p+2)) _ hru huu hwv HV4.out hjn (by rw [HUL2.out]; omega) (HV5.out (by rw [HV4.out]; omega)) (by rw [w1',HV1.out]; exact w2')
     rw [HV1.out] at hdig
     have HJN:=Lib.hid hjn
     clear w1' w2' w3' w4' hwv
     clear hjn
     go_wp2_with fail
     rw [(by omega:j+(p+2)+1 - j=p+2+1)]
     refine hdig.mono ?_
     rintro e w5 ⟨uu2,rfl,hru2,huu2,hl2,hsame,hseg,hgr⟩
     have hkp:=keep_grown (X:=fun b=>b=gu) hgr rfl
     have hrq6:Row w5 gq qs:=Loc.keep hrq5 hkp (by show ¬ gq=gu; omega)
     have hrv6:Row w5 gv vs:=Loc.keep hrv5 hkp (by show ¬ gv=gu; omega)
     have hstep:=over_step huu HJN.out (Nat.le_of_lt HV2.out) (Nat.mul_pos HPS.out (Nat.pow_pos (by omega))) HDL.out hl2 hsame hseg (by rw [HQL.out]; omega) HINV.out
     obtain ⟨hs1,hs2⟩:=hstep
     obtain ⟨q,hq⟩:∃ q,seg uu j (p+2+1) / (val ys*2 ^ s)=q:=⟨_,rfl⟩
     rw [hq] at hs2
     rw [hq]
     have hq32:q<4294967296:=by
      rw [←hq,Nat.div_lt_iff_lt_mul (Nat.mul_pos HPS.out (Nat.pow_pos (by omega)))]
      obtain ⟨w1',w2',_,_⟩:=over_window (n:=p+2) huu HJN.out (Nat.le_of_lt HV2.out) HDL.out
      rw [w1']; exact w2'
     have cq:=hrq6.cell (k:=j) (by rw [HQL.out]; omega)
     have fq:=hrq6.frz j
     have hb5:=below_grown hbr hgr hbr.size (by omega)
     have HS1:=Lib.hid hs1
     have HS2:=Lib.hid hs2
     have HL2:=Lib.hid hl2
     clear hs1 hs2 hl2 hsame hseg hq hdig
     go_wp2_with fail
     go_roundw
     case rel=>
      exact ⟨j,uu2,qs.set j q,by omega,by go_num,by rw [HL2.out,HUL2.out],huu2,Loc.far hru2 (show gu ≠ gq by omega) _,by simpa using HQL.out,hqs.set _ _ hq32,hrq6.set j q,Loc.far hrv6 (show gv ≠ gq by omega) _,hb5.setCell (by show w.heap.size≤gq; omega) _,HS1.out,HS2.out⟩
     case measure=>simp only [intOf]; omega

/- times: the product of two magnitudes. -/

set_option maxHeartbeats 1000000 in
theorem times_any (w:World) (X:Nat→Prop) (va vb:Value) (xs ys:List Nat) (ha:Words w X va xs) (hb:Words w X vb ys) (hs:xs.length≤1099511627776) (ht:ys.length≤1099511627776) :
 Calls Tryz.prog 428 #[va,vb] w fun e w'=>∃ v' zs,e = .returned v'∧Words w' (Old w) v' zs∧val zs=val xs*val ys∧zs.length=xs.length+ys.length∧Below w.heap.size w w':=by
 obtain ⟨A,c,rfl,hc,_,HA⟩:=ha.open_
 obtain ⟨B,d,rfl,hd,_,HB⟩:=hb.open_
 obtain ⟨N,hN⟩:∃ N,N=xs.length+ys.length:=⟨_,rfl⟩
 have HN:=Lib.hid hN
 have hN1:N≤xs.length+ys.length:=by omega
 have hN2:xs.length+ys.length≤N:=by omega
 clear hN
 go_enter Tryz.func428,Tryz.ntmps428
 go_wp2_with (at_make; refine wpList_makeN _ rfl _ _ rfl Tryz.underlying209 info_u32 rfl w.heap.size N rfl rfl (by omega) (by omega) (by omega) (by unfold maxLen; omega) (Nat.le_refl _) ?_)
 intro w1 hown hgrow
 have hb1:Below w.heap.size w w1:=below_none (Below.refl _ _) hgrow (Nat.le_refl _)
 rw [nums_zeros] at hown
 clear hgrow
 go_wp2_with fail
 go_loopw [19] (fun i wr=>∃ (k:Nat) (zs:List Nat),k≤xs.length∧i = .int .i64 k∧zs.length=N∧wr.ownsRow w.heap.size 305 1 (.slice (some ⟨w.heap.size,0,none⟩) N N) N (nums .u32 zs)∧Ws zs∧
  val zs=val (xs.take k)*val ys∧(∀ t,k+ys.length≤t→(h:t<zs.length)→zs[t] = 0)∧Below w.heap.size w wr) (fun i _=>xs.length - (intOf i).toNat)
 case atStart=>exact ⟨0,List.replicate N 0,by omega,rfl,by simp,hown,Ws.replicate _,by simp [val_replicate],by simp,hb1⟩
 case round=>
  obtain ⟨k,zs,hk,rfl,hzl,hown',hws,hval,hzero,hbr⟩:=hrel
  have Hval:=Lib.hid hval
  have Hzl:=Lib.hid hzl
  have Hzero:=Lib.hid hzero
  have hsz:=hbr.size
  clear hval hzl hown hzero
  have HPr:=HA.below hbr
  have HQr:=HB.below hbr
  by_cases hlt:k<xs.length
  ·obtain ⟨a,rfl,_,_,hca⟩:=HPr.at_ hlt
   have bx:=HA.lt hlt
   go_wp2_with fail
   obtain ⟨wo,rfl⟩:∃ wo:World,wo=wr:=⟨_,rfl⟩
   go_loopw [8,26] (fun cr j wr=>∃ (m:Nat) (zs:List Nat) (cy:Nat),m≤ys.length∧j = .int .i64 m∧cr = .int .u64 cy∧cy<4294967296∧zs.length=N∧wr.ownsRow w.heap.size 305 1 (.slice (some ⟨w.heap.size,0,none⟩) N N) N (nums .u32 zs)∧Ws zs∧
    val zs+4294967296 ^ (k+m)*cy=val (xs.take k)*val ys+4294967296 ^ k*(xs[k] * val (ys.take m))∧(∀ t,k+ys.length≤t→(h:t<zs.length)→zs[t] = 0)∧Below w.heap.size w wr) (fun _ j _=>ys.length - (intOf j).toNat)
   case atStart=>exact ⟨0,zs,0,by omega,rfl,rfl,by omega,Hzl.out,hown',hws,by simpa using Hval.out,Hzero.out,hbr⟩
   case round=>
    obtain ⟨m,zs1,cy,hm,rfl,rfl,hcy,hzl1,hown1,hws1,hval1,hzero1,hbr1⟩:=hrel
    have Hval1:=Lib.hid hval1
    have Hzl1:=Lib.hid hzl1
    have Hzero1:=Lib.hid hzero1
    have hsz1:=hbr1.size
    clear hval1 hzl1 hzero1 hown'
    have HQ1:=HB.below hbr1
    by_cases hlm:m<ys.length
    ·obtain ⟨q,rfl,_,_,hcq⟩:=HQ1.at_ hlm
     have bq:=HB.lt hlm
     have hp:k+m<zs1.length:=by have:=Hzl1.out; omega
     have bz:=hws1.get hp
     have hcO:wr.cell? ⟨w.heap.size,k+m,none⟩=some (.int .u32 ((zs1[k+m]:Nat):Int)):=(hown1.cellAt (k+m) (by omega)).trans (nums_get _)
     have hfO:=hown1.frozenAt (k+m)
     have m1:((xs[k]:Nat):Int)*((ys[m]:Nat):Int)≤18446744065119617025:=mul_lt_sq' _ _ bx bq
     have m0:0≤((xs[k]:Nat):Int)*((ys[m]:Nat):Int):=Int.mul_nonneg (by omega) (by omega)
     go_wp2_with fail
     go_roundw
     case rel=>
      obtain ⟨s,hs⟩:∃ s,s=cy+xs[k] * ys[m] + zs1[k+m]:=⟨_,rfl⟩
      have es:((cy:Nat):Int)+(((xs[k]:Nat):Int)*((ys[m]:Nat):Int)+((zs1[k+m]:Nat):Int))=(s:Int):=by rw [hs]; push_cast; omega
      have bs:s≤18446744073709551615:=by omega
      rw [es] at *
      have hst:=(hown1.stored (k+m) (.int .u32 ((s % 4294967296:Nat):Int))).1
      rw [nums_set] at hst
      have hv:=mul_step zs1 (k+m) s cy _ hp Hval1.out (xs[k] * ys[m]) hs
      refine ⟨m+1,zs1.set (k+m) (s % 4294967296),s / 4294967296,by omega,by go_num,by go_num,by omega,by simpa using Hzl1.out,?_,hws1.set _ _ (by omega),by rw [pow_mul_take k m xs[k] ys hlm,← Nat.add_assoc k m 1,hv,Nat.add_assoc],fun t h1 h2=>?_,hbr1.setCell (Nat.le_refl _) _⟩
      ·exact hst
      ·rw [List.getElem_set_ne (by omega)]
       exact Hzero1.out t h1 (by simpa using h2)
     case measure=>simp [intOf]; omega
    ·obtain rfl:m=ys.length:=by omega
     have hp:k+ys.length<zs1.length:=by have:=Hzl1.out; omega
     have hcO:wr.cell? ⟨w.heap.size,k+ys.length,none⟩=some (.int .u32 ((zs1[k+ys.length]:Nat):Int)):=(hown1.cellAt _ (by omega)).trans (nums_get _)
     have hfO:=hown1.frozenAt (k+ys.length)
     go_wp2_with fail
     go_roundw
     case rel=>
      have hst:=(hown1.stored (k+ys.length) (.int .u32 (cy:Nat))).1
      rw [nums_set] at hst
      have hv:=mul_end zs1 (k+ys.length) cy _ hp (Hzero1.out _ (Nat.le_refl _) hp) Hval1.out
      rw [List.take_length,← mul_take_succ xs k (val ys) hlt] at hv
      refine ⟨k+1,zs1.set (k+ys.length) cy,by omega,by go_num,by simpa using Hzl1.out,hst,hws1.set _ _ hcy,hv,fun t h1 h2=>?_,hbr1.setCell (Nat.le_refl _) _⟩
      rw [List.getElem_set_ne (by omega)]
      exact Hzero1.out t (by omega) (by simpa using h2)
     case measure=>simp [intOf]; omega
  ·obtain rfl:k=xs.length:=by omega
   go_wp2_with fail
   go_ret
   have hv:=Hval.out
   rw [List.take_length] at hv
   rw [←Hzl.out] at hown'
   exact ⟨_,zs,by rw [←Hzl.out]; rfl,Words.of_own hown' hws (fun b h1 _ _=>by unfold Old; omega),hv,by rw [Hzl.out,HN.out],hbr⟩
end Go.Proofs.YtbdcjhoedhhabaaGreat

