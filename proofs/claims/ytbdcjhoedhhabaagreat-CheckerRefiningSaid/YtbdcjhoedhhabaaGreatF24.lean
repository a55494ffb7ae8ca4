/- Contracts of the functions that the statements reach, part 24. -/
import Derived.Test.YtbdcjhoedhhabaaGreatRows
import Derived.Deep.RegionHeld3
import Derived.Deep.DrawnRows
import Derived.Deep.DeepCutAuto
import Derived.Test.YtbdcjhoedhhabaaGreatF19
import Derived.Test.YtbdcjhoedhhabaaGreatF23
set_option linter.unusedSimpArgs false
set_option linter.unusedVariables false

/- Fractions: how they lie; rational.over and rational.zero. -/
namespace Go.Proofs.YtbdcjhoedhhabaaGreat
open Go.RowKit
attribute [local go_sem ↓] Go.wp_at_zero Go.wp_at_succ

/-- A fraction as it lies: two signs, two lists of words. -/
def RatR (w:World) (X:Nat→Prop) (v:Value) (n1:Bool) (xs:List Nat) (n2:Bool) (ys:List Nat):Prop:=
 ∃ A c B d,v = .agg #[.bool n1, .slice A xs.length c, .bool n2, .slice B ys.length d]∧IntR w X (.agg #[.bool n1, .slice A xs.length c]) n1 xs∧IntR w X (.agg #[.bool n2, .slice B ys.length d]) n2 ys
/-- The canonical struct of a fraction. -/
def RatV (w:World) (X:Nat→Prop) (v:Value) (q:Rat):Prop:=RatR w X v (decide (q.num<0)) (dig q.num.natAbs) (decide ((q.den:Int)<0)) (dig (q.den:Int).natAbs)
/-- The value of a fraction as it lies: 0 where the denominator is 0. -/
def rv (n1:Bool) (xs:List Nat) (n2:Bool) (ys:List Nat):Rat:=Rat.divInt (sv n1 xs) (sv n2 ys)

theorem rv_canon (q:Rat):rv (decide (q.num<0)) (dig q.num.natAbs) (decide ((q.den:Int)<0)) (dig (q.den:Int).natAbs)=q:=by
 unfold rv; rw [sv_dig,sv_dig,Rat.num_divInt_den]

section
variable {X Y:Nat→Prop} {w w':World} {v:Value} {n1 n2:Bool} {xs ys:List Nat} {q:Rat}
theorem RatR.keep (h:RatR w X v n1 xs n2 ys) (hk:Keep X w w'):RatR w' X v n1 xs n2 ys:=let ⟨A,c,B,d,e,h1,h2⟩:=h; ⟨A,c,B,d,e,h1.keep hk,h2.keep hk⟩
theorem RatR.weak (h:RatR w X v n1 xs n2 ys) (hY:∀ b,b<w.heap.size→Y b→X b):RatR w Y v n1 xs n2 ys:=let ⟨A,c,B,d,e,h1,h2⟩:=h; ⟨A,c,B,d,e,h1.weak hY,h2.weak hY⟩
theorem RatR.below (h:RatR w X v n1 xs n2 ys) (hk:Below w.heap.size w w'):RatR w' X v n1 xs n2 ys:=h.keep (.of_below hk)
theorem RatV.keep (h:RatV w X v q) (hk:Keep X w w'):RatV w' X v q:=RatR.keep h hk
theorem RatV.weak (h:RatV w X v q) (hY:∀ b,b<w.heap.size→Y b→X b):RatV w Y v q:=RatR.weak h hY
theorem RatV.below (h:RatV w X v q) (hk:Below w.heap.size w w'):RatV w' X v q:=RatR.below h hk
/-- The shape, its parts letters. -/
theorem RatV.op (h:RatV w X v q):∃ (b:Bool) (A:Option Addr) (m c:Nat) (b':Bool) (A':Option Addr) (m' c':Nat),v = .agg #[.bool b, .slice A m c, .bool b', .slice A' m' c']∧
 RatV w X (.agg #[.bool b, .slice A m c, .bool b', .slice A' m' c']) q∧IntV w X (.agg #[.bool b, .slice A m c]) q.num∧IntV w X (.agg #[.bool b', .slice A' m' c']) (q.den:Int):=by
 have h0:=h
 obtain ⟨A,c,B,d,rfl,h1,h2⟩:=h
 exact ⟨_,A,_,c,_,B,_,d,rfl,h0,h1,h2⟩
theorem RatV.of {a1 b1:Bool} {a2 b2:Value} (h:IntV w X (.agg #[.bool a1,a2]) q.num) (k:IntV w X (.agg #[.bool b1,b2]) (q.den:Int)):RatV w X (.agg #[.bool a1,a2, .bool b1,b2]) q:=by
 obtain ⟨A,c,e,_,_,h1⟩:=IntR.open_ h
 obtain ⟨B,d,e',_,_,h2⟩:=IntR.open_ k
 simp only [Value.agg.injEq,Array.mk.injEq,List.cons.injEq,Value.bool.injEq,and_true] at e e'
 obtain ⟨rfl,rfl⟩:=e
 obtain ⟨rfl,rfl⟩:=e'
 exact ⟨A,c,B,d,rfl,h,k⟩
theorem ratR_of {a1 b1:Bool} {a2 b2:Value} (h:IntR w X (.agg #[.bool a1,a2]) n1 xs) (k:IntR w X (.agg #[.bool b1,b2]) n2 ys):RatR w X (.agg #[.bool a1,a2, .bool b1,b2]) n1 xs n2 ys:=by
 obtain ⟨A,c,e,_,_,h1⟩:=IntR.open_ h
 obtain ⟨B,d,e',_,_,h2⟩:=IntR.open_ k
 simp only [Value.agg.injEq,Array.mk.injEq,List.cons.injEq,Value.bool.injEq,and_true] at e e'
 obtain ⟨rfl,rfl⟩:=e
 obtain ⟨rfl,rfl⟩:=e'
 exact ⟨A,c,B,d,rfl,h,k⟩
theorem RatR.to (h:RatR w X v n1 xs n2 ys)
 (k:Keep X w w':=by
  repeat (first
   | (with_reducible exact Keep.refl _ _) | (with_reducible refine Keep.drew ?_) | (with_reducible refine Keep.alloc ?_ _) | (with_reducible refine Keep.drewN ?_)
   | (with_reducible refine Keep.set ?_ ?_ _; rotate_left; (first | (right; simp only [zs]; omega) | (right; omega) | (left; simp only [Old,World.size_alloc,size_set,size_drew,size_drewN]; omega) | (left; dsimp only; omega)))
   | (with_reducible refine Keep.on ?_ (by assumption)))
  fail_if_success exfalso):RatR w' (fun _=>False) v n1 xs n2 ys:=(h.keep k).weak (fun _ _ h=>h.elim)
theorem RatV.to (h:RatV w X v q)
 (k:Keep X w w':=by
  repeat (first
   | (with_reducible exact Keep.refl _ _) | (with_reducible refine Keep.drew ?_) | (with_reducible refine Keep.alloc ?_ _) | (with_reducible refine Keep.drewN ?_)
   | (with_reducible refine Keep.set ?_ ?_ _; rotate_left; (first | (right; simp only [zs]; omega) | (right; omega) | (left; simp only [Old,World.size_alloc,size_set,size_drew,size_drewN]; omega) | (left; dsimp only; omega)))
   | (with_reducible refine Keep.on ?_ (by assumption)))
  fail_if_success exfalso):RatV w' (fun _=>False) v q:=(h.keep k).weak (fun _ _ h=>h.elim)
theorem RatV.out (h:RatV w X v q)
 (k:Keep (fun b=>X b∨Y b) w w':=by
  repeat (first
   | (with_reducible exact Keep.refl _ _) | (with_reducible refine Keep.drew ?_) | (with_reducible refine Keep.alloc ?_ _) | (with_reducible refine Keep.drewN ?_)
   | (with_reducible refine Keep.set ?_ ?_ _; rotate_left; (first | (right; simp only [zs]; omega) | (right; omega) | (left; simp only [Old,World.size_alloc,size_set,size_drew,size_drewN]; omega) | (left; dsimp only; omega) | (left; left; simp only [Old,World.size_alloc,size_set,size_drew,size_drewN]; omega) | (left; right; simp only [Old,World.size_alloc,size_set,size_drew,size_drewN]; omega) | (left; right; dsimp only; omega)))
   | (with_reducible refine Keep.on ?_ (by assumption)))
  fail_if_success exfalso)
 (hY:∀ b,b<w.heap.size→Y b→X b:=by intro b hw hb; (try simp only [Old,World.size_alloc,size_set,size_drew,size_drewN] at hw hb ⊢); first | omega | (exfalso; omega)):RatV w' Y v q:=((h.weak (Y:=fun b=>X b∨Y b) (fun b hb hxy=>hxy.elim id (hY b hb))).keep k).weak (fun b _ h=>Or.inr h)
end

set_option maxHeartbeats 1000000 in
theorem over_rat (w:World) (X:Nat→Prop) (v1 v2:Value) (n1 n2:Bool) (xs ys:List Nat) (h1:IntR w X v1 n1 xs) (h2:IntR w X v2 n2 ys) (hz:val ys ≠ 0) (hs1:xs.length≤100000000) (hs2:ys.length≤100000000) :
 Calls Tryz.prog 492 #[v1,v2] w fun e w'=>∃ v',e = .returned v'∧IntV w' (Old w) v' (qF (sv n1 xs) (sv n2 ys))∧Below w.heap.size w w':=by
 obtain ⟨A,c,rfl,h1⟩:=h1.op
 obtain ⟨B,d,rfl,h2⟩:=h2.op
 go_enter Tryz.func492,Tryz.ntmps492
 go_wp2_with fail
 refine (divide_any _ (fun _=>False) _ _ n1 n2 xs ys h1.to h2.to hz hs1 hs2).mono ?_
 rintro e w1 ⟨q,r,rfl,hq,hr,hb1⟩
 obtain ⟨z1,z2,z3⟩:=sz3 hb1
 obtain ⟨bq,Aq,mq,cq,rfl,hq⟩:=hq.op
 obtain ⟨br,Ar,mr,cr,rfl,hr⟩:=hr.op
 obtain ⟨c5,f5, -⟩:=(made3 w _ _ #[.bool false, .slice none 0 0] 211).all (w':=w1)
 go_wp2_with fail
 refine bodyPost_ret (by simp [results,Tryz.results492,go_sem,c5,f5,z1,z2,z3] <;> rfl) rfl ⟨_,rfl,hq.out,bel⟩

set_option maxHeartbeats 1000000 in
theorem zero_rat (w:World) :
 Calls Tryz.prog 424 #[] w fun e w'=>∃ v',e = .returned v'∧RatV w' (Old w) v' 0∧Below w.heap.size w w':=by
 go_enter Tryz.func424,Tryz.ntmps424
 go_wp2_with fail
 refine (of_any _ 0 (by decide) (by decide)).mono ?_
 rintro e w1 ⟨v1,rfl,h1,hb1⟩
 obtain ⟨b1,A1,m1,c1,rfl,h1⟩:=h1.op
 have z1:=sz1 hb1
 go_wp2_with fail
 refine (of_any _ 1 (by decide) (by decide)).mono ?_
 rintro e w2 ⟨v2,rfl,h2,hb2⟩
 obtain ⟨b2,A2,m2,c2,rfl,h2⟩:=h2.op
 have z2:=hb2.size
 obtain ⟨c5,f5,l5⟩:=(made1 w #[.bool false, .slice none 0 0, .bool false, .slice none 0 0] 213).all (w':=w2)
 go_wp2_with fail
 refine bodyPost_ret (by simp [results,Tryz.results424,go_sem,c5,f5,l5] <;> rfl) rfl ⟨_,rfl,RatV.of h1.out h2.out,bel⟩

/- rational.New. -/

theorem sv_zero_iff (n:Bool) (xs:List Nat):sv n xs=0↔val xs=0:=by rw [←sv_abs n xs]; omega

set_option maxHeartbeats 1000000 in
theorem new_zero (w:World) (X:Nat→Prop) (v1 v2:Value) (n1 n2:Bool) (xs ys:List Nat) (h1:IntR w X v1 n1 xs) (h2:IntR w X v2 n2 ys) (hz:val ys=0) :
 Calls Tryz.prog 423 #[v1,v2] w fun e w'=>e = .returned (.tuple #[.agg #[.bool false, .slice none 0 0, .bool false, .slice none 0 0], .int .i64 3])∧Below w.heap.size w w':=by
 obtain ⟨A,c,rfl,h1⟩:=h1.op
 obtain ⟨B,d,rfl,h2⟩:=h2.op
 have HS:Hid ((sv n2 ys).sign=0):=by rw [(sv_zero_iff n2 ys).2 hz]; rfl
 clear hz
 go_enter Tryz.func423,Tryz.ntmps423
 go_wp2_with fail
 refine (sign_any _ (fun _=>False) _ n2 ys h2.to).mono ?_
 rintro e w1 ⟨he,hb1⟩
 rw [HS.out] at he
 subst he
 obtain ⟨z1,z2,z3⟩:=sz3 hb1
 obtain ⟨c4,f4, -⟩:=(made3 w _ _ #[.bool false, .slice none 0 0, .bool false, .slice none 0 0] 213).all (w':=w1)
 go_wp2_with fail
 refine bodyPost_ret (by simp [results,Tryz.results423,go_sem,c4,f4] <;> rfl) rfl ⟨rfl,bel⟩

set_option maxHeartbeats 4000000 in
theorem new_any (w:World) (X:Nat→Prop) (v1 v2:Value) (n1 n2:Bool) (xs ys:List Nat) (h1:IntR w X v1 n1 xs) (h2:IntR w X v2 n2 ys) (hz:val ys ≠ 0) (hs1:xs.length≤100000000) (hs2:ys.length≤100000000) :
 Calls Tryz.prog 423 #[v1,v2] w fun e w'=>∃ v',e = .returned (.tuple #[v', .int .i64 0])∧RatV w' (Old w) v' (Rat.divInt (sv n1 xs) (sv n2 ys))∧Below w.heap.size w w':=by
 obtain ⟨A,c,rfl,h1⟩:=h1.op
 obtain ⟨B,d,rfl,h2⟩:=h2.op
 have hd0:sv n2 ys ≠ 0:=fun h=>hz ((sv_zero_iff n2 ys).1 h)
 obtain ⟨s2,hs⟩:∃ s,(sv n2 ys).sign=s:=⟨_,rfl⟩
 have hsb:(s2 == 0)=false:=by rw [beq_eq_false_iff_ne,← hs]; exact fun h=>hd0 (Int.sign_eq_zero_iff_zero.1 h)
 have HS:=Lib.hid hs
 clear hs
 obtain ⟨q,hq⟩:∃ q,Rat.divInt (sv n1 xs) (sv n2 ys)=q:=⟨_,rfl⟩
 rw [hq]
 have HQ:=Lib.hid hq
 clear hq
 have HL1:=Lib.hid (sv_len n1 xs h1.ws)
 have HL2:=Lib.hid (sv_len n2 ys h2.ws)
 go_enter Tryz.func423,Tryz.ntmps423
 go_wp2_with fail
 refine (sign_any _ (fun _=>False) _ n2 ys h2.to).mono ?_
 rintro e w1 ⟨he,hb1⟩
 rw [HS.out] at he
 subst he
 obtain ⟨z1,z2,z3⟩:=sz3 hb1
 obtain ⟨c2,f2, -⟩:=(made1 w #[.bool n1, .slice A xs.length c] 211).all (w':=w1)
 by_cases hn0:val xs=0
 ·have hn:sv n1 xs=0:=(sv_zero_iff n1 xs).2 hn0
  have HN:=Lib.hid hn
  clear hn hn0
  have hq0:=HQ.out
  rw [HN.out,Rat.zero_divInt] at hq0
  subst hq0
  go_wp2_with fail
  refine (sign_any _ (fun _=>False) _ n1 xs h1.to).mono ?_
  rintro e w2 ⟨he,hb2⟩
  rw [HN.out,Int.sign_zero] at he
  subst he
  have y2:=hb2.size; (try simp only [zs] at y2)
  go_wp2_with fail
  refine (zero_rat _).mono ?_
  rintro e w3 ⟨v3,rfl,h3,hb3⟩
  obtain ⟨b3,A3,m3,c3,b3',A3',m3',c3',rfl,h3, -, -⟩:=h3.op
  have y3:=hb3.size; (try simp only [zs] at y3)
  obtain ⟨c4,f4, -⟩:=(made3 w _ _ #[.bool false, .slice none 0 0, .bool false, .slice none 0 0] 213).all (w':=w3)
  go_wp2_with fail
  refine bodyPost_ret (by simp [results,Tryz.results423,go_sem,c4,f4] <;> rfl) rfl ⟨_,rfl,h3.out,bel⟩
 ·have hn:sv n1 xs ≠ 0:=fun h=>hn0 ((sv_zero_iff n1 xs).1 h)
  obtain ⟨s1,hs'⟩:∃ s,(sv n1 xs).sign=s:=⟨_,rfl⟩
  have hsa:(s1 == 0)=false:=by rw [beq_eq_false_iff_ne,← hs']; exact fun h=>hn (Int.sign_eq_zero_iff_zero.1 h)
  have HS1:=Lib.hid hs'
  clear hs'
  go_wp2_with fail
  refine (sign_any _ (fun _=>False) _ n1 xs h1.to).mono ?_
  rintro e w2 ⟨he,hb2⟩
  rw [HS1.out] at he
  subst he
  have y2:=hb2.size; (try simp only [zs] at y2)
  obtain ⟨c3,f3, -⟩:=(made2 w _ #[.bool n2, .slice B ys.length d] 211).all (w':=w2)
  go_wp2_with fail
  refine (sign_any _ (fun _=>False) _ n2 ys h2.to).mono ?_
  rintro e w3 ⟨he,hb3⟩
  rw [HS.out] at he
  subst he
  have y3:=hb3.size; (try simp only [zs] at y3)
  go_upto_if 17 with fail
  go_cut [17] (fun _ W=>∃ (b:Bool) (C:Option Addr) (m k:Nat) (b':Bool) (C':Option Addr) (m' k':Nat) (na nb:Bool) (us vs:List Nat),Loc W w.heap.size 211 #[.bool b, .slice C m k]∧Loc W (w.heap.size+1) 211 #[.bool b', .slice C' m' k']∧Loc W (w.heap.size+1+1) 213 #[.bool false, .slice none 0 0, .bool false, .slice none 0 0]∧
   IntR W (fun b=>w.heap.size≤b∧b<w.heap.size+3) (.agg #[.bool b, .slice C m k]) na us∧IntR W (fun b=>w.heap.size≤b∧b<w.heap.size+3) (.agg #[.bool b', .slice C' m' k']) nb vs∧
   Hid (sv na us=(if sv n2 ys<0 then -sv n1 xs else sv n1 xs)∧sv nb vs=(if sv n2 ys<0 then -sv n2 ys else sv n2 ys))∧us.length≤100000000∧vs.length≤100000000∧Below w.heap.size w W)
  case first=>
   by_cases hneg:s2<0
   ·have hlt:sv n2 ys<0:=by have:=HS.out; rw [←this] at hneg; exact Int.sign_neg_iff.1 hneg
    have HLT:=Lib.hid hlt
    clear hlt
    go_wp2_with fail
    obtain ⟨c5,f5, -⟩:=(made1 w #[.bool n1, .slice A xs.length c] 211).all (w':=w3.drew)
    obtain ⟨c6,f6, -⟩:=(made2 w _ #[.bool n2, .slice B ys.length d] 211).all (w':=w3.drew)
    clear c2 f2 c3 f3
    go_region_with (first
     | (go_at_call_of 449 (Value.agg #[Value.bool n1,Value.slice A xs.length c]); refine (neg_any _ (fun _=>False) _ n1 xs h1.to (by omega)).mono ?_; rintro e u1 ⟨v5,rfl,h5,hb5⟩; obtain ⟨b5,A5,m5,k5,rfl,h5⟩:=h5.op; have y5:=hb5.size; (try simp only [zs] at y5); obtain ⟨c6,f6, -⟩:=(made2 w _ #[.bool n2, .slice B ys.length d] 211).all (w':=u1))
     | (go_at_call_of 449 (Value.agg #[Value.bool n2,Value.slice B ys.length d]); refine (neg_any _ (fun _=>False) _ n2 ys h2.to (by omega)).mono ?_; rintro e u2 ⟨v6,rfl,h6,hb6⟩; obtain ⟨b6,A6,m6,k6,rfl,h6⟩:=h6.op; have y6:=hb6.size; (try simp only [zs] at y6); obtain ⟨c7,f7, -⟩:=(made1 w #[.bool n1, .slice A xs.length c] 211).all (w':=u2); obtain ⟨c8,f8, -⟩:=(made2 w _ #[.bool n2, .slice B ys.length d] 211).all (w':=u2)))
    all_goals
     have hv:=HLT.out
     go_wp2_with fail
     go_meet
     have L1:Loc u2 w.heap.size 211 #[.bool n1, .slice A xs.length c]:=(made1 w _ _).to
     have e12:w.heap.size ≠ w.heap.size+1:=by omega
     have e21:w.heap.size+1 ≠ w.heap.size:=by omega
     have L2:Loc u2 (w.heap.size+1) 211 #[.bool n2, .slice B ys.length d]:=(made2 w _ _ _).to
     refine ⟨_,_,_,_,_,_,_,_,_,_,_,_,(by first | with_reducible exact L1.two_first e12 | with_reducible exact L1.two_last e12),(by first | with_reducible exact L2.two_first e21 | with_reducible exact L2.two_last e21),
      (made3 w _ _ _ _).to,IntV.out h5,IntV.out h6,⟨by rw [sv_dig,if_pos hv],by rw [sv_dig,if_pos hv]⟩,by rw [Int.natAbs_neg]; exact Nat.le_trans HL1.out hs1,by rw [Int.natAbs_neg]; exact Nat.le_trans HL2.out hs2,bel⟩
   ·have hge:¬ sv n2 ys<0:=fun h=>hneg (by rw [←HS.out]; exact Int.sign_neg_iff.2 h)
    have HGE:=Lib.hid hge
    clear hge
    go_wp2_with fail
    go_meet
    have hv:=HGE.out
    exact ⟨_,_,_,_,_,_,_,_,_,_,_,_,(made1 w _ _).to,(made2 w _ _ _).to,(made3 w _ _ _ _).to,h1.out,h2.out,⟨by rw [if_neg (by omega)],by rw [if_neg (by omega)]⟩,hs1,hs2,bel⟩
  case rest=>
   obtain ⟨b,C,m,k,b',C',m',k',na,nb,us,vs,L2,L3,L4,i1,i2,HV,hl1,hl2,hB⟩:=hcut
   have hn1:val us=(sv n1 xs).natAbs:=by rw [←sv_abs na us,HV.out.1]; split <;> omega
   have hn2:val vs=(sv n2 ys).natAbs:=by rw [←sv_abs nb vs,HV.out.2]; split <;> omega
   have hvu:val us ≠ 0:=by omega
   have hwu:=i1.ws
   have hGl:(dig ((Nat.gcd (val us) (val vs):Nat):Int).natAbs).length≤100000000:=by
    rw [Int.natAbs_natCast]; exact Nat.le_trans (dig_len_mono (Nat.gcd_le_left _ (by omega))) (Nat.le_trans (dig_val_len hwu) hl1)
   have hGp:0<Nat.gcd (val us) (val vs):=Nat.gcd_pos_of_pos_left _ (by omega)
   have hf:=new_fields (sv n1 xs) (sv n2 ys) hd0 hn
   rw [←hn1,← hn2,← HV.out.1,← HV.out.2,HQ.out] at hf
   obtain ⟨G,hG⟩:∃ G,Nat.gcd (val us) (val vs)=G:=⟨_,rfl⟩
   rw [hG] at hf hGl hGp
   have HG:=Lib.hid hG
   have HF:=Lib.hid hf
   have zB:=L4.lt
   have zB1:=L3.lt
   have zB2:=L2.lt
   clear hG hf hn1 hn2 hvu hn hd0 hz hn0 z1 z2 z3 c2 f2 c3 f3 y2 y3 hb1 hb2 hb3
   obtain ⟨e2,g2, -⟩:=L2.all (w':=wc)
   obtain ⟨e3,g3, -⟩:=L3.all (w':=wc)
   go_wp2_with fail
   refine (gcd_any _ (fun _=>False) _ _ na nb us vs i1.to i2.to (by omega) (by omega)).mono ?_
   rintro e w4 ⟨v4,rfl,h4,hb4⟩
   rw [HG.out] at h4
   obtain ⟨b4,A4,m4,k4,rfl,h4⟩:=h4.op
   have y4:=hb4.size; (try simp only [zs] at y4)
   clear e2 g2 e3 g3
   obtain ⟨e4,g4, -⟩:=L4.all (w':=w4)
   go_wp2_with fail
   have L6:=made1 w4 #[.bool b4, .slice A4 m4 k4] 211
   have hval:val (dig ((G:Nat):Int).natAbs) ≠ 0:=by rw [val_dig,Int.natAbs_natCast]; omega
   go_region_held3 (fun W=>(W.cell? ⟨w.heap.size,0,none⟩=some (.bool b)∧W.cell? ⟨w.heap.size,1,none⟩=some (.slice C m k))∧(W.cell? ⟨w.heap.size+1,0,none⟩=some (.bool b')∧W.cell? ⟨w.heap.size+1,1,none⟩=some (.slice C' m' k'))∧W.cell? ⟨w4.heap.size,0,none⟩=some (.bool b4)∧W.cell? ⟨w4.heap.size,1,none⟩=some (.slice A4 m4 k4))
    (exact ⟨⟨Loc.c 0 L2,Loc.c 1 L2⟩,⟨Loc.c 0 L3,Loc.c 1 L3⟩,Loc.c 0 L6,Loc.c 1 L6⟩)
    (first
     | (go_at_call_of 492 (Value.agg #[Value.bool b,Value.slice C m k]); refine (over_rat _ (fun _=>False) _ _ na _ us _ i1.to h4.to hval hl1 hGl).mono ?_; rintro e u1 ⟨v5,rfl,h5,hb5⟩; rw [sv_dig] at h5; obtain ⟨b5,A5,m5,k5,rfl,h5⟩:=h5.op; have y5:=hb5.size; (try simp only [zs] at y5))
     | (go_at_call_of 492 (Value.agg #[Value.bool b',Value.slice C' m' k']); refine (over_rat _ (fun _=>False) _ _ nb _ vs _ i2.to h4.to hval hl2 hGl).mono ?_; rintro e u2 ⟨v6,rfl,h6,hb6⟩; rw [sv_dig] at h6; obtain ⟨b6,A6,m6,k6,rfl,h6⟩:=h6.op; have y6:=hb6.size; (try simp only [zs] at y6); obtain ⟨e4,g4, -⟩:=Loc.all L4 (w':=u2)))
   all_goals
    rw [HF.out.1] at h5
    rw [HF.out.2] at h6
    go_wp2_with fail
    refine bodyPost_ret (by simp [results,Tryz.results423,go_sem,e4,g4] <;> rfl) rfl ⟨_,rfl,RatV.of h5.out h6.out,bel⟩

/- Fractions of at most k words in each part; Clean, Of, Sign, Neg, Floor. -/

/-- v is a fraction as it lies, with the value q and at most k words in each part. -/
def RatL (k:Nat) (w:World) (X:Nat→Prop) (v:Value) (q:Rat):Prop:=∃ n1 xs n2 ys,RatR w X v n1 xs n2 ys∧xs.length≤k∧ys.length≤k∧rv n1 xs n2 ys=q
/-- A fraction's canonical form has at most k words in each part. -/
def Rsz (k:Nat) (q:Rat):Prop:=(dig q.num.natAbs).length≤k∧(dig (q.den:Int).natAbs).length≤k

section
variable {X Y:Nat→Prop} {w w':World} {v:Value} {q:Rat} {k j:Nat}
theorem RatV.len (h:RatV w X v q) (hk:Rsz k q):RatL k w X v q:=⟨_,_,_,_,h,hk.1,hk.2,rv_canon q⟩
theorem RatL.mono (h:RatL k w X v q) (hj:k≤j):RatL j w X v q:=let ⟨a,b,c,d,r,h1,h2,e⟩:=h; ⟨a,b,c,d,r,Nat.le_trans h1 hj,Nat.le_trans h2 hj,e⟩
theorem Rsz.mono (h:Rsz k q) (hj:k≤j):Rsz j q:=⟨Nat.le_trans h.1 hj,Nat.le_trans h.2 hj⟩
theorem RatL.keep (h:RatL k w X v q) (hk:Keep X w w'):RatL k w' X v q:=let ⟨a,b,c,d,r,h1⟩:=h; ⟨a,b,c,d,r.keep hk,h1⟩
theorem RatL.weak (h:RatL k w X v q) (hY:∀ b,b<w.heap.size→Y b→X b):RatL k w Y v q:=let ⟨a,b,c,d,r,h1⟩:=h; ⟨a,b,c,d,r.weak hY,h1⟩
theorem RatL.below (h:RatL k w X v q) (hk:Below w.heap.size w w'):RatL k w' X v q:=h.keep (.of_below hk)
theorem RatL.op (h:RatL k w X v q):∃ (n1:Bool) (A:Option Addr) (m c:Nat) (n2:Bool) (B:Option Addr) (m' d:Nat),v = .agg #[.bool n1, .slice A m c, .bool n2, .slice B m' d]∧
 RatL k w X (.agg #[.bool n1, .slice A m c, .bool n2, .slice B m' d]) q∧∃ xs ys,IntR w X (.agg #[.bool n1, .slice A m c]) n1 xs∧IntR w X (.agg #[.bool n2, .slice B m' d]) n2 ys∧xs.length≤k∧ys.length≤k∧Hid (rv n1 xs n2 ys=q):=by
 have h0:=h
 obtain ⟨n1,xs,n2,ys,⟨A,c,B,d,rfl,i1,i2⟩,l1,l2,e⟩:=h
 exact ⟨n1,A,_,c,n2,B,_,d,rfl,h0,xs,ys,i1,i2,l1,l2,e⟩
theorem RatL.to (h:RatL k w X v q)
 (k':Keep X w w':=by
  repeat (first
   | (with_reducible exact Keep.refl _ _) | (with_reducible refine Keep.drew ?_) | (with_reducible refine Keep.alloc ?_ _) | (with_reducible refine Keep.drewN ?_)
   | (with_reducible refine Keep.set ?_ ?_ _; rotate_left; (first | (right; simp only [zs]; omega) | (right; omega) | (left; simp only [Old,World.size_alloc,size_set,size_drew,size_drewN]; omega) | (left; dsimp only; omega)))
   | (with_reducible refine Keep.on ?_ (by assumption)))
  fail_if_success exfalso):RatL k w' (fun _=>False) v q:=(h.keep k').weak (fun _ _ h=>h.elim)
end

theorem divInt_num_le (n d:Int):(Rat.divInt n d).num.natAbs≤n.natAbs:=by
 rw [Rat.num_divInt]
 refine Nat.le_trans (Int.natAbs_ediv_le_natAbs _ _) ?_
 rw [Int.natAbs_mul]
 rcases sign_cases d with ⟨_,h⟩ | ⟨_,h⟩ | ⟨_,h⟩ <;> rw [h] <;> simp
theorem divInt_den_le (n d:Int):(Rat.divInt n d).den≤if d=0 then 1 else d.natAbs:=by
 rw [Rat.den_divInt]
 split
 ·exact Nat.le_refl _
 ·exact Nat.div_le_self _ _
theorem dig_one_len:(dig 1).length≤1:=dig_len_le (by decide)
theorem divInt_Rsz {n d:Int} {k:Nat} (hk:1≤k) (hn:(dig n.natAbs).length≤k) (hd:(dig d.natAbs).length≤k):Rsz k (Rat.divInt n d):=by
 refine ⟨Nat.le_trans (dig_len_mono (divInt_num_le n d)) hn,?_⟩
 rw [Int.natAbs_natCast]
 refine Nat.le_trans (dig_len_mono (divInt_den_le n d)) ?_
 split
 ·exact Nat.le_trans dig_one_len hk
 ·exact hd
theorem rv_Rsz {n1 n2:Bool} {xs ys:List Nat} {k:Nat} (hk:1≤k) (hx:Ws xs) (hy:Ws ys) (lx:xs.length≤k) (ly:ys.length≤k):Rsz k (rv n1 xs n2 ys):=
 divInt_Rsz hk (Nat.le_trans (sv_len n1 xs hx) lx) (Nat.le_trans (sv_len n2 ys hy) ly)
theorem RatL.rsz {X:Nat→Prop} {w:World} {v:Value} {q:Rat} {k:Nat} (h:RatL k w X v q) (hk:1≤k):Rsz k q:=by
 obtain ⟨n1,xs,n2,ys,⟨A,c,B,d,rfl,i1,i2⟩,l1,l2,rfl⟩:=h
 exact rv_Rsz hk i1.ws i2.ws l1 l2
theorem len_mulI {a b:Int} {j k:Nat} (ha:(dig a.natAbs).length≤j) (hb:(dig b.natAbs).length≤k):(dig (a*b).natAbs).length≤j+k:=by
 have h:=len_mul (ws_dig a.natAbs) (ws_dig b.natAbs)
 rw [val_dig,val_dig,← Int.natAbs_mul] at h
 omega
theorem Rsz.one {q:Rat} {k:Nat} (h:Rsz k q):1≤k:=by
 have h1:=h.2
 have:=dig_len_pos (q.den:Int).natAbs
 have h2:0<(q.den:Int).natAbs:=by have:=q.den_nz; omega
 omega
theorem Rsz.mul {x y:Rat} {j k:Nat} (hx:Rsz j x) (hy:Rsz k y):Rsz (j+k) (x*y):=by
 rw [←rat_mul]; exact divInt_Rsz (by have:=hx.one; omega) (len_mulI hx.1 hy.1) (len_mulI hx.2 hy.2)
theorem len_addI {a b:Int} {k:Nat} (ha:(dig a.natAbs).length≤k) (hb:(dig b.natAbs).length≤k):(dig (a+b).natAbs).length≤k+1:=by
 have h:=sub_len a (-b) k ha (by rw [Int.natAbs_neg]; exact hb)
 rwa [Int.sub_neg] at h
theorem Rsz.add {x y:Rat} {j k:Nat} (hx:Rsz j x) (hy:Rsz k y):Rsz (j+k+1) (x+y):=by
 rw [←rat_add]
 exact divInt_Rsz (by omega) (len_addI (len_mulI hx.1 hy.2) (by have:=len_mulI hy.1 hx.2; omega)) (by have:=len_mulI hx.2 hy.2; omega)
theorem Rsz.neg {x:Rat} {k:Nat} (hx:Rsz k x):Rsz k (-x):=⟨by rw [Rat.neg_num,Int.natAbs_neg]; exact hx.1,by rw [Rat.neg_den]; exact hx.2⟩
theorem Rsz.div {x y:Rat} {j k:Nat} (hx:Rsz j x) (hy:Rsz k y):Rsz (j+k) (x / y):=by
 rw [←rat_div]; exact divInt_Rsz (by have:=hx.one; omega) (len_mulI hx.1 hy.2) (len_mulI hx.2 hy.1)

set_option maxHeartbeats 2000000 in
theorem clean_rat (w:World) (X:Nat→Prop) (v:Value) (q:Rat) (h:RatL 100000000 w X v q) :
 Calls Tryz.prog 348 #[v] w fun e w'=>∃ v',e = .returned v'∧RatV w' (Old w) v' q∧Below w.heap.size w w':=by
 obtain ⟨n1,A,m,c,n2,B,m',d,rfl, -,xs,ys,i1,i2,l1,l2,HE⟩:=h.op
 clear h
 by_cases hz:val ys=0
 ·have hq0:q=0:=by rw [←HE.out]; unfold rv; rw [(sv_zero_iff n2 ys).2 hz,Rat.divInt_zero]
  subst hq0
  go_enter Tryz.func348,Tryz.ntmps348
  go_wp2_with fail
  refine (new_zero _ (fun _=>False) _ _ n1 n2 xs ys i1.to i2.to hz).mono ?_
  rintro e w1 ⟨rfl,hb1⟩
  obtain ⟨z1,z2⟩:=sz2 hb1
  go_wp2_with fail
  refine (zero_rat _).mono ?_
  rintro e w2 ⟨v2,rfl,h2,hb2⟩
  obtain ⟨b2,A2,m2,c2,b3,A3,m3,c3,rfl,h2, -, -⟩:=h2.op
  have y2:=hb2.size; (try simp only [zs] at y2)
  obtain ⟨e4,g4, -⟩:=(made2 w _ #[.bool false, .slice none 0 0, .bool false, .slice none 0 0] 213).all (w':=w2)
  go_wp2_with fail
  refine bodyPost_ret (by simp [results,Tryz.results348,go_sem,e4,g4] <;> rfl) rfl ⟨_,rfl,h2.out,bel⟩
 ·go_enter Tryz.func348,Tryz.ntmps348
  go_wp2_with fail
  refine (new_any _ (fun _=>False) _ _ n1 n2 xs ys i1.to i2.to hz (by omega) (by omega)).mono ?_
  rintro e w1 ⟨v2,rfl,h2,hb1⟩
  have hq:Rat.divInt (sv n1 xs) (sv n2 ys)=q:=HE.out
  rw [hq] at h2
  clear hq
  obtain ⟨z1,z2⟩:=sz2 hb1
  obtain ⟨b2,A2,m2,c2,b3,A3,m3,c3,rfl,h2, -, -⟩:=h2.op
  obtain ⟨e4,g4, -⟩:=(made2 w _ #[.bool false, .slice none 0 0, .bool false, .slice none 0 0] 213).all (w':=w1)
  go_wp2_with fail
  refine bodyPost_ret (by simp [results,Tryz.results348,go_sem,e4,g4,z1,z2] <;> rfl) rfl ⟨_,rfl,h2.out,bel⟩

theorem dig_i64 (n:Int) (h0 : -9223372036854775808≤n) (h1:n≤9223372036854775807):(dig n.natAbs).length≤2:=dig_len_le (by omega)

set_option maxHeartbeats 2000000 in
theorem ratof_any (w:World) (n d:Int) (hd:d ≠ 0) (h0 : -9223372036854775808≤n) (h1:n≤9223372036854775807) (h2 : -9223372036854775808≤d) (h3:d≤9223372036854775807) :
 Calls Tryz.prog 382 #[.int .i64 n, .int .i64 d] w fun e w'=>∃ v',e = .returned (.tuple #[v', .int .i64 0])∧RatV w' (Old w) v' (Rat.divInt n d)∧Below w.heap.size w w':=by
 have HN:=Lib.hid (dig_i64 n h0 h1)
 have HD:=Lib.hid (dig_i64 d h2 h3)
 go_enter Tryz.func382,Tryz.ntmps382
 go_wp2_with fail
 refine (of_any _ n h0 h1).mono ?_
 rintro e w1 ⟨v1,rfl,i1,hb1⟩
 obtain ⟨b1,A1,m1,c1,rfl,i1⟩:=i1.op
 have z1:=sz1 hb1
 go_wp2_with fail
 refine (of_any _ d h2 h3).mono ?_
 rintro e w2 ⟨v2,rfl,i2,hb2⟩
 obtain ⟨b2,A2,m2,c2,rfl,i2⟩:=i2.op
 have y2:=hb2.size; (try simp only [zs] at y2)
 go_wp2_with fail
 refine (new_any _ (fun _=>False) _ _ _ _ _ _ i1.to i2.to (by rw [val_dig]; omega) (Nat.le_trans HN.out (by omega)) (Nat.le_trans HD.out (by omega))).mono ?_
 rintro e w3 ⟨v3,rfl,h3,hb3⟩
 rw [sv_dig,sv_dig] at h3
 have y3:=hb3.size; (try simp only [zs] at y3)
 obtain ⟨b2,A2,m2,c2,b3,A3,m3,c3,rfl,h3, -, -⟩:=h3.op
 obtain ⟨e4,g4, -⟩:=(made1 w #[.bool false, .slice none 0 0, .bool false, .slice none 0 0] 213).all (w':=w3)
 go_wp2_with fail
 refine bodyPost_ret (by simp [results,Tryz.results382,go_sem,e4,g4] <;> rfl) rfl ⟨_,rfl,h3.out,bel⟩
end Go.Proofs.YtbdcjhoedhhabaaGreat

/- The simplex tableau of layer 8, plain: sums, pivots, what every pivot keeps. -/
namespace Go.Proofs.YtbdcjhoedhhabaaGreat

/-- The sum of the first m values. -/
def sm:Nat→(Nat→Rat)→Rat
 | 0,_=>0
 | m+1,f=>sm m f+f m
section
variable {m n k:Nat} {f g:Nat→Rat}
theorem sm_succ (m:Nat) (f:Nat→Rat):sm (m+1) f=sm m f+f m:=rfl
theorem sm_congr:∀ {m:Nat},(∀ i,i<m→f i=g i)→sm m f=sm m g
 | 0,_=>rfl
 | m+1,h=>by unfold sm; rw [sm_congr (m:=m) (fun i hi=>h i (by omega)),h m (by omega)]
theorem sm_add (f g:Nat→Rat):∀ m,sm m (fun i=>f i+g i)=sm m f+sm m g
 | 0=>by simp [sm,Rat.add_zero]
 | m+1=>by unfold sm; rw [sm_add f g m]; grind
theorem sm_mul (c:Rat) (f:Nat→Rat):∀ m,sm m (fun i=>c*f i)=c*sm m f
 | 0=>by simp [sm,Rat.mul_zero]
 | m+1=>by unfold sm; rw [sm_mul c f m]; grind
theorem sm_sub (f g:Nat→Rat):∀ m,sm m (fun i=>f i - g i)=sm m f - sm m g
 | 0=>by simp only [sm]; grind
 | m+1=>by unfold sm; rw [sm_sub f g m]; grind
theorem sm_neg (f:Nat→Rat):∀ m,sm m (fun i=> -f i) = -sm m f
 | 0=>by simp only [sm]; grind
 | m+1=>by unfold sm; rw [sm_neg f m]; grind
theorem sm_zero:∀ {m:Nat},(∀ i,i<m→f i=0)→sm m f=0
 | 0,_=>rfl
 | m+1,h=>by unfold sm; rw [sm_zero (m:=m) (fun i hi=>h i (by omega)),h m (by omega)]; grind
theorem sm_upd (f:Nat→Rat) (v:Rat) (r:Nat):∀ m,r<m→sm m (fun i=>if i=r then v else f i)=sm m f - f r+v
 | 0,h=>by omega
 | m + 1, h => by
   unfold sm
   by_cases hm:r=m
   ·subst hm
    rw [sm_congr (g:=f) (fun i hi=>by simp only [if_neg (show ¬ i=r by omega)])]
    simp only [if_true]; grind
   ·rw [sm_upd f v r m (by omega)]
    simp only [if_neg (show ¬ m=r by omega)]; grind
theorem sm_one (f:Nat→Rat) (r:Nat) (h:r<m) (h0:∀ i,i<m→i ≠ r→f i=0):sm m f=f r:=by
 have e:sm m f=sm m (fun i=>if i=r then f r else 0):=sm_congr (fun i hi=>by
  by_cases hr:i=r
  ·rw [if_pos hr,hr]
  ·rw [if_neg hr,h0 i hi hr])
 rw [e,sm_upd (fun _=>0) (f r) r m h,sm_zero (fun i _=>rfl)]; grind
theorem sm_swap (F:Nat→Nat→Rat) (k:Nat):∀ m,sm m (fun i=>sm k (fun l=>F i l))=sm k (fun l=>sm m (fun i=>F i l))
 | 0 => by
   simp only [sm]; exact (sm_zero (fun i _=>rfl)).symm
 | m + 1 => by
   rw [sm_succ,sm_swap F k m,← sm_add]
   exact sm_congr (fun l _=>rfl)
theorem sm_nonneg:∀ {m:Nat},(∀ i,i<m→0≤f i)→0≤sm m f
 | 0,_=>Rat.le_refl
 | m + 1, h => by
   unfold sm
   have h1:=sm_nonneg (m:=m) (fun i hi=>h i (by omega))
   have h2:=h m (by omega)
   grind
theorem sm_pos:∀ {m:Nat},0<sm m f→∃ i,i<m∧0<f i
 | 0,h=>absurd h (by simp only [sm]; grind)
 | m + 1, h => by
   unfold sm at h
   by_cases h2:0<f m
   ·exact ⟨m,by omega,h2⟩
   ·obtain ⟨i,hi,hp⟩:=sm_pos (m:=m) (by grind)
    exact ⟨i,by omega,hp⟩
theorem sm_zero_all:∀ {m:Nat},(∀ i,i<m→0≤f i)→sm m f=0→∀ i,i<m→f i=0
 | 0,_,_,i,hi=>by omega
 | m + 1, h, h0, i, hi => by
   unfold sm at h0
   have h1:=sm_nonneg (m:=m) (fun i hi=>h i (by omega))
   have h2:=h m (by omega)
   by_cases hm:i=m
   ·subst hm; grind
   ·exact sm_zero_all (m:=m) (fun i hi=>h i (by omega)) (by grind) i (by omega)
theorem sm_split (f:Nat→Rat) (n:Nat):∀ m,sm (n+m) f=sm n f+sm m (fun i=>f (n+i))
 | 0=>by simp only [sm,Nat.add_zero]; grind
 | m + 1 => by
   rw [←Nat.add_assoc,sm_succ,sm_succ,sm_split f n m]; grind
end

/-- What a pivot makes of the rows. -/
def piv (T:Nat→Nat→Rat) (r j:Nat):Nat→Nat→Rat:=fun k c=>if k=r then T r c / T r j else T k c - T k j*(T r c / T r j)
/-- What it makes of the basis. -/
def bup (b:Nat→Nat) (r j:Nat):Nat→Nat:=fun i=>if i=r then j else b i
/-- The reduced costs. -/
def rho (m:Nat) (d:Nat→Rat) (T:Nat→Nat→Rat) (b:Nat→Nat):Nat→Rat:=fun c=>d c - sm m (fun i=>d (b i)*T i c)

/-- A tableau of the start T0: m rows, n unknowns, m artificial ones, the right-hand side in column n + m. -/
structure Good (m n:Nat) (T0 T:Nat→Nat→Rat) (b:Nat→Nat):Prop where
 id:∀ i,i<m→∀ k,k<m→T k (b i)=if k=i then 1 else 0
 lt:∀ i,i<m→b i<n+m
 fw:∀ i,i<m→∀ c,c≤n+m→T i c=sm m (fun l=>T i (n+l)*T0 l c)
 bw:∀ l,l<m→∀ c,c≤n+m→T0 l c=sm m (fun i=>T0 l (b i)*T i c)

section
variable {m n:Nat} {T0 T T1 T2:Nat→Nat→Rat} {b b1 b2:Nat→Nat} {d:Nat→Rat} {r j c:Nat}

theorem rho_piv (d:Nat→Rat) (hr:r<m) (hp:T r j ≠ 0) (c:Nat):rho m d (piv T r j) (bup b r j) c=rho m d T b c - rho m d T b j*(T r c / T r j):=by
 have e:∀ i,i<m→d (bup b r j i)*piv T r j i c=if i=r then d j*(T r c / T r j) else d (b i)*T i c - (T r c / T r j)*(d (b i)*T i j):=fun i _=>by
  unfold bup piv
  by_cases h:i=r
  ·subst h; simp only [if_true]
  ·simp only [if_neg h]; grind
 unfold rho
 rw [sm_congr e,sm_upd _ _ r m hr,sm_sub,sm_mul]
 have h1:T r j*(T r c / T r j)=T r c:=by grind
 have h2:d (b r)*T r c - T r c / T r j*(d (b r)*T r j)=0:=by grind
 rw [h2]; grind

theorem Good.pvt (G:Good m n T0 T b) (hr:r<m) (hj:j<n+m) (hp:T r j ≠ 0):Good m n T0 (piv T r j) (bup b r j):=by
 refine ⟨fun i hi k hk=>?_,fun i hi=>?_,fun i hi c hc=>?_,fun l hl c hc=>?_⟩
 ·unfold bup piv
  by_cases hir:i=r
  ·subst hir
   simp only [if_true]
   by_cases hki:k=i
   ·simp only [if_pos hki]; grind
   ·simp only [if_neg hki]; grind
  ·simp only [if_neg hir]
   have e:=G.id i hi r hr
   rw [if_neg (fun e=>hir e.symm)] at e
   have e2:=G.id i hi k hk
   by_cases hkr:k=r
   ·subst hkr
    rw [if_pos rfl,if_neg (fun e=>hir e.symm),e]; grind
   ·rw [if_neg hkr,e,e2]; grind
 ·unfold bup
  by_cases h:i=r
  ·rw [if_pos h]; exact hj
  ·rw [if_neg h]; exact G.lt i hi
 ·have e1:=G.fw r hr c hc
  have e2:=G.fw i hi c hc
  unfold piv
  by_cases h:i=r
  ·subst h
   simp only [if_true]
   rw [sm_congr (g:=fun l=>(1 / T i j)*(T i (n+l)*T0 l c)) (fun l _=>by grind),sm_mul,← e1]; grind
  ·simp only [if_neg h]
   rw [sm_congr (g:=fun l=>T i (n+l)*T0 l c - (T i j / T r j)*(T r (n+l)*T0 l c)) (fun l _=>by grind),sm_sub,sm_mul,← e1,← e2]; grind
 ·have e:=G.bw l hl
  have z:∀ c,c≤n+m→rho m (T0 l) T b c=0:=fun c hc=>by
   unfold rho; rw [←e c hc]; grind
  have h:=rho_piv (b:=b) (T0 l) hr hp c
  rw [z c hc,z j (by omega)] at h
  unfold rho at h
  grind

/-- The start is a tableau of itself. -/
theorem Good.start (h:∀ i,i<m→∀ k,k<m→T0 k (n+i)=if k=i then 1 else 0):Good m n T0 T0 (fun i=>n+i):=by
 refine ⟨h,fun i hi=>by omega,fun i hi c hc=>?_,fun l hl c hc=>?_⟩
 ·rw [sm_one _ i hi (fun l hl hne=>by rw [h l hl i hi,if_neg (fun e=>hne e.symm)]; grind),h i hi i hi,if_pos rfl]; grind
 ·rw [sm_one _ l hl (fun i hi hne=>by rw [h i hi l hl,if_neg (fun e=>hne e.symm)]; grind),h l hl l hl,if_pos rfl]; grind

/-- A row of one tableau out of the rows of another. -/
theorem Good.exp (G1:Good m n T0 T1 b1) (G2:Good m n T0 T2 b2) {i:Nat} (hi:i<m) (hc:c≤n+m):T1 i c=sm m (fun k=>T1 i (b2 k)*T2 k c):=by
 rw [G1.fw i hi c hc,sm_congr (g:=fun l=>sm m (fun k=>T1 i (n+l)*(T0 l (b2 k)*T2 k c))) (fun l hl=>by rw [G2.bw l hl c hc,sm_mul]),sm_swap]
 refine sm_congr (fun k hk=>?_)
 rw [G1.fw i hi (b2 k) (Nat.le_of_lt (G2.lt k hk)),sm_congr (g:=fun l=>T2 k c*(T1 i (n+l)*T0 l (b2 k))) (fun l _=>by grind),sm_mul]; grind

theorem Good.inj (G:Good m n T0 T b) {i k:Nat} (hi:i<m) (hk:k<m) (h:b i=b k):i=k:=by
 have e1:=G.id i hi k hk
 have e2:=G.id k hk k hk
 rw [h,e2,if_pos rfl] at e1
 by_cases hik:k=i
 ·exact hik.symm
 ·rw [if_neg hik] at e1; exact absurd e1 (by grind)

/-- A tableau is told by its basis. -/
theorem Good.uniq (G1:Good m n T0 T1 b1) (G2:Good m n T0 T2 b2) (hb:∀ i,i<m→b1 i=b2 i) {i:Nat} (hi:i<m) (hc:c≤n+m):T1 i c=T2 i c:=by
 rw [G1.exp G2 hi hc,sm_one _ i hi (fun k hk hne=>by rw [←hb k hk,G1.id k hk i hi,if_neg (fun e=>hne e.symm)]; grind),← hb i hi,G1.id i hi i hi,if_pos rfl]; grind

/-- The reduced costs of one tableau out of those of another. -/
theorem Good.rho2 (G1:Good m n T0 T1 b1) (G2:Good m n T0 T2 b2) (hc:c≤n+m):rho m d T2 b2 c=rho m d T1 b1 c - sm m (fun i=>rho m d T1 b1 (b2 i)*T2 i c):=by
 have e:sm m (fun i=>rho m d T1 b1 (b2 i)*T2 i c)=sm m (fun i=>d (b2 i)*T2 i c) - sm m (fun k=>d (b1 k)*T1 k c):=by
  rw [sm_congr (g:=fun i=>d (b2 i)*T2 i c - sm m (fun k=>d (b1 k)*(T1 k (b2 i)*T2 i c))) (fun i hi=>by
   unfold rho
   rw [sm_congr (f:=fun k=>d (b1 k)*(T1 k (b2 i)*T2 i c)) (g:=fun k=>T2 i c*(d (b1 k)*T1 k (b2 i))) (fun k _=>by grind),sm_mul]; grind),sm_sub,sm_swap]
  rw [sm_congr (f:=fun l=>sm m fun i=>d (b1 l)*(T1 l (b2 i)*T2 i c)) (g:=fun k=>d (b1 k)*T1 k c) (fun k hk=>by rw [sm_mul,← G1.exp G2 hk hc])]
 rw [e]; unfold rho; grind
theorem Good.rho_basic (G:Good m n T0 T b) {i:Nat} (hi:i<m):rho m d T b (b i)=0:=by
 unfold rho
 rw [sm_one _ i hi (fun k hk hne=>by rw [G.id i hi k hk,if_neg hne]; grind),G.id i hi i hi,if_pos rfl]; grind
end
end Go.Proofs.YtbdcjhoedhhabaaGreat

