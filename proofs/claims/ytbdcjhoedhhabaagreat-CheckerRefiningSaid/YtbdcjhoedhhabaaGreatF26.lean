/- Contracts of the functions that the statements reach, part 26. -/
import Derived.Test.YtbdcjhoedhhabaaGreatRows
import Derived.Deep.CutBlock
import Derived.ProofKit
import Derived.OpenShut
import Derived.ShutString
import Derived.ChangeOld
import Derived.Lib.SmallJoins
import Derived.Test.YtbdcjhoedhhabaaGreatF18
import Derived.Test.YtbdcjhoedhhabaaGreatF22
import Derived.Test.YtbdcjhoedhhabaaGreatF23
import Derived.Test.YtbdcjhoedhhabaaGreatF24
import Derived.Test.YtbdcjhoedhhabaaGreatF25
set_option linter.unusedSimpArgs false
set_option linter.unusedVariables false

/- Add of rational; printed by gen_rat5.py. -/
namespace Go.Proofs.YtbdcjhoedhhabaaGreat
open Go.RowKit
attribute [local go_sem ↓] Go.wp_at_zero Go.wp_at_succ

set_option maxHeartbeats 4000000 in
theorem add_rat (w:World) (X:Nat→Prop) (v1 v2:Value) (x y:Rat) (h1:RatL 10000000 w X v1 x) (h2:RatL 10000000 w X v2 y) :
 Calls Tryz.prog 292 #[v1,v2] w fun e w'=>∃ v',e = .returned v'∧RatV w' (Old w) v' (x+y)∧Below w.heap.size w w':=by
 have HX:=Lib.hid (h1.rsz (by omega))
 have HY:=Lib.hid (h2.rsz (by omega))
 obtain ⟨n1,A,m,c,n2,B,m',d,rfl,h1, -⟩:=h1.op
 obtain ⟨o1,C,p,e,o2,D,p',f,rfl,h2, -⟩:=h2.op
 go_enter Tryz.func292,Tryz.ntmps292
 go_upto_region 2 with fail
 go_cut [0] (fun _ W=>∃ (n1:Bool) (A:Option Addr) (m c:Nat) (n2:Bool) (B:Option Addr) (m' d:Nat) (o1:Bool) (C:Option Addr) (p e:Nat) (o2:Bool) (D:Option Addr) (p' f:Nat),
  Loc W w.heap.size 213 #[.bool n1, .slice A m c, .bool n2, .slice B m' d]∧Loc W (w.heap.size+1) 213 #[.bool o1, .slice C p e, .bool o2, .slice D p' f]∧Loc W (w.heap.size+1+1) 213 #[.bool false, .slice none 0 0, .bool false, .slice none 0 0]∧
  RatV W (fun b=>w.heap.size≤b∧b<w.heap.size+3) (.agg #[.bool n1, .slice A m c, .bool n2, .slice B m' d]) x∧RatV W (fun b=>w.heap.size≤b∧b<w.heap.size+3) (.agg #[.bool o1, .slice C p e, .bool o2, .slice D p' f]) y∧Below w.heap.size w W)
 case first=>
  have N1:=made1 w #[.bool n1, .slice A m c, .bool n2, .slice B m' d] 213
  have N2:=made2 w (.cells #[.bool n1, .slice A m c, .bool n2, .slice B m' d] 213) #[.bool o1, .slice C p e, .bool o2, .slice D p' f] 213
  go_wp2_with fail
  obtain ⟨c5,f5, -⟩:=N1.all (w':=(((w.alloc (.cells #[.bool n1, .slice A m c, .bool n2, .slice B m' d] 213)).alloc (.cells #[.bool o1, .slice C p e, .bool o2, .slice D p' f] 213)).alloc (.cells #[.bool false, .slice none 0 0, .bool false, .slice none 0 0] 213)).drew)
  obtain ⟨c6,f6, -⟩:=N2.all (w':=(((w.alloc (.cells #[.bool n1, .slice A m c, .bool n2, .slice B m' d] 213)).alloc (.cells #[.bool o1, .slice C p e, .bool o2, .slice D p' f] 213)).alloc (.cells #[.bool false, .slice none 0 0, .bool false, .slice none 0 0] 213)).drew)
  go_region_with (first
   | (go_at_call_of 348 (Value.agg #[Value.bool n1,Value.slice A m c,Value.bool n2,Value.slice B m' d]); refine (clean_rat _ (fun _=>False) _ x (h1.mono (by omega)).to).mono ?_; rintro e u1 ⟨v5,rfl,h5,hb5⟩; obtain ⟨b5,A5,m5,k5,b5',A5',m5',k5',rfl,h5, -, -⟩:=h5.op; have y5:=hb5.size; (try simp only [zs] at y5); obtain ⟨c6,f6, -⟩:=N2.all (w':=u1))
   | (go_at_call_of 348 (Value.agg #[Value.bool o1,Value.slice C p e,Value.bool o2,Value.slice D p' f]); refine (clean_rat _ (fun _=>False) _ y (h2.mono (by omega)).to).mono ?_; rintro e u2 ⟨v6,rfl,h6,hb6⟩; obtain ⟨b6,A6,m6,k6,b6',A6',m6',k6',rfl,h6, -, -⟩:=h6.op; have y6:=hb6.size; (try simp only [zs] at y6); obtain ⟨c7,f7, -⟩:=N1.all (w':=u2); obtain ⟨c8,f8, -⟩:=N2.all (w':=u2)))
  all_goals
   go_wp2_with fail
   go_meet
   have L1:=N1.to (w':=u2)
   have L2:=N2.to (w':=u2)
   have e12:w.heap.size ≠ w.heap.size+1:=by omega
   have e21:w.heap.size+1 ≠ w.heap.size:=by omega
   exact ⟨_,_,_,_,_,_,_,_,_,_,_,_,_,_,_,_,(by first | with_reducible exact Loc.two4_first e12 L1 | with_reducible exact Loc.two4_last e12 L1),(by first | with_reducible exact Loc.two4_first e21 L2 | with_reducible exact Loc.two4_last e21 L2),(made3 w _ _ _ _).to,RatV.out h5,RatV.out h6,bel⟩
 case rest=>
  clear h1 h2
  obtain ⟨n1,A,m,c,n2,B,m',d,o1,C,p,e,o2,D,p',f,L1,L2,L3,h1,h2,hB⟩:=hcut
  obtain ⟨_,_,_,_,_,_,_,_,e1,h1,i1,i2⟩:=h1.op
  simp only [Value.agg.injEq,Array.mk.injEq,List.cons.injEq,Value.bool.injEq,Value.slice.injEq,and_true] at e1
  obtain ⟨rfl,⟨rfl,rfl,rfl⟩,rfl,⟨rfl,rfl,rfl⟩⟩:=e1
  obtain ⟨_,_,_,_,_,_,_,_,e1,h2,j1,j2⟩:=h2.op
  simp only [Value.agg.injEq,Array.mk.injEq,List.cons.injEq,Value.bool.injEq,Value.slice.injEq,and_true] at e1
  obtain ⟨rfl,⟨rfl,rfl,rfl⟩,rfl,⟨rfl,rfl,rfl⟩⟩:=e1
  have z1:=L1.lt
  have z2:=L2.lt
  have z3:=L3.lt
  go_wp2_with fail
  have HA:=Lib.hid (len_mulI HX.out.1 HY.out.2)
  have HB:=Lib.hid (len_mulI HY.out.1 HX.out.2)
  have HS:=Lib.hid (len_addI HA.out (Nat.le_trans HB.out (by omega)))
  have HD:=Lib.hid (len_mulI HX.out.2 HY.out.2)
  clear z1 z2 z3
  obtain ⟨w5,rfl⟩:∃ w5:World,w5=wc:=⟨wc,rfl⟩
  go_upto_region 3 with fail
  go_cut [5] (fun v W=>∃ (g:Nat) (b:Bool) (E:Option Addr) (r s:Nat),v = .pointer (some ⟨g,0,none⟩)∧w.heap.size+2<g∧Loc W g 211 #[.bool b, .slice E r s]∧IntV W (fun b=>w.heap.size≤b∧b<w.heap.size+3) (.agg #[.bool b, .slice E r s]) (x.num*(y.den:Int)+y.num*(x.den:Int))∧Below w5.heap.size w5 W)
  case first=>
   have z1:=Loc.lt L1
   have z2:=Loc.lt L2
   have z3:=Loc.lt L3
   go_wp2_with fail
   go_region_held3 (fun W=>((W.cell? ⟨w.heap.size,0,none⟩=some (.bool n1)∧W.cell? ⟨w.heap.size,1,none⟩=some (.slice A m c))∧W.cell? ⟨w.heap.size,2,none⟩=some (.bool n2)∧W.cell? ⟨w.heap.size,3,none⟩=some (.slice B m' d))∧(W.cell? ⟨w.heap.size+1,0,none⟩=some (.bool o1)∧W.cell? ⟨w.heap.size+1,1,none⟩=some (.slice C p e))∧W.cell? ⟨w.heap.size+1,2,none⟩=some (.bool o2)∧W.cell? ⟨w.heap.size+1,3,none⟩=some (.slice D p' f))
    (exact ⟨⟨⟨Loc.c 0 L1,Loc.c 1 L1⟩,Loc.c 2 L1,Loc.c 3 L1⟩,⟨Loc.c 0 L2,Loc.c 1 L2⟩,Loc.c 2 L2,Loc.c 3 L2⟩)
    (first
     | (go_at_call_of 350 (Value.agg #[Value.bool n1,Value.slice A m c]); refine (mul_any _ (fun _=>False) _ _ _ _ _ _ i1.to j2.to (Nat.le_trans HX.out.1 (by omega)) (Nat.le_trans HY.out.2 (by omega))).mono ?_; rintro e u1 ⟨w1,rfl,k1,hb1⟩; rw [sv_dig,sv_dig] at k1; obtain ⟨bw1,Aw1,mw1,kw1,rfl,k1⟩:=k1.op; have yu1:=hb1.size; (try simp only [zs] at yu1))
     | (go_at_call_of 350 (Value.agg #[Value.bool o1,Value.slice C p e]); refine (mul_any _ (fun _=>False) _ _ _ _ _ _ j1.to i2.to (Nat.le_trans HY.out.1 (by omega)) (Nat.le_trans HX.out.2 (by omega))).mono ?_; rintro e u2 ⟨w2,rfl,k2,hb2⟩; rw [sv_dig,sv_dig] at k2; obtain ⟨bw2,Aw2,mw2,kw2,rfl,k2⟩:=k2.op; have yu2:=hb2.size; (try simp only [zs] at yu2))
     | (go_at_call 386; refine (add_any _ (fun _=>False) _ _ _ _ _ _ k1.to k2.to (Nat.le_trans HA.out (by omega)) (Nat.le_trans HB.out (by omega))).mono ?_; rintro e u3 ⟨v6,rfl,k3,hb6⟩; rw [sv_dig,sv_dig] at k3; obtain ⟨b6,A6,m6,k6,rfl,k3⟩:=k3.op; have y6:=hb6.size; (try simp only [zs] at y6); (first
      | (have q:=(made1 w5 #[.bool false, .slice none 0 0] 211).all (w':=u3); have h7:=(made1 w5 #[.bool false, .slice none 0 0] 211).to (w':=u3); obtain ⟨e7,g7,l7⟩:=q)
      | (have q:=(made1 u1 #[.bool false, .slice none 0 0] 211).all (w':=u3); have h7:=(made1 u1 #[.bool false, .slice none 0 0] 211).to (w':=u3); obtain ⟨e7,g7,l7⟩:=q)
      | (have q:=(made1 u2 #[.bool false, .slice none 0 0] 211).all (w':=u3); have h7:=(made1 u2 #[.bool false, .slice none 0 0] 211).to (w':=u3); obtain ⟨e7,g7,l7⟩:=q)
      | skip)))
   all_goals
    go_wp2_with fail
    go_meet
    first
     | (have q:=Loc.fill2 (u:= .bool b6) (v:= .slice A6 m6 k6) h7; refine ⟨_,_,_,_,_,rfl,?_,q,IntV.out k3,bel⟩; omega)
     | (refine ⟨_,_,_,_,_,rfl,?_,made1 u3 _ _,IntV.out k3,bel⟩; omega)
  case rest=>
   obtain ⟨g,bg,E,r,s,rfl,hg,L5,i5,hB5⟩:=hcut
   have z1:=Loc.lt (Loc.to L1:Loc wc _ _ _)
   have z2:=Loc.lt (Loc.to L2:Loc wc _ _ _)
   have z3:=Loc.lt (Loc.to L3:Loc wc _ _ _)
   have z5:=Loc.lt L5
   have y5:=hB5.size; (try simp only [zs] at y5)
   have y0:=hB.size; (try simp only [zs] at y0)
   go_wp2_with fail
   go_region_held3 (fun W=>((W.cell? ⟨w.heap.size,2,none⟩=some (.bool n2)∧W.cell? ⟨w.heap.size,3,none⟩=some (.slice B m' d))∧(W.cell? ⟨w.heap.size+1,2,none⟩=some (.bool o2)∧W.cell? ⟨w.heap.size+1,3,none⟩=some (.slice D p' f)))∧W.cell? ⟨g,0,none⟩=some (.bool bg)∧W.cell? ⟨g,1,none⟩=some (.slice E r s))
    (exact ⟨⟨⟨Loc.c 2 L1,Loc.c 3 L1⟩,Loc.c 2 L2,Loc.c 3 L2⟩,Loc.c 0 L5,Loc.c 1 L5⟩)
    (first
     | (go_at_call_of 350 (Value.agg #[Value.bool n2,Value.slice B m' d]); refine (mul_any _ (fun _=>False) _ _ _ _ _ _ i2.to j2.to (Nat.le_trans HX.out.2 (by omega)) (Nat.le_trans HY.out.2 (by omega))).mono ?_; rintro e u1 ⟨w1,rfl,k1,hb1⟩; rw [sv_dig,sv_dig] at k1; obtain ⟨bw1,Aw1,mw1,kw1,rfl,k1⟩:=k1.op; have yu1:=hb1.size; (try simp only [zs] at yu1))
     | (go_at_call 348; refine (clean_rat _ (fun _=>False) _ (x+y) ⟨_,_,_,_,(ratR_of i5.to k1.to),Nat.le_trans HS.out (by omega),Nat.le_trans HD.out (by omega),by unfold rv; rw [sv_dig,sv_dig]; exact rat_add x y⟩).mono ?_; rintro e u2 ⟨v6,rfl,h6,hb6⟩; obtain ⟨b6,A6,m6,k6,b6',A6',m6',k6',rfl,h6, -, -⟩:=h6.op; have y6:=hb6.size; (try simp only [zs] at y6); obtain ⟨e5,g5, -⟩:=Loc.all L3 (w':=u2)))
   all_goals
    go_wp2_with fail
    refine bodyPost_ret (by simp [results,Tryz.results292,go_sem,e5,g5] <;> rfl) rfl ⟨_,rfl,h6.out,bel⟩

/- Divide of the reference. -/

/- rational.Sub; of the reference: isZero, zero, New, Clean, Of, Sign. -/

set_option maxHeartbeats 2000000 in
theorem sub_rat (w:World) (X:Nat→Prop) (v1 v2:Value) (x y:Rat) (h1:RatL 10000000 w X v1 x) (h2:RatL 10000000 w X v2 y) :
 Calls Tryz.prog 290 #[v1,v2] w fun e w'=>∃ v',e = .returned v'∧RatV w' (Old w) v' (x - y)∧Below w.heap.size w w':=by
 have HY:=Lib.hid ((h2.rsz (by omega)).neg)
 have HE:Hid (x + -y=x - y):=(Rat.sub_eq_add_neg x y).symm
 obtain ⟨n1,A,m,c,n2,B,m',d,rfl,h1, -⟩:=h1.op
 obtain ⟨o1,C,p,e,o2,D,p',f,rfl,h2, -⟩:=h2.op
 go_enter Tryz.func290,Tryz.ntmps290
 go_wp2_with fail
 have L1:=made1 w #[.bool n1, .slice A m c, .bool n2, .slice B m' d] 213
 have L2:=made2 w (.cells #[.bool n1, .slice A m c, .bool n2, .slice B m' d] 213) #[.bool o1, .slice C p e, .bool o2, .slice D p' f] 213
 have L3:=made3 w (.cells #[.bool n1, .slice A m c, .bool n2, .slice B m' d] 213) (.cells #[.bool o1, .slice C p e, .bool o2, .slice D p' f] 213) #[.bool false, .slice none 0 0, .bool false, .slice none 0 0] 213
 go_region_held3 (fun W=>((W.cell? ⟨w.heap.size,0,none⟩=some (.bool n1)∧W.cell? ⟨w.heap.size,1,none⟩=some (.slice A m c))∧W.cell? ⟨w.heap.size,2,none⟩=some (.bool n2)∧W.cell? ⟨w.heap.size,3,none⟩=some (.slice B m' d))∧(W.cell? ⟨w.heap.size+1,0,none⟩=some (.bool o1)∧W.cell? ⟨w.heap.size+1,1,none⟩=some (.slice C p e))∧W.cell? ⟨w.heap.size+1,2,none⟩=some (.bool o2)∧W.cell? ⟨w.heap.size+1,3,none⟩=some (.slice D p' f))
  (exact ⟨⟨⟨Loc.c 0 L1,Loc.c 1 L1⟩,Loc.c 2 L1,Loc.c 3 L1⟩,⟨Loc.c 0 L2,Loc.c 1 L2⟩,Loc.c 2 L2,Loc.c 3 L2⟩)
  (first
   | (go_at_call 383; refine (neg_rat _ (fun _=>False) _ y (h2.mono (by omega)).to).mono ?_; rintro e u1 ⟨v5,rfl,h5,hb5⟩; obtain ⟨b5,A5,m5,k5,b5',A5',m5',k5',rfl,h5, -, -⟩:=h5.op; have y5:=hb5.size; (try simp only [zs] at y5))
   | (go_at_call 292; refine (add_rat _ (fun _=>False) _ _ x (-y) h1.to (h5.len HY.out).to).mono ?_; rintro e u2 ⟨v6,rfl,h6,hb6⟩; rw [HE.out] at h6; obtain ⟨b6,A6,m6,k6,b6',A6',m6',k6',rfl,h6, -, -⟩:=h6.op; have y6:=hb6.size; (try simp only [zs] at y6); obtain ⟨e5,g5, -⟩:=Loc.all L3 (w':=u2)))
 all_goals
  go_wp2_with fail
  refine bodyPost_ret (by simp [results,Tryz.results290,go_sem,e5,g5] <;> rfl) rfl ⟨_,rfl,h6.out,bel⟩

theorem field_words (w:World) (b:Bool) (A:Option Addr) (n c:Nat):(Instr.field 211 (.agg #[.bool b, .slice A n c]) 1).run Tryz.prog w = .ok (.slice A n c) w:=by kernel_rfl
attribute [local go_sem] field_words
end Go.Proofs.YtbdcjhoedhhabaaGreat

/- whole, zero, negative, dot. -/
namespace Go.Proofs.YtbdcjhoedhhabaaGreat
open Go.RowKit
attribute [local go_sem ↓] Go.wp_at_zero Go.wp_at_succ

theorem divInt_int (z:Int):Rat.divInt z 1=(z:Rat):=by rw [Rat.divInt_eq_div]; have:((1:Int):Rat)=1:=rfl; grind

theorem rsz_int {z:Int} (h0 : -9223372036854775808≤z) (h1:z≤9223372036854775807):Rsz 2 (z:Rat):=by
 rw [←divInt_int]; exact divInt_Rsz (by omega) (dig_i64 z h0 h1) (dig_i64 1 (by decide) (by decide))

set_option maxHeartbeats 2000000 in
theorem whole_lin (w:World) (n:Int) (h0 : -9223372036854775808≤n) (h1:n≤9223372036854775807) :
 Calls Tryz.prog 381 #[.int .i64 n] w fun e w'=>∃ v',e = .returned v'∧RatV w' (Old w) v' (n:Rat)∧Below w.heap.size w w':=by
 have L:=made1 w #[.bool false, .slice none 0 0, .bool false, .slice none 0 0] 213
 go_enter Tryz.func381,Tryz.ntmps381
 go_wp2_with fail
 refine (ratof_any _ n 1 (by decide) h0 h1 (by decide) (by decide)).mono ?_
 rintro e w1 ⟨v1,rfl,i1,hb1⟩
 rw [divInt_int] at i1
 obtain ⟨b1,A1,m1,c1,b1',A1',m1',c1',rfl,i1, -, -⟩:=i1.op
 have z1:=sz1 hb1
 have M:=made1 w1 #[.bool b1, .slice A1 m1 c1, .bool b1', .slice A1' m1' c1'] 213
 obtain ⟨e4,g4, -⟩:=L.all (w':=w1.alloc (.cells #[.bool b1, .slice A1 m1 c1, .bool b1', .slice A1' m1' c1'] 213))
 obtain ⟨e6,g6,l6⟩:=L.all (w':=w1)
 obtain ⟨e5,g5, -⟩:=M.all (w':=w1.alloc (.cells #[.bool b1, .slice A1 m1 c1, .bool b1', .slice A1' m1' c1'] 213))
 have LF:=Loc.fill4 (u:= .bool b1) (v:= .slice A1 m1 c1) (x:= .bool b1') (y:= .slice A1' m1' c1') (L.to (w':=w1))
 obtain ⟨e8,g8, -⟩:=LF.all (w':=((((w1.setCell ⟨w.heap.size,0,none⟩ (.bool b1)).setCell ⟨w.heap.size,1,none⟩ (.slice A1 m1 c1)).setCell ⟨w.heap.size,2,none⟩ (.bool b1')).setCell ⟨w.heap.size,3,none⟩ (.slice A1' m1' c1')).alloc (.cells #[.bool b1, .slice A1 m1 c1, .bool b1', .slice A1' m1' c1'] 213))
 go_wp2_with fail
 refine bodyPost_ret (by simp [results,Tryz.results381,go_sem,e8,g8] <;> rfl) rfl ⟨_,rfl,RatV.out i1,bel⟩

set_option maxHeartbeats 2000000 in
theorem zero_lin (w:World) :
 Calls Tryz.prog 347 #[] w fun e w'=>∃ v',e = .returned v'∧RatV w' (Old w) v' 0∧Below w.heap.size w w':=by
 have L:=made1 w #[.bool false, .slice none 0 0, .bool false, .slice none 0 0] 213
 go_enter Tryz.func347,Tryz.ntmps347
 go_wp2_with fail
 refine (whole_lin _ 0 (by decide) (by decide)).mono ?_
 rintro e w1 ⟨v1,rfl,i1,hb1⟩
 rw [show ((0:Int):Rat)=0 from rfl] at i1
 obtain ⟨b1,A1,m1,c1,b1',A1',m1',c1',rfl,i1, -, -⟩:=i1.op
 have z1:=sz1 hb1
 obtain ⟨e4,g4, -⟩:=L.all (w':=w1)
 go_wp2_with fail
 refine bodyPost_ret (by simp [results,Tryz.results347,go_sem,e4,g4] <;> rfl) rfl ⟨_,rfl,RatV.out i1,bel⟩

theorem sign_neg_iff (q:Rat):q.num.sign<0↔q<0:=by
 have h:q.num.sign<0↔¬ 0≤q:=by
  rw [←Rat.num_nonneg]
  rcases Int.lt_trichotomy q.num 0 with h | h | h
  ·rw [Int.sign_eq_neg_one_of_neg h]; omega
  ·rw [h]; decide
  ·rw [Int.sign_eq_one_of_pos h]; omega
 rw [h,Rat.not_le]

set_option maxHeartbeats 2000000 in
theorem negative_any (w:World) (k:Nat) (v:Value) (q:Rat) (h:RatL k w (fun _=>False) v q) :
 Calls Tryz.prog 233 #[v] w fun e w'=>e = .returned (.bool (decide (q<0)))∧Below w.heap.size w w':=by
 have hq:=sign_neg_iff q
 obtain ⟨b,hb⟩:∃ b,decide (q<0)=b:=⟨_,rfl⟩
 rw [hb]
 obtain ⟨n1,A,m,c,n2,B,m',d,rfl,h, -⟩:=h.op
 have HB:Hid (decide (q.num.sign<0)=b):=by show _=_; rw [←hb]; exact decide_eq_decide.2 hq
 clear hq hb
 go_enter Tryz.func233,Tryz.ntmps233
 go_wp2_with fail
 refine (sign_rat _ (fun _=>False) k _ q h.to).mono ?_
 rintro e w1 ⟨rfl,hb1⟩
 have z1:=sz1 hb1
 have HB2:=HB.out
 generalize q.num.sign=s at *
 clear HB
 cases b
 ·have h2:¬ s<0:=of_decide_eq_false HB2
  go_wp2_with fail
  go_ret
  refine ⟨?_,bel⟩
  simp
 ·have h2:s<0:=of_decide_eq_true HB2
  go_wp2_with fail
  go_ret
  exact ⟨rfl,bel⟩

/- slices.ContainsFunc at the two predicates: a row of another length, a number below zero. -/

set_option maxHeartbeats 2000000 in
theorem valid1_any (w:World) (D:Option Addr) (l d g n:Nat) (hg:w.cell? ⟨g,0,none⟩=some (.int .i64 n)) :
 Calls Tryz.prog 107 #[.slice D l d, .pointer (some ⟨g,0,none⟩)] w fun e w'=>e = .returned (.bool (!decide (l=n)))∧Below w.heap.size w w':=by
 obtain ⟨b,hb⟩:∃ b,(!decide (l=n))=b:=⟨_,rfl⟩
 rw [hb]
 by_cases h:l=n
 ·obtain rfl:b=false:=by rw [←hb,decide_eq_true h]; rfl
  clear hb
  subst h
  go_enter Tryz.func107,Tryz.ntmps107
  go_wp2_with fail
  go_ret
  refine ⟨?_,bel⟩
  simp
 ·obtain rfl:b=true:=by rw [←hb,decide_eq_false h]; rfl
  clear hb
  have h2:((l:Int) == (n:Int))=false:=beq_eq_false_iff_ne.2 (by omega)
  have h3:((l:Int) != (n:Int))=true:=bne_iff_ne.2 (by omega)
  go_enter Tryz.func107,Tryz.ntmps107
  go_wp2_with fail
  go_ret
  refine ⟨?_,bel⟩
  simp [h,h2,h3]

set_option maxHeartbeats 4000000 in
theorem indexLen_any (w:World) (va:Value) (m k g n:Nat) (N:Nat→Nat) (F:Nat→Nat→Rat) (h:Mat k w (fun _=>False) va m N F) (hg:w.cell? ⟨g,0,none⟩=some (.int .i64 n)) (hm:m≤1000000) (hgl:g<w.heap.size) :
 Calls Tryz.prog 231 #[va, .func (Fn.func 107) #[] #[.pointer (some ⟨g,0,none⟩)]] w fun e w'=>∃ r:Int,e = .returned (.int .i64 r)∧((0≤r∧¬ ∀ i,i<m→N i=n)∨(r<0∧∀ i,i<m→N i=n))∧Below w.heap.size w w':=by
 obtain ⟨A,c1,rfl,h,l1,l2⟩:=h.op
 have H:=Lib.hid h
 clear h
 go_enter Tryz.func231,Tryz.ntmps231
 go_wp2_with fail
 go_loopw [8] (fun i wr=>∃ (c:Nat),c≤m∧i = .int .i64 c∧Hid (∀ i,i<c→N i=n)∧Below w.heap.size w wr) (fun i _=>m - (intOf i).toNat)
 case atStart=>exact ⟨0,by omega,rfl,Lib.hid (fun i hi=>absurd hi (by omega)),bel⟩
 case round=>
  obtain ⟨c,hc,rfl,hall,hB⟩:=hrel
  obtain ⟨wo,rfl⟩:∃ wo:World,wo=wr:=⟨_,rfl⟩
  have y5:=hB.size; (try simp only [zs] at y5)
  by_cases hlt:c<m
  ·obtain ⟨a,D,d,rfl,hab, -,hcell,hnum,l3,l4⟩:=Mat.at (Mat.keep H.out (.of_below hB)) hlt
   go_wp2_with fail
   refine (valid1_any _ D (N c) d g n (cell_keep (X:=fun _=>False) hg hgl id (.of_below hB))).mono ?_
   rintro e w2 ⟨he,hb2⟩
   have y2:=hb2.size; (try simp only [zs] at y2)
   rcases Classical.em ((fun i=>N i=n) c) with hgd | hgd
   ·have he2:e = .returned (.bool false):=by rw [he,decide_eq_true (show N c=n from hgd)]; rfl
    subst he2
    have HGD:=Lib.hid hgd
    clear hgd he
    go_wp2_with fail
    go_roundw
    case rel=>
     refine ⟨c+1,by omega,by go_num,Lib.hid (fun i hi=>?_),bel⟩
     by_cases hic:i<c
     ·exact hall.out i hic
     ·obtain rfl:i=c:=by omega
      exact HGD.out
    case measure=>simp only [intOf]; omega
   ·have he2:e = .returned (.bool true):=by rw [he,decide_eq_false (show ¬ N c=n from hgd)]; rfl
    subst he2
    have HGD:=Lib.hid hgd
    clear hgd he
    go_wp2_with fail
    go_ret
    exact ⟨_,rfl, .inl ⟨by omega,fun hh=>HGD.out (hh c hlt)⟩,bel⟩
  ·obtain rfl:c=m:=by omega
   go_wp2_with fail
   go_ret
   exact ⟨_,rfl, .inr ⟨by decide,hall.out⟩,hB⟩

set_option maxHeartbeats 4000000 in
theorem containsLen_any (w:World) (va:Value) (m k g n:Nat) (N:Nat→Nat) (F:Nat→Nat→Rat) (h:Mat k w (fun _=>False) va m N F) (hg:w.cell? ⟨g,0,none⟩=some (.int .i64 n)) (hm:m≤1000000) (hgl:g<w.heap.size) :
 Calls Tryz.prog 106 #[va, .func (Fn.func 107) #[] #[.pointer (some ⟨g,0,none⟩)]] w fun e w'=>∃ b:Bool,e = .returned (.bool b)∧(b=false↔∀ i,i<m→N i=n)∧Below w.heap.size w w':=by
 obtain ⟨A,c1,rfl,h,l1,l2⟩:=h.op
 have H:=Lib.hid h
 clear h
 go_enter Tryz.func106,Tryz.ntmps106
 go_wp2_with fail
 refine (indexLen_any _ _ m k g n N F H.out hg hm hgl).mono ?_
 rintro e w1 ⟨r,rfl,hr,hb1⟩
 have y1:=hb1.size; (try simp only [zs] at y1)
 have HR:=Lib.hid hr
 clear hr
 by_cases h0:0≤r
 ·go_wp2_with fail
  go_ret
  refine ⟨true,rfl,?_,bel⟩
  rcases HR.out with ⟨_,h⟩ | ⟨h,_⟩
  ·exact ⟨fun h'=>(by cases h'),fun h'=>absurd h' h⟩
  ·omega
 ·go_wp2_with fail
  go_ret
  refine ⟨false,?_,?_,bel⟩
  ·simp
   omega
  ·rcases HR.out with ⟨h,_⟩ | ⟨_,h⟩
   ·omega
   ·exact ⟨fun _=>h,fun _=>rfl⟩

/- Valid. -/

/-- The sizes of a system are right. -/
def VS (m mb:Nat) (N:Nat→Nat):Prop:=1≤m∧m≤80∧mb=m∧1≤N 0∧N 0≤80∧∀ i,i<m→N i=N 0

/-- The answer is a bool that tells whether P. -/
def Tells (P:Prop) (e:Ending):Prop:=∃ b:Bool,e = .returned (.bool b)∧Hid (b=true↔P)
theorem Tells.yes {P:Prop} (h:P):Tells P (.returned (.bool true)):=⟨true,rfl,fun _=>h,fun _=>rfl⟩
theorem Tells.no {P:Prop} (h:¬ P):Tells P (.returned (.bool false)):=⟨false,rfl,fun h=>(by cases h),fun h'=>absurd h' h⟩

set_option maxHeartbeats 4000000 in
theorem valid_any (w:World) (va vb:Value) (m mb k:Nat) (N:Nat→Nat) (F:Nat→Nat→Rat) (Bv:Nat→Rat) (h:Mat k w (fun _=>False) va m N F) (hb:Nums k w (fun _=>False) vb mb Bv) :
 Calls Tryz.prog 36 #[.agg #[va,vb]] w fun e w'=>Tells (VS m mb N) e∧Below w.heap.size w w':=by
 have H:=Lib.hid h
 obtain ⟨A,c1,rfl,h,l1,l2⟩:=h.op
 obtain ⟨B,c2,rfl,hb,l3,l4⟩:=hb.op
 by_cases h1:m<1
 ·have hv:Hid (¬ VS m mb N):=fun h=>by have:=h.1; omega
  clear h
  go_enter Tryz.func36,Tryz.ntmps36
  go_wp2_with fail
  go_ret
  exact ⟨Tells.no hv.out,bel⟩
 by_cases h2:80<m
 ·have hv:Hid (¬ VS m mb N):=fun h=>by have:=h.2.1; omega
  clear h
  go_enter Tryz.func36,Tryz.ntmps36
  go_wp2_with fail
  go_ret
  exact ⟨Tells.no hv.out,bel⟩
 by_cases h3:mb ≠ m
 ·have hv:Hid (¬ VS m mb N):=fun h=>by have:=h.2.2.1; omega
  have h4:((mb:Int) == (m:Int))=false:=beq_eq_false_iff_ne.2 (by omega)
  have h5:((mb:Int) != (m:Int))=true:=bne_iff_ne.2 (by omega)
  clear h
  go_enter Tryz.func36,Tryz.ntmps36
  go_wp2_with fail
  go_ret
  exact ⟨Tells.no hv.out,bel⟩
 obtain rfl:mb=m:=Classical.not_not.1 h3
 clear h3
 obtain ⟨a,D,d,rfl,hab, -,hcell,hnum,l5,l6⟩:=Mat.at h (show 0<mb by omega)
 have e0:a.add 0=a:=by simp [Addr.add]
 rw [e0] at hcell
 have hc2:(w.alloc (.cells #[.slice (some a) mb c1, .slice B mb c2] 73)).cell? a=_:=cell_keep (X:=fun _=>False) hcell hab id kp
 have q0:(0:Int)<(mb:Int):=by omega
 obtain ⟨n,hn⟩:∃ n,N 0=n:=⟨_,rfl⟩
 have HN:=Lib.hid hn
 rw [hn] at hcell hnum hc2 l5
 clear hn hnum h hb
 have hVS:Hid (VS mb mb N↔(1≤n∧n≤80∧∀ i,i<mb→N i=n)):=by
  show _↔_
  unfold VS
  rw [HN.out]
  constructor
  ·rintro ⟨_,_,_,h⟩; exact h
  ·intro h; exact ⟨by omega,by omega,rfl,h⟩
 by_cases h6:n<1
 ·have hv:Hid (¬ VS mb mb N):=fun h=>by have:=(hVS.out.1 h).1; omega
  go_enter Tryz.func36,Tryz.ntmps36
  go_wp2_with fail
  go_ret
  exact ⟨Tells.no hv.out,bel⟩
 by_cases h7:80<n
 ·have hv:Hid (¬ VS mb mb N):=fun h=>by have:=(hVS.out.1 h).2.1; omega
  go_enter Tryz.func36,Tryz.ntmps36
  go_wp2_with fail
  go_ret
  exact ⟨Tells.no hv.out,bel⟩
 go_enter Tryz.func36,Tryz.ntmps36
 go_wp2_with fail
 have hq:((w.alloc (.cells #[.slice (some a) mb c1, .slice B mb c2] 73)).alloc (.cells #[.int .i64 n] 3)).cell? ⟨w.heap.size+1,0,none⟩=some (.int .i64 n):=Loc.c 0 (made2 w (.cells #[.slice (some a) mb c1, .slice B mb c2] 73) #[.int .i64 n] 3)
 refine (containsLen_any _ _ mb k (w.heap.size+1) n N F (Mat.keep H.out kp) hq (by omega) (by simp only [World.size_alloc]; omega)).mono ?_
 rintro e w1 ⟨b,rfl,hbi,hb1⟩
 obtain ⟨z1,z2⟩:=sz2 hb1
 have HB:Hid (b=false↔∀ i,i<mb→N i=n):=hbi
 clear hbi
 cases b
 ·have HV:Hid (VS mb mb N):=hVS.out.2 ⟨by omega,by omega,HB.out.1 rfl⟩
  clear HB
  go_wp2_with fail
  go_ret
  exact ⟨Tells.yes HV.out,bel⟩
 ·have HV:Hid (¬ VS mb mb N):=fun h=>by have:=HB.out.2 (hVS.out.1 h).2.2; cases this
  clear HB
  go_wp2_with fail
  go_ret
  exact ⟨Tells.no HV.out,bel⟩
end Go.Proofs.YtbdcjhoedhhabaaGreat

/- Answers that tell, settled (as in Nl5, which serves layer 8). -/
namespace Go.Proofs.YtbdcjhoedhhabaaGreat
open Go.RowKit
theorem Tells.eq {P:Prop} {e:Ending} {b:Bool} (h:Tells P e) (hb:b=true↔P):e = .returned (.bool b):=by
 obtain ⟨c,rfl,hc⟩:=h
 have:c=b:=by
  have h1:=hc.out.trans hb.symm
  cases c <;> cases b <;> simp_all
 rw [this]
theorem tell (P:Prop):∃ b:Bool,Hid (b=true↔P):=by
 rcases Classical.em P with h | h
 ·exact ⟨true,fun _=>h,fun _=>rfl⟩
 ·exact ⟨false,fun h'=>(by cases h'),fun h'=>absurd h' h⟩
end Go.Proofs.YtbdcjhoedhhabaaGreat

/- Arguments opened: an api.Int, out of the form's reading. -/
namespace Go.Proofs.YtbdcjhoedhhabaaGreat
open Go.ChangeShapes Go.WideShapes Go.ChangeAt Go.RowKit Go.Joins
open Go.ChangeMaps (open_string shut_string)

theorem own:ownKnob Tryz.prog.godebug=none:=by kernel_rfl
theorem laidOut:laidOutB Tryz.prog=true:=by kernel_rfl
theorem cellsInt:Tryz.prog.cellsOf 211=2:=by kernel_rfl
theorem cellsU32:Tryz.prog.cellsOf 305=1:=by kernel_rfl

theorem open_Words {H:Type} {enc:TypeId×Value→H} {W:World} {base:Nat} {fuel:Nat} {v:Value} {x:DataW H×List MemPlace}
 (h:DataW.trod enc Tryz.prog W base (fun _=>true) true fuel 209 [v] = some x):∃ xs,Words W (fun _=>False) v xs:=by
 rcases open_ints Tryz.underlying209 Tryz.underlying305 cellsU32 h with ⟨hcs,_⟩ | ⟨a,len,cap,zs,hcs,_,hl,hm,hz,_,hcell,hwz⟩
 ·simp at hcs
  subst hcs
  exact ⟨[],Words.nil _ _⟩
 ·simp at hcs
  subst hcs
  have hz':zs.length=cap:=by simpa using hz
  have hw:∀ z∈zs,0≤z∧z<4294967296:=fun z hz=>by
   have h:=hwz z hz
   have:=bounds_u32 h
   omega
  have hlen:((zs.take len).map Int.toNat).length=len:=by simp; omega
  refine ⟨(zs.take len).map Int.toNat,⟨_,_,by rw [hlen],by rw [hlen]; exact hl,hm,by simp,fun hn=>⟨a,rfl,?_,id,fun j u hu=>?_⟩⟩,?_⟩
  ·rw [hlen] at hn
   have h0:=hcell 0 (by omega)
   rw [addr_zero] at h0
   exact World.block_lt_of_cell? W a h0
  ·have hj:j<len:=by have:=(List.getElem?_eq_some_iff.1 hu).1; simp at this; omega
   have hjz:j<zs.length:=by omega
   rw [hcell j hjz]
   have e:zs.getD j 0=zs[j]:=by simp [hjz]
   rw [nums_get (by rw [hlen]; exact hj)] at hu
   rw [←hu,e]
   simp only [List.getElem_map,List.getElem_take]
   have:=hw zs[j] (List.getElem_mem hjz)
   congr 2; omega
  ·intro x hx
   obtain ⟨z,hz1,rfl⟩:=List.mem_map.1 hx
   have:=hw z (List.mem_of_mem_take hz1)
   omega

/- Arguments opened: an api.Rat, an api.Frac, out of the form's reading. -/

theorem cellsRat:Tryz.prog.cellsOf 213=4:=by kernel_rfl
theorem cellsBool:Tryz.prog.cellsOf 4=1:=by kernel_rfl
theorem cellsWords:Tryz.prog.cellsOf 209=1:=by kernel_rfl

set_option maxRecDepth 100000 in
theorem open_IntC {H:Type} {enc:TypeId×Value→H} {W:World} {base fuel:Nat} {c0 c1:Value} {x:DataW H×List MemPlace}
 (h:DataW.trod enc Tryz.prog W base (fun _=>true) true fuel 211 [c0,c1] = some x):∃ b A c zs,IntR W (fun _=>False) (.agg #[c0,c1]) b zs∧c0 = .bool b∧c1 = .slice A zs.length c:=by
 obtain ⟨xs,n,_,_,_,hlen,hg⟩:=DataW.trod_struct Tryz.underlying211 h
 match xs,hlen with
 | [y0, y1], _ =>
   have g0:DataW.trod enc Tryz.prog W base (fun _=>true) true n 4 (([c0,c1].drop 0).take (Tryz.prog.cellsOf 4)) = [y0,y1][0]?:=hg 0 _ rfl
   have g1:DataW.trod enc Tryz.prog W base (fun _=>true) true n 209 (([c0,c1].drop 1).take (Tryz.prog.cellsOf 209)) = [y0,y1][1]?:=hg 1 _ rfl
   rw [cellsBool] at g0
   rw [cellsWords] at g1
   have h0:DataW.trod enc Tryz.prog W base (fun _=>true) true n 4 [c0] = some y0:=g0
   have h1:DataW.trod enc Tryz.prog W base (fun _=>true) true n 209 [c1] = some y1:=g1
   obtain ⟨b,e,_⟩:=DataW.trod_bool Tryz.underlying4 h0
   simp at e
   subst e
   obtain ⟨zs,hz⟩:=open_Words h1
   obtain ⟨A,c,rfl,_⟩:=hz.open_
   exact ⟨b,A,c,zs,⟨_,rfl,hz⟩,rfl,rfl⟩

end Go.Proofs.YtbdcjhoedhhabaaGreat

/- Arguments opened: a list of fractions. -/
namespace Go.Proofs.YtbdcjhoedhhabaaGreat
open Go.ChangeShapes Go.WideShapes Go.ChangeAt Go.RowKit Go.Joins

theorem list_of {α:Type} (P:Nat→α→Prop):∀ n,(∀ i,i<n→∃ e,P i e)→∃ l:List α,l.length=n∧∀ i e,l[i]? = some e→P i e
 | 0,_=>⟨[],rfl,fun i e h=>by simp at h⟩
 | n + 1, h => by
   obtain ⟨l,hl,hp⟩:=list_of P n (fun i hi=>h i (by omega))
   obtain ⟨e,he⟩:=h n (by omega)
   refine ⟨l ++ [e],by simp [hl],fun i x hx=>?_⟩
   by_cases hi:i<n
   ·rw [List.getElem?_append_left (by omega)] at hx
    exact hp i x hx
   ·have hlt:=(List.getElem?_eq_some_iff.1 hx).1
    simp at hlt
    obtain rfl:i=n:=by omega
    rw [List.getElem?_append_right (by omega),hl] at hx
    simp at hx
    subst hx
    exact he

/-- A raw fraction's fields: signs and words. -/
structure RF where
 n1:Bool
 xs:List Nat
 n2:Bool
 ys:List Nat
/-- The element at an address: its four cells, and the fraction. -/
def RatAt (w:World) (X:Nat→Prop) (a:Addr) (e:RF):Prop:=
 ∃ C c D d, w.cell? a = some (.bool e.n1) ∧ w.cell? (a.add 1) = some (.slice C e.xs.length c) ∧ w.cell? (a.add 2) = some (.bool e.n2) ∧ w.cell? (a.add 3) = some (.slice D e.ys.length d) ∧
   RatR w X (.agg #[.bool e.n1, .slice C e.xs.length c, .bool e.n2, .slice D e.ys.length d]) e.n1 e.xs e.n2 e.ys
/-- A list of raw fractions. -/
def Rats (w:World) (X:Nat→Prop) (v:Value) (l:List RF):Prop:=
 ∃ A cap,v = .slice A l.length cap∧l.length≤cap∧cap≤maxLen∧(l.length ≠ 0→∃ a,A=some a∧a.block<w.heap.size∧∀ i e,l[i]? = some e→RatAt w X (a.add (i*4)) e)

set_option maxRecDepth 100000 in
theorem open_RatC {H:Type} {enc:TypeId×Value→H} {W:World} {base fuel:Nat} {c0 c1 c2 c3:Value} {x:DataW H×List MemPlace}
 (h:DataW.trod enc Tryz.prog W base (fun _=>true) true fuel 213 [c0,c1,c2,c3] = some x) :
 ∃ (e:RF) (A:Option Addr) (c:Nat) (B:Option Addr) (d:Nat),c0 = .bool e.n1∧c1 = .slice A e.xs.length c∧c2 = .bool e.n2∧c3 = .slice B e.ys.length d∧RatR W (fun _=>False) (.agg #[c0,c1,c2,c3]) e.n1 e.xs e.n2 e.ys:=by
 obtain ⟨xs,n,_,_,_,hlen,hg⟩:=DataW.trod_struct Tryz.underlying213 h
 match xs,hlen with
 | [y0, y1], _ =>
   have g0:DataW.trod enc Tryz.prog W base (fun _=>true) true n 211 (([c0,c1,c2,c3].drop 0).take (Tryz.prog.cellsOf 211)) = [y0,y1][0]?:=hg 0 _ rfl
   have g1:DataW.trod enc Tryz.prog W base (fun _=>true) true n 211 (([c0,c1,c2,c3].drop 2).take (Tryz.prog.cellsOf 211)) = [y0,y1][1]?:=hg 1 _ rfl
   rw [cellsInt] at g0 g1
   have h0:DataW.trod enc Tryz.prog W base (fun _=>true) true n 211 [c0,c1] = some y0:=g0
   have h1:DataW.trod enc Tryz.prog W base (fun _=>true) true n 211 [c2,c3] = some y1:=g1
   obtain ⟨b,A,c,zs,i1,rfl,rfl⟩:=open_IntC h0
   obtain ⟨b',A',c',us,i2,rfl,rfl⟩:=open_IntC h1
   exact ⟨⟨b,zs,b',us⟩,A,c,A',c',rfl,rfl,rfl,rfl,A,c,A',c',rfl,i1,i2⟩

set_option maxRecDepth 100000 in
theorem open_Rats {H:Type} {enc:TypeId×Value→H} {W:World} {base:Nat} {fuel:Nat} {v:Value} {x:DataW H×List MemPlace}
 (h:DataW.trod enc Tryz.prog W base (fun _=>true) true fuel 71 [v] = some x):∃ l,Rats W (fun _=>False) v l:=by
 rcases DataW.trod_slice Tryz.underlying71 h with ⟨hcs,_⟩ | ⟨a,len,cap,elems,rest,n,_,hcs,_,hb,hl,hm,hlen,hel,_⟩
 ·simp at hcs
  subst hcs
  exact ⟨[],none,0,rfl,Nat.le_refl _,Nat.zero_le _,fun h=>absurd rfl h⟩
 ·simp at hcs
  subst hcs
  have key:∀ i,i<len→∃ e,RatAt W (fun _=>False) (a.add (i*4)) e∧a.block<W.heap.size:=fun i hi=>by
   have hq:=hel i hi
   rw [cellsRat,List.getElem?_eq_getElem (l:=elems) (i:=i) (by omega),Option.bind_eq_some_iff] at hq
   obtain ⟨cs,hcs,ht⟩:=hq
   obtain ⟨_,hn,hc⟩:=World.cells?_some hcs
   match cs,hn with
   | [c0, c1, c2, c3], _ =>
     obtain ⟨e,A,c,B,d,e0,e1,e2,e3,hr⟩:=open_RatC ht
     have hbl0:=World.cells?_block hcs (show 0<4 by decide)
     have hbl:a.block<W.heap.size:=by
      have e:(a.add (i*4)).block=a.block:=by unfold Addr.add; split <;> rfl
      rw [e] at hbl0; exact hbl0
     refine ⟨e,⟨A,c,B,d,?_,?_,?_,?_,?_⟩,hbl⟩
     ·rw [←e0]; exact hc 0 (by decide)
     ·rw [←e1]; exact hc 1 (by decide)
     ·rw [←e2]; exact hc 2 (by decide)
     ·rw [←e3]; exact hc 3 (by decide)
     ·rw [←e0,← e1,← e2,← e3]; exact hr
  obtain ⟨l,hl',hp⟩:=list_of _ len (fun i hi=>key i hi)
  subst hl'
  refine ⟨l,some a,cap,rfl,hl,hm,fun hz=>⟨a,rfl,?_,fun i e he=>(hp i e he).1⟩⟩
  obtain ⟨e,he⟩:=key 0 (by omega)
  exact he.2
end Go.Proofs.YtbdcjhoedhhabaaGreat

