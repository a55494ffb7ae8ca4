/- Contracts of the functions that the statements reach, part 48. -/
import Derived.Test.YtbdcjhoedhhabaaGreatRows
import Derived.Test.YtbdcjhoedhhabaaGreatF47
set_option linter.unusedSimpArgs false
set_option linter.unusedVariables false

/- Solve. -/
namespace Go.Proofs.YtbdcjhoedhhabaaGreat
open Go.RowKit
attribute [local go_sem ↓] Go.wp_at_zero Go.wp_at_succ

theorem Loc.fill3 {w:World} {g:Nat} {t:TypeId} {a b c u v x:Value} (L:Loc w g t #[a,b,c]):Loc (((w.setCell ⟨g,0,none⟩ u).setCell ⟨g,1,none⟩ v).setCell ⟨g,2,none⟩ x) g t #[u,v,x]:=by
 have:=((L.set 0 u).set 1 v).set 2 x
 simpa using this

/-- What Solve says. -/
def SolveSays (code:Int) (b:Bool) (m mb:Nat) (N:Nat→Nat) (F:Nat→Nat→Rat) (Bv:Nat→Rat) (nx:Nat) (f:Nat→Rat) (ny:Nat) (y:Nat→Rat):Prop:=
 (VS m mb N→code=0∧RS b m mb N F Bv nx f ny y)∧(¬ VS m mb N→code=1∧b=false∧nx=0∧ny=0)

set_option maxRecDepth 100000 in
set_option maxHeartbeats 8000000 in
theorem solve_any (w:World) (vs:Value) (m mb k K1 K2:Nat) (N:Nat→Nat) (F:Nat→Nat→Rat) (Bv:Nat→Rat) (hS:Sys k w vs m mb N F Bv) (hk1:1≤k) (hk:k≤1000) (hK1:2≤K1) (hK1':K1≤3000) (hK2:2≤K2) (hK2':K2≤9000)
 (hs:VS m mb N→Szk K1 K2 m (N 0) (t0 m (N 0) F Bv) (d1 m (N 0))) :
 Calls Tryz.prog 164 #[vs] w fun e w'=>∃ (b:Bool) (vX vY:Value) (nx ny:Nat) (f y:Nat→Rat) (code:Int),e = .returned (.tuple #[.agg #[.bool b,vX,vY], .int .i64 code])∧
  Hid (Nums K1 w' (fun _=>False) vX nx f∧Nums (K2+K2+10) w' (fun _=>False) vY ny y)∧Hid (SolveSays code b m mb N F Bv nx f ny y)∧Below w.heap.size w w':=by
 obtain ⟨A,cA,B,d,rfl,hA,hB⟩:=hS
 have HA:=Lib.hid hA
 have HB:=Lib.hid hB
 have HS:=Lib.hid hs
 have L1:=made1 w #[.slice A m cA, .slice B mb d] 73
 have L2:=made2 w (.cells #[.slice A m cA, .slice B mb d] 73) #[.bool false, .slice none 0 0, .slice none 0 0] 75
 clear hA hB hs
 go_enter Tryz.func164,Tryz.ntmps164
 go_wp2_with fail
 refine (valid_any _ _ _ m mb k N F Bv (HA.out.keep kp) (HB.out.keep kp)).mono ?_
 rintro e w1 ⟨⟨b,rfl,hb⟩,hb1⟩
 obtain ⟨z1,z2⟩:=sz2 hb1
 have LF:=Loc.fill3 (u:= .bool false) (v:= .slice none 0 0) (x:= .slice none 0 0) (L2.to (w':=w1))
 obtain ⟨e1,f1, -⟩:=L1.all (w':=w1)
 obtain ⟨e2,f2, -⟩:=L2.all (w':=w1)
 cases b
 ·have HV:Hid (¬ VS m mb N):=fun h=>by have:=hb.out.2 h; cases this
  obtain ⟨e8,g8, -⟩:=LF.all
  clear hb
  go_wp2_with fail
  refine bodyPost_ret (by simp [results,Tryz.results164,go_sem,e8,g8] <;> rfl) rfl ⟨false,_,_,0,0,fun _=>0,fun _=>0,1,rfl,⟨Nums.nil _ _ _ _,Nums.nil _ _ _ _⟩,⟨fun h=>absurd h HV.out,fun _=>⟨rfl,rfl,rfl,rfl⟩⟩,bel⟩
 have HV:Hid (VS m mb N):=hb.out.1 rfl
 clear hb LF
 obtain ⟨v1,v2,rfl,v4,v5,v6⟩:=HV.out
 obtain ⟨n,hnn⟩:∃ n,N 0=n:=⟨_,rfl⟩
 have HN:Hid (∀ i,i<mb→N i=n):=fun i hi=>by rw [←hnn]; exact v6 i hi
 have HN0:=Lib.hid hnn
 have HSZ:=HS.out HV.out
 rw [hnn] at HSZ v4 v5
 have HSK:=Lib.hid HSZ
 clear v6 hnn HSZ HS
 go_wp2_with fail
 refine (feasible_any _ mb n k N F Bv _ _ (HA.out.keep kp) (HB.out.keep kp) HN.out v1 v4 v2 v5 hk hk1 (HSK.out.szs hK1' hK2')).mono ?_
 rintro e w3 ⟨l,S,ok,rfl,HP,hb3⟩
 have z3:=hb3.size
 obtain ⟨e3,f3,l3⟩:=L2.all (w':=w3)
 clear e1 f1 e2 f2
 cases ok
 ·have HNE:Hid (rho mb (d1 mb n) S.T S.b (n+mb) ≠ 0):=fun h=>by have:=HP.out.ok.2 h; cases this
  clear e3 f3
  go_wp2_with fail
  refine (farkas_any _ l mb n K2 S _ (sgn Bv) (HP.out.tab.on kp) v2 v5 hK2 (by omega) (HSK.out.rho HP.out.good) (fun i _=>sgn_or Bv i)).mono ?_
  rintro e w4 ⟨v',rfl,hn4,hf4,hb4⟩
  have z4:=hb4.size
  obtain ⟨A4,c4,rfl,hn4, -, -⟩:=hn4.op
  have HN4:=Lib.hid hn4
  have HF4:=Lib.hid hf4
  have HFK:Hid (FK mb mb N F Bv mb (fun i=>((-(sgn Bv i):Int):Rat)*(1 - rho mb (d1 mb n) S.T S.b (n+i)))):=fk_of HV.out HN0.out HP.out.good HP.out.feas HP.out.opt HNE.out
  have LF:=Loc.fill3 (u:= .bool false) (v:= .slice none 0 0) (x:= .slice A4 mb c4) (L2.to (w':=w4))
  obtain ⟨e3,f3,l3⟩:=L2.all (w':=w4)
  obtain ⟨e8,g8, -⟩:=LF.all
  have hcs:∀ u∈(#[.bool false, .slice none 0 0, .slice none 0 0]:Array Value),noW u:=fun u hu=>by
   simp at hu
   rcases hu with rfl | rfl
   ·exact noW_bool _
   ·exact noW_slice _ _ _
  have HCS:=Lib.hid hcs
  clear hn4 hf4 hcs
  go_wp2_with fail
  refine bodyPost_ret (by simp [results,Tryz.results164,go_sem,e8,g8] <;> rfl) rfl ⟨false,_,_,0,mb,fun _=>0,_,0,rfl,⟨Nums.nil _ _ _ _,HN4.out.past (L2.to (w':=w4)) HCS.out HF4.out (by omega) kp⟩,⟨fun _=>⟨rfl, .inr ⟨rfl,rfl,HFK.out⟩⟩,fun h=>absurd HV.out h⟩,bel⟩
 ·have HZ:Hid (Zer mb n S):=p1_zero HP.out.good HP.out.feas (HP.out.ok.1 rfl)
  clear e3 f3
  go_wp2_with fail
  refine (point_any _ l mb n K1 (t0 mb n F Bv) S _ (sgn Bv) (HP.out.tab.on kp) HP.out.good v2 v5 hK1 (fun r hr=>(HSK.out S HP.out.good).1 r hr (n+mb) (Nat.le_refl _))).mono ?_
  rintro e w4 ⟨v',rfl,hn4,hf4,hb4⟩
  have z4:=hb4.size
  obtain ⟨A4,c4,rfl,hn4, -, -⟩:=hn4.op
  have HN4:=Lib.hid hn4
  have HF4:=Lib.hid hf4
  have HPT:Hid (PT mb mb N F Bv n (pt mb n S)):=pt_of HV.out HN0.out HP.out.good HP.out.feas HZ.out
  have LF:=Loc.fill3 (u:= .bool true) (v:= .slice A4 n c4) (x:= .slice none 0 0) (L2.to (w':=w4))
  obtain ⟨e3,f3,l3⟩:=L2.all (w':=w4)
  obtain ⟨e8,g8, -⟩:=LF.all
  have hcs:∀ u∈(#[.bool false, .slice none 0 0, .slice none 0 0]:Array Value),noW u:=fun u hu=>by
   simp at hu
   rcases hu with rfl | rfl
   ·exact noW_bool _
   ·exact noW_slice _ _ _
  have HCS:=Lib.hid hcs
  clear hn4 hf4 hcs
  go_wp2_with fail
  refine bodyPost_ret (by simp [results,Tryz.results164,go_sem,e8,g8] <;> rfl) rfl ⟨true,_,_,n,0,_,fun _=>0,0,rfl,⟨HN4.out.past (L2.to (w':=w4)) HCS.out HF4.out (by omega) kp,Nums.nil _ _ _ _⟩,⟨fun _=>⟨rfl, .inl ⟨rfl,rfl,HPT.out⟩⟩,fun h=>absurd HV.out h⟩,bel⟩
end Go.Proofs.YtbdcjhoedhhabaaGreat

/- The sizes of the tableaux of integer systems. -/
namespace Go.Proofs.YtbdcjhoedhhabaaGreat
section
variable {m n a k:Nat} {F:Nat→Nat→Rat} {Bv:Nat→Rat}
/-- An integer of at most a. -/
def IntLe (a:Nat) (q:Rat):Prop:=∃ z:Int,q=(z:Rat)∧z.natAbs≤a
theorem IntLe.turn {q:Rat} (l:Nat) (h:IntLe a q):IntLe a (((sgn Bv l:Int):Rat)*q):=by
 obtain ⟨z,rfl,hz⟩:=h
 refine ⟨sgn Bv l*z,by rw [Rat.intCast_mul],?_⟩
 rcases sgn_or Bv l with e | e
 ·rw [e]; simpa using hz
 ·rw [e]; simpa using hz
theorem t0_int (ha:1≤a) (hF:∀ i,i<m→∀ j,j<n→IntLe a (F i j)) (hB:∀ i,i<m→IntLe a (Bv i)) {l c:Nat} (hl:l<m) (hc:c≤n+m):IntLe a (t0 m n F Bv l c):=by
 by_cases h:c<n
 ·rw [t0_left h]; exact (hF l hl c h).turn l
 ·by_cases h2:c=n+m
  ·rw [h2,t0_right]; exact (hB l hl).turn l
  ·have e:c=n+(c - n):=by omega
   rw [e,t0_unit (by omega)]
   split
   ·exact ⟨1,rfl,ha⟩
   ·exact ⟨0,rfl,Nat.zero_le _⟩
theorem t0_wholeI (ha:1≤a) (hF:∀ i,i<m→∀ j,j<n→IntLe a (F i j)) (hB:∀ i,i<m→IntLe a (Bv i)):Whole m n a (t0 m n F Bv):=by
 refine ⟨fun _=>1,fun l c=>(t0 m n F Bv l c).num,fun l hl=>⟨Nat.one_pos,fun c hc=>?_⟩⟩
 obtain ⟨z,e,hz⟩:=t0_int ha hF hB hl hc
 dsimp only
 rw [e,Rat.num_intCast]
 refine ⟨hz,?_⟩
 rw [show ((1:Nat):Rat)=1 from rfl]; grind
theorem t0_sizeI (ha:1≤a) (hF:∀ i,i<m→∀ j,j<n→IntLe a (F i j)) (hB:∀ i,i<m→IntLe a (Bv i)) (hk1:1≤k) (hk:(2*((m+1)*a)) ^ m<4294967296 ^ k) {S:St} (G:Good m n (t0 m n F Bv) S.T S.b) :
 ∀ r,r<m→∀ c,c≤n+m→Rsz k (S.T r c):=G.size ha (t0_wholeI ha hF hB) hk hk1
/-- The sizes of an integer system's tableaux in the first phase. -/
theorem szkI {K1 K2:Nat} (ha:1≤a) (hF:∀ i,i<m→∀ j,j<n→IntLe a (F i j)) (hB:∀ i,i<m→IntLe a (Bv i)) (hK1:1≤K1) (hk:(2*((m+1)*a)) ^ m<4294967296 ^ K1) (hK2:2+(2+K1+1)*m+3≤K2) :
 Szk K1 K2 m n (t0 m n F Bv) (d1 m n):=fun S hG=>
 ⟨t0_sizeI ha hF hB hK1 hk hG,prc_size (t0_sizeI ha hF hB hK1 hk hG) hG.lt (fun c _=>rsz_d1 c) (by decide) hK2⟩
/-- The power that the sizes ask for, by bits. -/
theorem pow_bits {x e k:Nat} (h:x≤2 ^ e) (hm:e*m<32*k):x ^ m<4294967296 ^ k:=by
 refine Nat.lt_of_le_of_lt (Nat.pow_le_pow_left h m) ?_
 rw [←Nat.pow_mul,show (4294967296:Nat)=2 ^ 32 by decide,← Nat.pow_mul]
 exact Nat.pow_lt_pow_right (by decide) hm
end
end Go.Proofs.YtbdcjhoedhhabaaGreat

