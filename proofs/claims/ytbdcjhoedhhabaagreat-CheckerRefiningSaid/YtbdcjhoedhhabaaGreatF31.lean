/- Contracts of the functions that the statements reach, part 31. -/
import Derived.Test.YtbdcjhoedhhabaaGreatRows
import Derived.Test.YtbdcjhoedhhabaaGreatF25
import Derived.Test.YtbdcjhoedhhabaaGreatF26
import Derived.Test.YtbdcjhoedhhabaaGreatF27
import Derived.Test.YtbdcjhoedhhabaaGreatF30
set_option linter.unusedSimpArgs false
set_option linter.unusedVariables false

/- The tableau in memory. -/
namespace Go.Proofs.YtbdcjhoedhhabaaGreat
open Go.RowKit

/-- The blocks of a tableau: itself, signs, rows, cost, basis, and each row's. -/
structure Lay where
 p:Nat
 gs:Nat
 gr:Nat
 gc:Nat
 gb:Nat
 G:Nat→Nat
def Lay.X (l:Lay) (m:Nat):Nat→Prop:=fun b=>b=l.p∨b=l.gs∨b=l.gr∨b=l.gc∨b=l.gb∨∃ i,i<m∧b=l.G i
/-- No two are one. -/
structure Lay.Dis (l:Lay) (m:Nat):Prop where
 d1:l.p ≠ l.gs∧l.p ≠ l.gr∧l.p ≠ l.gc∧l.p ≠ l.gb
 d2:l.gs ≠ l.gr∧l.gs ≠ l.gc∧l.gs ≠ l.gb
 d3:l.gr ≠ l.gc∧l.gr ≠ l.gb∧l.gc ≠ l.gb
 d4:∀ i,i<m→l.G i ≠ l.p∧l.G i ≠ l.gs∧l.G i ≠ l.gr∧l.G i ≠ l.gc∧l.G i ≠ l.gb
 d5:∀ i,i<m→∀ k,k<m→i ≠ k→l.G i ≠ l.G k
/-- The parts of a tableau that a pivot does not write: itself, signs, rows' heads. -/
structure Fix (w:World) (l:Lay) (m n:Nat) (sg:Nat→Int):Prop where
 box:∃ cs cr cb,Loc w l.p 444 #[.int .i64 n, .slice (some ⟨l.gs,0,none⟩) m cs, .slice (some ⟨l.gr,0,none⟩) m cr, .slice (some ⟨l.gc,0,none⟩) (n+m+1) (n+m+1), .slice (some ⟨l.gb,0,none⟩) m cb]∧m≤cs∧m≤cr∧m≤cb
 sgn:∃ ss:Array Value,Loc w l.gs 3 ss∧∀ i,i<m→ss[i]? = some (.int .i64 (sg i))
 row:∃ rr:Array Value,Loc w l.gr 71 rr∧∀ i,i<m→rr[i]? = some (.slice (some ⟨l.G i,0,none⟩) (n+m+1) (n+m+1))
/-- A row of the tableau, the cost or another. -/
def Rw (w:World) (X:Nat→Prop) (g N:Nat) (f:Nat→Rat):Prop:=∃ rs,Line w g rs∧rs.length=N∧ValV w X rs f
/-- The cost: fractions that need not be canonical. -/
def Rc (w:World) (X:Nat→Prop) (g N:Nat) (f:Nat→Rat):Prop:=∃ rs,Line w g rs∧rs.length=N∧ValL 100000 w X rs f
/-- The basis. -/
def Bas (w:World) (g m:Nat) (b:Nat→Nat):Prop:=∃ bb:Array Value,Loc w g 3 bb∧∀ i,i<m→bb[i]? = some (.int .i64 (b i))
/-- The tableau. -/
structure Tab (w:World) (l:Lay) (m n:Nat) (S:St) (k:Nat→Rat) (sg:Nat→Int):Prop where
 fix:Fix w l m n sg
 rows:∀ i,i<m→Rw w (l.X m) (l.G i) (n+m+1) (S.T i)
 cost:Rc w (l.X m) l.gc (n+m+1) k
 bas:Bas w l.gb m S.b
 dis:l.Dis m

section
variable {w w':World} {l:Lay} {m n:Nat} {sg:Nat→Int} {X Y:Nat→Prop} {g N:Nat} {f f':Nat→Rat} {b:Nat→Nat}
theorem Fix.keep (h:Fix w l m n sg) (hk:Keep X w w') (h1:¬ X l.p) (h2:¬ X l.gs) (h3:¬ X l.gr):Fix w' l m n sg:=by
 obtain ⟨⟨cs,cr,cb,a,hc⟩,⟨ss,b,hs⟩,⟨rr,c,hr⟩⟩:=h
 exact ⟨⟨cs,cr,cb,a.keep hk h1,hc⟩,⟨ss,b.keep hk h2,hs⟩,⟨rr,c.keep hk h3,hr⟩⟩
theorem Rw.keep (h:Rw w X g N f) (hk:Keep X w w') (hY:Keep Y w w') (h1:¬ Y g):Rw w' X g N f:=by
 obtain ⟨rs,a,b,c⟩:=h
 exact ⟨rs,Loc.keep a hY h1,b,c.keep hk⟩
theorem Rw.congr (h:Rw w X g N f) (hf:∀ i,i<N→f' i=f i):Rw w X g N f':=by
 obtain ⟨rs,a,b,c⟩:=h
 exact ⟨rs,a,b,c.congr (by rw [b]; exact hf)⟩
theorem Rw.lt (h:Rw w X g N f):g<w.heap.size:=let ⟨_,a,_⟩:=h; a.lt
theorem Rc.keep (h:Rc w X g N f) (hk:Keep X w w') (hY:Keep Y w w') (h1:¬ Y g):Rc w' X g N f:=by
 obtain ⟨rs,a,b,c⟩:=h
 exact ⟨rs,Loc.keep a hY h1,b,c.keep hk⟩
theorem Rc.congr (h:Rc w X g N f) (hf:∀ i,i<N→f' i=f i):Rc w X g N f':=by
 obtain ⟨rs,a,b,c⟩:=h
 exact ⟨rs,a,b,fun i r hr=>by rw [hf i (by rw [←b]; exact (List.getElem?_eq_some_iff.1 hr).1)]; exact c i r hr⟩
theorem Rc.lt (h:Rc w X g N f):g<w.heap.size:=let ⟨_,a,_⟩:=h; a.lt
theorem Rc.at (h:Rc w X g N f) {c:Nat} (hc:c<N):∃ (b:Bool) (A:Option Addr) (p d:Nat) (b':Bool) (A':Option Addr) (p' d':Nat),w.cell? ⟨g,c*4,none⟩=some (.bool b)∧w.cell? ⟨g,c*4+1,none⟩=some (.slice A p d)∧w.cell? ⟨g,c*4+2,none⟩=some (.bool b')∧w.cell? ⟨g,c*4+3,none⟩=some (.slice A' p' d')∧
 RatL 100000 w X (.agg #[.bool b, .slice A p d, .bool b', .slice A' p' d']) (f c)∧∀ i,w.frozen? ⟨g,i,none⟩=false:=by
 obtain ⟨rs,a,hn,hv⟩:=h
 have hr:=List.getElem?_eq_getElem (l:=rs) (i:=c) (by omega)
 obtain ⟨c0,c1,c2,c3⟩:=a.cells hr
 exact ⟨_,_,_,_,_,_,_,_,c0,c1,c2,c3,hv c _ hr,a.frz⟩
theorem Bas.keep (h:Bas w g m b) (hk:Keep X w w') (h1:¬ X g):Bas w' g m b:=by
 obtain ⟨bb,a,c⟩:=h
 exact ⟨bb,a.keep hk h1,c⟩
/-- The cells of a row at one column. -/
theorem Rw.at (h:Rw w X g N f) {c:Nat} (hc:c<N):∃ (b:Bool) (A:Option Addr) (p d:Nat) (b':Bool) (A':Option Addr) (p' d':Nat),w.cell? ⟨g,c*4,none⟩=some (.bool b)∧w.cell? ⟨g,c*4+1,none⟩=some (.slice A p d)∧w.cell? ⟨g,c*4+2,none⟩=some (.bool b')∧w.cell? ⟨g,c*4+3,none⟩=some (.slice A' p' d')∧
 RatV w X (.agg #[.bool b, .slice A p d, .bool b', .slice A' p' d']) (f c)∧∀ i,w.frozen? ⟨g,i,none⟩=false:=by
 obtain ⟨rs,a,hn,hv⟩:=h
 have hr:=List.getElem?_eq_getElem (l:=rs) (i:=c) (by omega)
 obtain ⟨c0,c1,c2,c3⟩:=a.cells hr
 exact ⟨_,_,_,_,_,_,_,_,c0,c1,c2,c3,hv c _ hr,a.frz⟩
/-- A row with one column stored. -/
theorem Rw.put (hw:Rw w' X g N f) {c:Nat} (hc:c<N) (r:R4) (hr:RatV ((((w'.setCell ⟨g,c*4,none⟩ (.bool r.b)).setCell ⟨g,c*4+1,none⟩ (.slice r.A r.m r.c)).setCell ⟨g,c*4+2,none⟩ (.bool r.b')).setCell ⟨g,c*4+3,none⟩ (.slice r.A' r.m' r.c')) X r.v (f' c))
 (hf:∀ i,i ≠ c→f' i=f i) (hX:X g):Rw ((((w'.setCell ⟨g,c*4,none⟩ (.bool r.b)).setCell ⟨g,c*4+1,none⟩ (.slice r.A r.m r.c)).setCell ⟨g,c*4+2,none⟩ (.bool r.b')).setCell ⟨g,c*4+3,none⟩ (.slice r.A' r.m' r.c')) X g N f':=by
 obtain ⟨rs,a,hn,hv⟩:=hw
 refine ⟨rs.set c r,a.put (by omega) r,by simpa using hn,ValV.set (f:=f) (hv.keep ?_) hr hf⟩
 exact ((((Keep.refl X w').set (.inl hX) _).set (.inl hX) _).set (.inl hX) _).set (.inl hX) _
end
end Go.Proofs.YtbdcjhoedhhabaaGreat

/- reduce: a line less a multiple of a row. -/
namespace Go.Proofs.YtbdcjhoedhhabaaGreat
open Go.RowKit
attribute [local go_sem ↓] Go.wp_at_zero Go.wp_at_succ

theorem sign_zero_iff (q:Rat):q.num.sign=0↔q=0:=by rw [Int.sign_eq_zero_iff_zero,Rat.num_eq_zero]

set_option maxHeartbeats 8000000 in
theorem reduce_any (w:World) (X:Nat→Prop) (g h n j:Nat) (rs qs:List R4) (f q:Nat→Rat) (L1:Line w g rs) (L2:Line w h qs) (hn:rs.length=n) (hq:qs.length=n) (hg:g ≠ h) (hX:X g) (hXs:∀ b,X b→b<w.heap.size)
 (V1:ValV w X rs f) (V2:ValV w X qs q) (hj:j<n) (hn2:n≤200) (S1:∀ i,i<n→Rsz 10000 (f i)) (S2:∀ i,i<n→Rsz 10000 (q i)) :
 Calls Tryz.prog 497 #[.slice (some ⟨g,0,none⟩) n n, .slice (some ⟨h,0,none⟩) n n, .int .i64 j] w fun e w'=>e = .returned (.tuple #[])∧
  ∃ rs',Line w' g rs'∧rs'.length=n∧ValV w' X rs' (fun c=>f c - f j*q c)∧Keep (fun b=>b=g) w w':=by
 obtain ⟨r,hr⟩:∃ r,rs[j]? = some r:=⟨_,List.getElem?_eq_getElem (by omega)⟩
 obtain ⟨c0,c1,c2,c3⟩:=L1.cells hr
 have i1:=V1 j r hr
 obtain ⟨b1,A1,m1,k1,b1',A1',m1',k1'⟩:=r
 dsimp only at c0 c1 c2 c3
 unfold R4.v at i1
 dsimp only at i1
 have M:=made1 w #[.bool b1, .slice A1 m1 k1, .bool b1', .slice A1' m1' k1'] 213
 have hgl:=L1.lt
 have hhl:=L2.lt
 have HS1:=Lib.hid S1
 have HS2:=Lib.hid S2
 clear S1 S2
 go_enter Tryz.func497,Tryz.ntmps497
 go_wp2_with fail
 refine (sign_rat _ (fun _=>False) 10000 _ (f j) (RatL.to (i1.len (HS1.out j hj)))).mono ?_
 rintro e w1 ⟨rfl,hb1⟩
 have z1:=sz1 hb1
 have hzi:=sign_zero_iff (f j)
 generalize (f j).num.sign=sg at *
 by_cases hz:sg=0
 ·subst hz
  have hfj:=hzi.1 rfl
  clear hzi
  go_wp2_with fail
  refine bodyPost_ret (results_none rfl _ _ _) rfl ⟨rfl,rs,Loc.to L1,hn,?_,kp⟩
  exact (V1.keep (w':=w1) kp).congr (fun i hi=>by rw [hfj]; grind)
 ·clear hzi
  have hsb:(sg == 0)=false:=beq_eq_false_iff_ne.2 hz
  go_wp2_with fail
  go_loopw [17] (fun i wr=>∃ (c:Nat) (ps:List R4),c≤n∧i = .int .i64 c∧Line wr g ps∧ps.length=n∧ValV wr X ps (fun i=>if i<c then f i - f j*q i else f i)∧
   Loc wr w.heap.size 213 #[.bool b1, .slice A1 m1 k1, .bool b1', .slice A1' m1' k1']∧Keep (fun b=>b=g) w wr) (fun i _=>n - (intOf i).toNat)
  case atStart=>exact ⟨0,rs,by omega,rfl,Loc.to L1,hn,(V1.keep (w':=w1) kp).congr (fun i _=>if_neg (Nat.not_lt_zero i)),M.to,kp⟩
  case round=>
   obtain ⟨c,ps,hc,rfl,K1,hpn,hv,NM,hK⟩:=hrel
   obtain ⟨wo,rfl⟩:∃ wo:World,wo=wr:=⟨_,rfl⟩
   by_cases hlt:c<n
   ·obtain ⟨r,hr⟩:∃ r,ps[c]? = some r:=⟨_,List.getElem?_eq_getElem (by omega)⟩
    obtain ⟨t,ht⟩:∃ r,qs[c]? = some r:=⟨_,List.getElem?_eq_getElem (by omega)⟩
    have K2:Line wo h qs:=(Loc.keep L2 hK (fun e=>hg e.symm))
    obtain ⟨a0,a1,a2,a3⟩:=K1.cells hr
    obtain ⟨d0,d1,d2,d3⟩:=K2.cells ht
    obtain ⟨b2,A2,m2,k2,b2',A2',m2',k2'⟩:=r
    obtain ⟨b3,A3,m3,k3,b3',A3',m3',k3'⟩:=t
    dsimp only at a0 a1 a2 a3 d0 d1 d2 d3
    obtain ⟨e0,f0,l0⟩:=NM.all (w':=wo.drew)
    replace a0:wo.drew.cell? _=_:=a0
    replace a1:wo.drew.cell? _=_:=a1
    replace a2:wo.drew.cell? _=_:=a2
    replace a3:wo.drew.cell? _=_:=a3
    replace d0:wo.drew.cell? _=_:=d0
    replace d1:wo.drew.cell? _=_:=d1
    replace d2:wo.drew.cell? _=_:=d2
    replace d3:wo.drew.cell? _=_:=d3
    have hKX:Keep X w wo:=hK.weak (fun b _ h=>by rw [h]; exact hX)
    have j1:=i1.keep hKX
    have j2:RatV wo X _ (q c):=(V2 c _ ht).keep hKX
    have j3:RatV wo X _ _:=hv c _ hr
    unfold R4.v at j2 j3
    dsimp only at j2 j3
    rw [if_neg (Nat.lt_irrefl c)] at j3
    have HM:Hid (Rsz 20000 (f j*q c)):=(HS1.out j hj).mul (HS2.out c hlt)
    have hgl:=K1.lt
    have hl0:=NM.lt
    go_upto_block 1 with fail
    go_cut [] from 18 to 33 (fun W=>∃ ps',Line W g ps'∧ps'.length=n∧ValV W X ps' (fun i=>if i<c+1 then f i - f j*q i else f i)∧Keep (fun b=>b=g) wo W)
    case first=>
     go_wp2_with fail
     go_region_with (first
      | (go_at_call 293; refine (mul_rat _ (fun _=>False) _ _ (f j) (q c) (RatL.to ((j1.len (HS1.out j hj)).mono (by omega))) (RatL.to ((j2.len (HS2.out c hlt)).mono (by omega)))).mono ?_; rintro e u1 ⟨v5,rfl,i5,hb5⟩; obtain ⟨b5,A5,m5,c5,b5',A5',m5',c5',rfl,i5, -, -⟩:=i5.op; have y5:=hb5.size; (try simp only [zs] at y5); have K5:Line u1 g ps:=Loc.to K1; obtain ⟨g0,g1,g2,g3⟩:=K5.cells hr; dsimp only at g0 g1 g2 g3)
      | (go_at_call 290; refine (sub_rat _ (fun _=>False) _ _ (f c) (f j*q c) (RatL.to ((j3.len (HS1.out c hlt)).mono (by omega))) (RatL.to ((i5.len HM.out).mono (by omega)))).mono ?_; rintro e u2 ⟨v6,rfl,i6,hb6⟩; obtain ⟨b6,A6,m6,c6,b6',A6',m6',c6',rfl,i6, -, -⟩:=i6.op; have y6:=hb6.size; (try simp only [zs] at y6); have K6:Line u2 g ps:=Loc.to K1; obtain ⟨g0,g1,g2,g3⟩:=K6.cells hr; dsimp only at g0 g1 g2 g3; have f6:=K6.frz))
     all_goals
      go_wp2_with fail
      go_meet
      refine ⟨ps.set c ⟨b6,A6,m6,c6,b6',A6',m6',c6'⟩,K6.put (by omega) ⟨b6,A6,m6,c6,b6',A6',m6',c6'⟩,by simpa using hpn,?_,kp⟩
      refine ValV.set (f:=fun i=>if i<c then f i - f j*q i else f i) (hv.keep kp) ?_ (fun i hi=>?_)
      ·rw [if_pos (by omega)]
       exact (i6.keep (X:=Old u1) kp).weak (fun b hb hx=>by have:=hXs b hx; show b<u1.heap.size; omega)
      ·by_cases h1:i<c
       ·rw [if_pos h1,if_pos (by omega)]
       ·rw [if_neg h1,if_neg (by omega)]
    case rest=>
     obtain ⟨ps',K6,hpn',hv',hK'⟩:=hcut
     have hK2:=hK.trans hK'
     have NM':=NM.to (hK'.far (by intro e; have e:w.heap.size=g:=e; omega))
     obtain ⟨w6,rfl⟩:∃ w6:World,w6=wc:=⟨_,rfl⟩
     go_wp2_with fail
     go_roundw
     case rel=>exact ⟨c+1,ps',by omega,by go_num,K6,hpn',hv',NM',hK2⟩
     case measure=>simp only [intOf]; omega
   ·obtain rfl:c=n:=by omega
    go_wp2_with fail
    go_end0
    exact ⟨rfl,ps,K1,hpn,hv.congr (fun i hi=>by rw [if_pos (by omega)]),hK⟩

/- reduce at the cost: a line less a multiple of a row. -/

set_option maxHeartbeats 8000000 in
theorem reduce_rl (w:World) (X:Nat→Prop) (g h n j:Nat) (rs qs:List R4) (f q:Nat→Rat) (L1:Line w g rs) (L2:Line w h qs) (hn:rs.length=n) (hq:qs.length=n) (hg:g ≠ h) (hX:X g) (hXs:∀ b,X b→b<w.heap.size)
 (V1:ValL 100000 w X rs f) (V2:ValV w X qs q) (hj:j<n) (hn2:n≤200) (S1:∀ i,i<n→Rsz 10000 (f i)) (S2:∀ i,i<n→Rsz 10000 (q i)) :
 Calls Tryz.prog 497 #[.slice (some ⟨g,0,none⟩) n n, .slice (some ⟨h,0,none⟩) n n, .int .i64 j] w fun e w'=>e = .returned (.tuple #[])∧
  ∃ rs',Line w' g rs'∧rs'.length=n∧ValL 100000 w' X rs' (fun c=>f c - f j*q c)∧Keep (fun b=>b=g) w w':=by
 obtain ⟨r,hr⟩:∃ r,rs[j]? = some r:=⟨_,List.getElem?_eq_getElem (by omega)⟩
 obtain ⟨c0,c1,c2,c3⟩:=L1.cells hr
 have i1:=V1 j r hr
 obtain ⟨b1,A1,m1,k1,b1',A1',m1',k1'⟩:=r
 dsimp only at c0 c1 c2 c3
 unfold R4.v at i1
 dsimp only at i1
 have M:=made1 w #[.bool b1, .slice A1 m1 k1, .bool b1', .slice A1' m1' k1'] 213
 have hgl:=L1.lt
 have hhl:=L2.lt
 have HS1:=Lib.hid S1
 have HS2:=Lib.hid S2
 clear S1 S2
 go_enter Tryz.func497,Tryz.ntmps497
 go_wp2_with fail
 refine (sign_rat _ (fun _=>False) 100000 _ (f j) (RatL.to i1)).mono ?_
 rintro e w1 ⟨rfl,hb1⟩
 have z1:=sz1 hb1
 have hzi:=sign_zero_iff (f j)
 generalize (f j).num.sign=sg at *
 by_cases hz:sg=0
 ·subst hz
  have hfj:=hzi.1 rfl
  clear hzi
  go_wp2_with fail
  refine bodyPost_ret (results_none rfl _ _ _) rfl ⟨rfl,rs,Loc.to L1,hn,?_,kp⟩
  exact (V1.keep (w':=w1) kp).congr (fun i hi=>by rw [hfj]; grind)
 ·clear hzi
  have hsb:(sg == 0)=false:=beq_eq_false_iff_ne.2 hz
  go_wp2_with fail
  go_loopw [17] (fun i wr=>∃ (c:Nat) (ps:List R4),c≤n∧i = .int .i64 c∧Line wr g ps∧ps.length=n∧ValL 100000 wr X ps (fun i=>if i<c then f i - f j*q i else f i)∧
   Loc wr w.heap.size 213 #[.bool b1, .slice A1 m1 k1, .bool b1', .slice A1' m1' k1']∧Keep (fun b=>b=g) w wr) (fun i _=>n - (intOf i).toNat)
  case atStart=>exact ⟨0,rs,by omega,rfl,Loc.to L1,hn,(V1.keep (w':=w1) kp).congr (fun i _=>if_neg (Nat.not_lt_zero i)),M.to,kp⟩
  case round=>
   obtain ⟨c,ps,hc,rfl,K1,hpn,hv,NM,hK⟩:=hrel
   obtain ⟨wo,rfl⟩:∃ wo:World,wo=wr:=⟨_,rfl⟩
   by_cases hlt:c<n
   ·obtain ⟨r,hr⟩:∃ r,ps[c]? = some r:=⟨_,List.getElem?_eq_getElem (by omega)⟩
    obtain ⟨t,ht⟩:∃ r,qs[c]? = some r:=⟨_,List.getElem?_eq_getElem (by omega)⟩
    have K2:Line wo h qs:=(Loc.keep L2 hK (fun e=>hg e.symm))
    obtain ⟨a0,a1,a2,a3⟩:=K1.cells hr
    obtain ⟨d0,d1,d2,d3⟩:=K2.cells ht
    obtain ⟨b2,A2,m2,k2,b2',A2',m2',k2'⟩:=r
    obtain ⟨b3,A3,m3,k3,b3',A3',m3',k3'⟩:=t
    dsimp only at a0 a1 a2 a3 d0 d1 d2 d3
    obtain ⟨e0,f0,l0⟩:=NM.all (w':=wo.drew)
    replace a0:wo.drew.cell? _=_:=a0
    replace a1:wo.drew.cell? _=_:=a1
    replace a2:wo.drew.cell? _=_:=a2
    replace a3:wo.drew.cell? _=_:=a3
    replace d0:wo.drew.cell? _=_:=d0
    replace d1:wo.drew.cell? _=_:=d1
    replace d2:wo.drew.cell? _=_:=d2
    replace d3:wo.drew.cell? _=_:=d3
    have hKX:Keep X w wo:=hK.weak (fun b _ h=>by rw [h]; exact hX)
    have j1:=i1.keep hKX
    have j2:RatV wo X _ (q c):=(V2 c _ ht).keep hKX
    have j3:RatL 100000 wo X _ _:=hv c _ hr
    unfold R4.v at j2 j3
    dsimp only at j2 j3
    rw [if_neg (Nat.lt_irrefl c)] at j3
    have HM:Hid (Rsz 20000 (f j*q c)):=(HS1.out j hj).mul (HS2.out c hlt)
    have HSB:Hid (Rsz 30001 (f c - f j*q c)):=by
     show Rsz _ _
     have h:=(HS1.out c hlt).add HM.out.neg
     have e:f c + -(f j*q c)=f c - f j*q c:=by grind
     rw [e] at h
     exact h.mono (by omega)
    have hgl:=K1.lt
    have hl0:=NM.lt
    go_upto_block 1 with fail
    go_cut [] from 18 to 33 (fun W=>∃ ps',Line W g ps'∧ps'.length=n∧ValL 100000 W X ps' (fun i=>if i<c+1 then f i - f j*q i else f i)∧Keep (fun b=>b=g) wo W)
    case first=>
     go_wp2_with fail
     go_region_with (first
      | (go_at_call 293; refine (mul_rat _ (fun _=>False) _ _ (f j) (q c) (RatL.to (j1.mono (by omega))) (RatL.to ((j2.len (HS2.out c hlt)).mono (by omega)))).mono ?_; rintro e u1 ⟨v5,rfl,i5,hb5⟩; obtain ⟨b5,A5,m5,c5,b5',A5',m5',c5',rfl,i5, -, -⟩:=i5.op; have y5:=hb5.size; (try simp only [zs] at y5); have K5:Line u1 g ps:=Loc.to K1; obtain ⟨g0,g1,g2,g3⟩:=K5.cells hr; dsimp only at g0 g1 g2 g3)
      | (go_at_call 290; refine (sub_rat _ (fun _=>False) _ _ (f c) (f j*q c) (RatL.to (j3.mono (by omega))) (RatL.to ((i5.len HM.out).mono (by omega)))).mono ?_; rintro e u2 ⟨v6,rfl,i6,hb6⟩; obtain ⟨b6,A6,m6,c6,b6',A6',m6',c6',rfl,i6, -, -⟩:=i6.op; have y6:=hb6.size; (try simp only [zs] at y6); have K6:Line u2 g ps:=Loc.to K1; obtain ⟨g0,g1,g2,g3⟩:=K6.cells hr; dsimp only at g0 g1 g2 g3; have f6:=K6.frz))
     all_goals
      go_wp2_with fail
      go_meet
      refine ⟨ps.set c ⟨b6,A6,m6,c6,b6',A6',m6',c6'⟩,K6.put (by omega) ⟨b6,A6,m6,c6,b6',A6',m6',c6'⟩,by simpa using hpn,?_,kp⟩
      refine ValL.set (f:=fun i=>if i<c then f i - f j*q i else f i) (hv.keep kp) ?_ (fun i hi _=>?_)
      ·rw [if_pos (by omega)]
       exact (RatV.len ((i6.keep (X:=Old u1) kp).weak (fun b hb hx=>by have:=hXs b hx; show b<u1.heap.size; omega)) HSB.out).mono (by omega)
      ·by_cases h1:i<c
       ·rw [if_pos h1,if_pos (by omega)]
       ·rw [if_neg h1,if_neg (by omega)]
    case rest=>
     obtain ⟨ps',K6,hpn',hv',hK'⟩:=hcut
     have hK2:=hK.trans hK'
     have NM':=NM.to (hK'.far (by intro e; have e:w.heap.size=g:=e; omega))
     obtain ⟨w6,rfl⟩:∃ w6:World,w6=wc:=⟨_,rfl⟩
     go_wp2_with fail
     go_roundw
     case rel=>exact ⟨c+1,ps',by omega,by go_num,K6,hpn',hv',NM',hK2⟩
     case measure=>simp only [intOf]; omega
   ·obtain rfl:c=n:=by omega
    go_wp2_with fail
    go_end0
    exact ⟨rfl,ps,K1,hpn,hv.congr (fun i hi=>by rw [if_pos (by omega)]),hK⟩

/- pivot. -/

theorem Tab.xlt {w:World} {l:Lay} {m n:Nat} {S:St} {k:Nat→Rat} {sg:Nat→Int} (h:Tab w l m n S k sg):∀ b,l.X m b→b<w.heap.size:=by
 obtain ⟨cs,cr,cb,h1, -⟩:=h.fix.box
 obtain ⟨ss,h2, -⟩:=h.fix.sgn
 obtain ⟨rr,h3, -⟩:=h.fix.row
 obtain ⟨bb,h4, -⟩:=h.bas
 rintro b (rfl | rfl | rfl | rfl | rfl | ⟨i,hi,rfl⟩)
 ·exact h1.lt
 ·exact h2.lt
 ·exact h3.lt
 ·exact h.cost.lt
 ·exact h4.lt
 ·exact (h.rows i hi).lt

theorem reduce_rw (w:World) (X:Nat→Prop) (g h n j:Nat) (f q:Nat→Rat) (R1:Rw w X g n f) (R2:Rw w X h n q) (hg:g ≠ h) (hX:X g) (hXs:∀ b,X b→b<w.heap.size) (hj:j<n) (hn2:n≤200) (S1:∀ i,i<n→Rsz 10000 (f i)) (S2:∀ i,i<n→Rsz 10000 (q i)) :
 Calls Tryz.prog 497 #[.slice (some ⟨g,0,none⟩) n n, .slice (some ⟨h,0,none⟩) n n, .int .i64 j] w fun e w'=>e = .returned (.tuple #[])∧Rw w' X g n (fun c=>f c - f j*q c)∧Keep (fun b=>b=g) w w':=by
 obtain ⟨rs,a1,a2,a3⟩:=R1
 obtain ⟨qs,b1,b2,b3⟩:=R2
 refine (reduce_any w X g h n j rs qs f q a1 b1 a2 b2 hg hX hXs a3 b3 hj hn2 S1 S2).mono ?_
 rintro e w' ⟨he,rs',c1,c2,c3,c4⟩
 exact ⟨he,⟨rs',c1,c2,c3⟩,c4⟩

theorem reduce_rc (w:World) (X:Nat→Prop) (g h n j:Nat) (f q:Nat→Rat) (R1:Rc w X g n f) (R2:Rw w X h n q) (hg:g ≠ h) (hX:X g) (hXs:∀ b,X b→b<w.heap.size) (hj:j<n) (hn2:n≤200) (S1:∀ i,i<n→Rsz 10000 (f i)) (S2:∀ i,i<n→Rsz 10000 (q i)) :
 Calls Tryz.prog 497 #[.slice (some ⟨g,0,none⟩) n n, .slice (some ⟨h,0,none⟩) n n, .int .i64 j] w fun e w'=>e = .returned (.tuple #[])∧Rc w' X g n (fun c=>f c - f j*q c)∧Keep (fun b=>b=g) w w':=by
 obtain ⟨rs,a1,a2,a3⟩:=R1
 obtain ⟨qs,b1,b2,b3⟩:=R2
 refine (reduce_rl w X g h n j rs qs f q a1 b1 a2 b2 hg hX hXs a3 b3 hj hn2 S1 S2).mono ?_
 rintro e w' ⟨he,rs',c1,c2,c3,c4⟩
 exact ⟨he,⟨rs',c1,c2,c3⟩,c4⟩

set_option maxRecDepth 100000 in
set_option maxHeartbeats 16000000 in
theorem pivot_any (w:World) (l:Lay) (m n i j:Nat) (S:St) (k:Nat→Rat) (sg:Nat→Int) (hT:Tab w l m n S k sg) (hi:i<m) (hj:j<n+m) (hp:S.T i j ≠ 0) (hm:m≤80) (hn:n≤80)
 (hs:∀ r,r<m→∀ c,c≤n+m→Rsz 3000 (S.T r c)) (hk:∀ c,c≤n+m→Rsz 9000 (k c)) :
 Calls Tryz.prog 447 #[.pointer (some ⟨l.p,0,none⟩), .int .i64 i, .int .i64 j] w fun e w'=>e = .returned (.tuple #[])∧
  Tab w' l m n (S.at i j) (fun c=>k c - k j*(S.T i c / S.T i j)) sg∧Keep (l.X m) w w':=by
 have HT:=Lib.hid hT
 have hxl:=Lib.hid hT.xlt
 obtain ⟨⟨⟨cs,cr,cb,hbox,hcs,hcr,hcb⟩,⟨ss,hsgn,hss⟩,⟨rr,hrow,hrr⟩⟩,hrows,hcost,⟨bb,hbas,hbb⟩,hd⟩:=hT
 have HR:=Lib.hid hrows
 have HRR:=Lib.hid hrr
 have HBB:=Lib.hid hbb
 have HS:=Lib.hid hs
 have HK:=Lib.hid hk
 have HD:=Lib.hid hd
 have HP:=Lib.hid hp
 have XG:Hid (∀ r,r<m→l.X m (l.G r)):=fun r hr=> .inr (.inr (.inr (.inr (.inr ⟨r,hr,rfl⟩))))
 obtain ⟨b1,A1,m1,c1,b1',A1',m1',c1',x0,x1,x2,x3,r1, -⟩:=(hrows i hi).at (show j<n+m+1 by omega)
 obtain ⟨N,hN⟩:∃ N,n+m+1=N:=⟨_,rfl⟩
 have HN:=Lib.hid hN
 have i0:(0:Int)≤(i:Int):=by omega
 have i1:(i:Int)<(m:Int):=by omega
 have i2:(i:Int)<(N:Int):=by omega
 have j0:(0:Int)≤(j:Int):=by omega
 have j1:(j:Int)<(N:Int):=by omega
 have hmr:(m:Int)≤(cr:Int):=by omega
 rw [hN] at hbox hrows hcost
 have hri:w.cell? ⟨l.gr,i,none⟩=some (.slice (some ⟨l.G i,0,none⟩) N N):=by rw [Loc.cell hrow,hrr i hi,hN]
 have e1:=Loc.cell hbox
 have L:=made1 w #[.bool b1, .slice A1 m1 c1, .bool b1', .slice A1' m1' c1'] 213
 have g1:=hbox.lt
 have g2:=hrow.lt
 have g3:=hbas.lt
 have g4:=hcost.lt
 have g5:=(hrows i hi).lt
 obtain ⟨d1,d2,d3,d4,d5⟩:=hd
 obtain ⟨d6,d7,d8,d9,d10⟩:=d4 i hi
 have HSS:=Lib.hid hss
 clear hs hk hp hbb hss d4 d5
 go_enter Tryz.func447,Tryz.ntmps447
 go_wp2_with fail
 go_loopw [27] (fun q wr=>∃ (c:Nat),c≤N∧q = .int .i64 c∧Rw wr (l.X m) (l.G i) N (fun x=>if x<c then S.T i x / S.T i j else S.T i x)∧Loc wr w.heap.size 213 #[.bool b1, .slice A1 m1 c1, .bool b1', .slice A1' m1' c1']∧Keep (fun b=>b=l.G i) w wr) (fun q _=>N - (intOf q).toNat)
 case atStart=>exact ⟨0,by omega,rfl,((hrows i hi).keep (w':=w.alloc (.cells #[.bool b1, .slice A1 m1 c1, .bool b1', .slice A1' m1' c1'] 213)) (Y:=fun _=>False) kp kp id).congr (fun x _=>if_neg (Nat.not_lt_zero x)),L,kp⟩
 case round=>
  obtain ⟨c,hc,rfl,hRw,NL,hK⟩:=hrel
  obtain ⟨wo,rfl⟩:∃ wo:World,wo=wr:=⟨_,rfl⟩
  have hbo:Loc wo _ _ _:=Loc.keep hbox hK (fun e=>d6 e.symm)
  have hro:Loc wo _ _ _:=Loc.keep hrow hK (fun e=>d8 e.symm)
  have hrio:wo.cell? ⟨l.gr,i,none⟩=some (.slice (some ⟨l.G i,0,none⟩) N N):=by rw [Loc.cell hro,HRR.out i hi,HN.out]
  have q1:=NL.lt
  have q2:=hbo.lt
  have q3:=hro.lt
  have q4:=hRw.lt
  by_cases hlt:c<N
  ·obtain ⟨b2,A2,m2,c2,b2',A2',m2',c2',y0,y1,y2,y3,r2, -⟩:=hRw.at hlt
   rw [if_neg (Nat.lt_irrefl c)] at r2
   replace y0:wo.drew.cell? _=_:=y0
   replace y1:wo.drew.cell? _=_:=y1
   replace y2:wo.drew.cell? _=_:=y2
   replace y3:wo.drew.cell? _=_:=y3
   have k1:(c:Int)<(N:Int):=by omega
   have hKX:Keep (l.X m) w wo:=hK.weak (fun b _ h=>by rw [h]; exact XG.out i hi)
   have r1o:=r1.keep hKX
   have HRI:Hid (rr[i]? = some (.slice (some ⟨l.G i,0,none⟩) N N)):=by show _=_; rw [HRR.out i hi,HN.out]
   have hcN:c≤n+m:=by omega
   go_wp2_with fail
   refine wp_region_noPanic ?_
   refine wp_region_held_drew (S:=(fun W=>((W.cell? ⟨l.p,2,none⟩=some (.slice (some ⟨l.gr,0,none⟩) m cr))∧W.cell? ⟨l.gr,i,none⟩=some (.slice (some ⟨l.G i,0,none⟩) N N))∧((W.cell? ⟨w.heap.size,0,none⟩=some (.bool b1)∧W.cell? ⟨w.heap.size,1,none⟩=some (.slice A1 m1 c1))∧W.cell? ⟨w.heap.size,2,none⟩=some (.bool b1')∧W.cell? ⟨w.heap.size,3,none⟩=some (.slice A1' m1' c1')))) (by kernel_rfl) ?_ (fun hHeld=>?_)
   ·exact ⟨⟨Loc.c 2 hbo,(Loc.c i hro).trans HRI.out⟩,⟨⟨Loc.c 0 NL,Loc.c 1 NL⟩,Loc.c 2 NL,Loc.c 3 NL⟩⟩
   refine tk 0 ?_
   (try simp only [Act.put,ly])
   refine tk 1 ?_
   (try simp only [Act.put,ly])
   refine tk 2 ?_
   (try simp only [Act.put,ly])
   refine tk 3 ?_
   (try simp only [Act.put,ly])
   refine tk 4 ?_
   (try simp only [Act.put,ly])
   refine tk 5 ?_
   (try simp only [Act.put,ly])
   refine tk 6 ?_
   (try simp only [Act.put,ly])
   refine tk 7 ?_
   (try simp only [Act.put,ly])
   refine tk 8 ?_
   (try simp only [Act.put,ly])
   refine tk 9 ?_
   (try simp only [Act.put,ly])
   refine tk 10 ?_
   (try simp only [Act.put,ly])
   refine tk 11 ?_
   (try simp only [Act.put,ly])
   refine tk 12 ?_
   (try simp only [Act.put,ly])
   refine tk 13 ?_
   (try simp only [Act.put,ly])
   refine tk 14 ?_
   (try simp only [Act.put,ly])
   refine tk 15 ?_
   (try simp only [Act.put,ly])
   refine tk 16 ?_
   (try simp only [Act.put,ly])
   refine tk 18 ?_
   (try simp only [Act.put,ly])
   refine wpAnyH_ready (rs:=[17]) (by kernel_rfl) (by simp) ?_
   refine AllReadyH.cons rfl (fun K hK=>?_) AllReadyH.nil
   go_simp
   (try go_wp2_with fail)
   refine hK.out _ _ ?_ (fun hHeld=>?_)
   ·(try dsimp only)
    exact ⟨⟨Loc.c 2 hbo,(Loc.c i hro).trans HRI.out⟩,⟨⟨Loc.c 0 NL,Loc.c 1 NL⟩,Loc.c 2 NL,Loc.c 3 NL⟩⟩
   clear hK K
   (try simp only [Act.put,ly])
   refine wpAnyH_ready (rs:=[19]) (by kernel_rfl) (by simp) ?_
   refine AllReadyH.cons rfl (fun K hK=>?_) AllReadyH.nil
   go_simp
   refine (ratdivide_any _ (fun _=>False) _ _ (S.T i c) (S.T i j) (RatL.to ((r2.len (HS.out i hi c hcN)).mono (by omega))) (RatL.to ((r1o.len (HS.out i hi j (by omega))).mono (by omega))) HP.out).mono ?_
   rintro e u1 ⟨v5,rfl,i5,hb5⟩
   obtain ⟨b5,A5,m5,c5,b5',A5',m5',c5',rfl,i5, -, -⟩:=i5.op
   have y5:=hb5.size; (try simp only [zs] at y5)
   have K5:Rw u1 (l.X m) (l.G i) N _:=hRw.keep kp (Y:=fun _=>False) kp id
   obtain ⟨b6,A6,m6,c6,b6',A6',m6',c6',w0,w1',w2',w3', -,fr5⟩:=K5.at hlt
   (try go_wp2_with fail)
   refine hK.out _ _ ?_ (fun hHeld=>?_)
   ·(try dsimp only)
    exact ⟨⟨Loc.c 2 hbo,(Loc.c i hro).trans HRI.out⟩,⟨⟨Loc.c 0 NL,Loc.c 1 NL⟩,Loc.c 2 NL,Loc.c 3 NL⟩⟩
   clear hK K
   (try simp only [Act.put,ly])
   refine tk 20 ?_
   (try simp only [Act.put,ly])
   refine tk 21 ?_
   (try simp only [Act.put,ly])
   refine tk 22 ?_
   (try simp only [Act.put,ly])
   refine tk 23 ?_
   (try simp only [Act.put,ly])
   refine wpAnyH_ready (rs:=[24]) (by kernel_rfl) (by simp) ?_
   refine AllReadyH.cons rfl (fun K hK=>?_) AllReadyH.nil
   go_simp
   (try go_wp2_with fail)
   refine hK.out _ _ ?_ (fun hHeld=>?_)
   ·(try dsimp only)
    exact ⟨⟨Loc.c 2 hbo,(Loc.c i hro).trans HRI.out⟩,⟨⟨Loc.c 0 NL,Loc.c 1 NL⟩,Loc.c 2 NL,Loc.c 3 NL⟩⟩
   clear hK K
   (try simp only [Act.put,ly])
   refine wpAnyH_done (by kernel_rfl) ?_ _
   refine NoPanic.normal ?_
   go_wp2_with fail
   go_roundw
   case rel=>
    refine ⟨c+1,by omega,by go_num,Rw.put K5 hlt ⟨b5,A5,m5,c5,b5',A5',m5',c5'⟩ ?_ ?_ (XG.out i hi),Loc.to NL,hK.trans kp⟩
    ·rw [if_pos (by omega)]
     refine (i5.keep (X:=Old wo) kp).weak (fun b _ hb=>?_)
     have:=hxl.out b hb
     have:=hK.size
     show b<wo.heap.size
     omega
    ·intro x hx
     by_cases h1:x<c
     ·rw [if_pos h1,if_pos (by omega)]
     ·rw [if_neg h1,if_neg (by omega)]
   case measure=>simp only [intOf]; omega
  ·obtain rfl:c=N:=by omega
   have hKX:Keep (l.X m) w wo:=hK.weak (fun b _ h=>by rw [h]; exact XG.out i hi)
   obtain ⟨T1,hT1⟩:∃ T1:Nat→Rat,T1=fun x=>S.T i x / S.T i j:=⟨_,rfl⟩
   have R1:Rw wo (l.X m) (l.G i) c T1:=hRw.congr (fun x hx=>by rw [hT1,if_pos hx])
   have HT1:=Lib.hid hT1
   have HS1:Hid (∀ x,x<c→Rsz 10000 (T1 x)):=fun x hx=>by
    rw [hT1]
    exact ((HS.out i hi x (by omega)).div (HS.out i hi j (by omega))).mono (by omega)
   have HRI:Hid (rr[i]? = some (.slice (some ⟨l.G i,0,none⟩) c c)):=by show _=_; rw [HRR.out i hi,HN.out]
   clear hT1 hRw hcost hrows
   have e3:=Loc.cell hbo
   go_wp2_with fail
   go_loopw [60] (fun q wr=>∃ (d:Nat),d≤m∧q = .int .i64 d∧Hid (∀ r,r<m→Rw wr (l.X m) (l.G r) c (fun x=>if r=i then T1 x else if r<d then S.T r x - S.T r j*T1 x else S.T r x))∧Keep (fun b=>∃ r,r<m∧b=l.G r) w wr) (fun q _=>m - (intOf q).toNat)
   case atStart=>
    refine ⟨0,by omega,rfl,fun r hr=>?_,hK.weak (fun b _ h=>⟨i,hi,h⟩)⟩
    by_cases hri:r=i
    ·subst hri
     exact R1.congr (fun x _=>if_pos rfl)
    ·have h:=(HR.out r hr).keep hKX hK (HD.out.d5 r hr i hi hri)
     rw [HN.out] at h
     exact h.congr (fun x _=>by rw [if_neg hri,if_neg (Nat.not_lt_zero r)])
   case round=>
    obtain ⟨d,hdm,rfl,hrel,hK2⟩:=hrel
    obtain ⟨wo2,rfl⟩:∃ wo2:World,wo2=wr:=⟨_,rfl⟩
    clear hbo hro hrio q1 q2 q3 q4 e3 R1 hK hKX NL
    have np:¬ ∃ r,r<m∧l.p=l.G r:=fun ⟨r,hr,e⟩=>(HD.out.d4 r hr).1 e.symm
    have nr:¬ ∃ r,r<m∧l.gr=l.G r:=fun ⟨r,hr,e⟩=>(HD.out.d4 r hr).2.2.1 e.symm
    have nc:¬ ∃ r,r<m∧l.gc=l.G r:=fun ⟨r,hr,e⟩=>(HD.out.d4 r hr).2.2.2.1 e.symm
    have nb:¬ ∃ r,r<m∧l.gb=l.G r:=fun ⟨r,hr,e⟩=>(HD.out.d4 r hr).2.2.2.2 e.symm
    have ns:¬ ∃ r,r<m∧l.gs=l.G r:=fun ⟨r,hr,e⟩=>(HD.out.d4 r hr).2.1 e.symm
    have hKX2:Keep (l.X m) w wo2:=hK2.weak (fun b _ ⟨r,hr,e⟩=>by rw [e]; exact XG.out r hr)
    have hbo:Loc wo2 _ _ _:=Loc.keep hbox hK2 np
    have hro:Loc wo2 _ _ _:=Loc.keep hrow hK2 nr
    have hxo:∀ b,l.X m b→b<wo2.heap.size:=fun b hb=>Nat.lt_of_lt_of_le (hxl.out b hb) hK2.size
    have q2:=hbo.lt
    have q3:=hro.lt
    by_cases hlt:d<m
    ·have d0:(0:Int)≤(d:Int):=by omega
     have d1':(d:Int)<(m:Int):=by omega
     have HRD:Hid (rr[d]? = some (.slice (some ⟨l.G d,0,none⟩) c c)):=by show _=_; rw [HRR.out d hlt,HN.out]
     have q5:=(hrel.out d hlt).lt
     have q6:=(hrel.out i hi).lt
     by_cases hdi:d=i
     ·subst hdi
      go_wp2_with fail
      go_roundw
      case rel=>
       refine ⟨d+1,by omega,by go_num,fun r hr=>?_,hK2⟩
       refine (hrel.out r hr).congr (fun x _=>?_)
       by_cases h1:r=d
       ·rw [if_pos h1,if_pos h1]
       ·rw [if_neg h1,if_neg h1]
        by_cases h2:r<d
        ·rw [if_pos h2,if_pos (by omega)]
        ·rw [if_neg h2,if_neg (by omega)]
      case measure=>simp only [intOf]; omega
     ·have hne:((d:Int) == (i:Int))=false:=beq_eq_false_iff_ne.2 (by omega)
      have hne2:((d:Int) != (i:Int))=true:=bne_iff_ne.2 (by omega)
      have RD:Rw wo2 (l.X m) (l.G d) c (S.T d):=(hrel.out d hlt).congr (fun x _=>by rw [if_neg hdi,if_neg (Nat.lt_irrefl d)])
      have RI:Rw wo2 (l.X m) (l.G i) c T1:=(hrel.out i hi).congr (fun x _=>by rw [if_pos rfl])
      have HGG:Hid (l.G d ≠ l.G i):=HD.out.d5 d hlt i hi hdi
      go_wp2_with fail
      go_region_held3 (fun W=>(W.cell? ⟨l.p,2,none⟩=some (.slice (some ⟨l.gr,0,none⟩) m cr))∧W.cell? ⟨l.gr,d,none⟩=some (.slice (some ⟨l.G d,0,none⟩) c c)∧W.cell? ⟨l.gr,i,none⟩=some (.slice (some ⟨l.G i,0,none⟩) c c))
       (first
        | exact ⟨Loc.c 2 hbo,(Loc.c d hro).trans HRD.out,(Loc.c i hro).trans HRI.out⟩
        | exact ⟨Loc.c 2 hbo5,(Loc.c d hro5).trans HRD.out,(Loc.c i hro5).trans HRI.out⟩)
       (first
        | (go_at_call 497; refine (reduce_rw wo2.drew (l.X m) (l.G d) (l.G i) c j (S.T d) T1 (RD.keep (w':=wo2.drew) kp (Y:=fun _=>False) kp id) (RI.keep (w':=wo2.drew) kp (Y:=fun _=>False) kp id) HGG.out (XG.out d hlt) hxo (by omega) (by omega) (fun x hx=>(HS.out d hlt x (by omega)).mono (by omega)) HS1.out).mono ?_; rintro e u1 ⟨rfl,hR5,hK5⟩; have hbo5:Loc u1 _ _ _:=Loc.keep (show Loc wo2.drew _ _ _ from hbo) hK5 (fun e=>np ⟨d,hlt,e⟩); have hro5:Loc u1 _ _ _:=Loc.keep (show Loc wo2.drew _ _ _ from hro) hK5 (fun e=>nr ⟨d,hlt,e⟩)))
      all_goals
       go_wp2_with fail
       go_roundw
       case rel=>
        refine ⟨d+1,by omega,by go_num,fun r hr=>?_,hK2.trans ((show Keep (fun b=>b=l.G d) wo2 u1 from ⟨hK5.size,hK5.block,hK5.env⟩).weak (fun b _ h=>⟨d,hlt,h⟩))⟩
        by_cases h1:r=d
        ·subst h1
         exact hR5.congr (fun x _=>by rw [if_neg hdi,if_pos (by omega)])
        ·refine ((show Rw wo2.drew _ _ _ _ from hrel.out r hr).keep (hK5.weak (fun b _ h=>by rw [h]; exact XG.out d hlt)) hK5 (HD.out.d5 r hr d hlt h1)).congr (fun x _=>?_)
         by_cases h2:r=i
         ·rw [if_pos h2,if_pos h2]
         ·rw [if_neg h2,if_neg h2]
          by_cases h3:r<d
          ·rw [if_pos h3,if_pos (by omega)]
          ·rw [if_neg h3,if_neg (by omega)]
       case measure=>simp only [intOf]; omega
    ·obtain rfl:m=d:=by omega
     have RC:Rc wo2 (l.X m) l.gc c k:=by have h:=HT.out.cost.keep hKX2 hK2 nc; rw [HN.out] at h; exact h
     have RI:Rw wo2 (l.X m) (l.G i) c T1:=(hrel.out i hi).congr (fun x _=>by rw [if_pos rfl])
     have q5:=RC.lt
     have q6:=RI.lt
     go_wp2_with fail
     go_region_held3 (fun W=>(W.cell? ⟨l.p,3,none⟩=some (.slice (some ⟨l.gc,0,none⟩) c c))∧W.cell? ⟨l.p,2,none⟩=some (.slice (some ⟨l.gr,0,none⟩) m cr)∧W.cell? ⟨l.gr,i,none⟩=some (.slice (some ⟨l.G i,0,none⟩) c c))
      (first
       | exact ⟨Loc.c 3 hbo,Loc.c 2 hbo,(Loc.c i hro).trans HRI.out⟩
       | exact ⟨Loc.c 3 hbo5,Loc.c 2 hbo5,(Loc.c i hro5).trans HRI.out⟩)
      (first
       | (go_at_call 497; refine (reduce_rc wo2.drew (l.X m) l.gc (l.G i) c j k T1 (RC.keep (w':=wo2.drew) kp (Y:=fun _=>False) kp id) (RI.keep (w':=wo2.drew) kp (Y:=fun _=>False) kp id) (fun e=>d9 e.symm) (.inr (.inr (.inr (.inl rfl)))) hxo (by omega) (by omega) (fun x hx=>(HK.out x (by omega)).mono (by omega)) HS1.out).mono ?_; rintro e u1 ⟨rfl,hR5,hK5⟩; have hbo5:Loc u1 _ _ _:=Loc.keep (show Loc wo2.drew _ _ _ from hbo) hK5 d1.2.2.1; have hro5:Loc u1 _ _ _:=Loc.keep (show Loc wo2.drew _ _ _ from hro) hK5 d3.1))
     all_goals
      have hbas5:Loc u1 l.gb 3 bb:=Loc.keep (show Loc wo2.drew _ _ _ from (Loc.keep (X:=fun b=>∃ r,r<m∧b=l.G r) hbas hK2 nb:Loc wo2 _ _ _)) hK5 (fun e=>d3.2.2 e.symm)
      have hro6:Loc u1 l.gs 3 ss:=Loc.keep (show Loc wo2.drew _ _ _ from (Loc.keep (X:=fun b=>∃ r,r<m∧b=l.G r) hsgn hK2 ns:Loc wo2 _ _ _)) hK5 d2.2.1
      obtain ⟨e5,f5,l5⟩:=hbo5.all (w':=u1)
      have f6:=Loc.frz hbas5
      have g6:u1.cell? ⟨l.gb,i,none⟩=some (.int .i64 (S.b i)):=by rw [Loc.cell hbas5,HBB.out i hi]
      have l6:=hbas5.lt
      have hmb:(m:Int)≤(cb:Int):=by omega
      go_wp2_with fail
      go_end0
      have hK6:Keep (l.X m) wo2 u1:=⟨hK5.size,fun b hb hx=>hK5.block b hb (fun e=>hx (by rw [e]; exact .inr (.inr (.inr (.inl rfl))))),hK5.env⟩
      have XB:l.X m l.gb:= .inr (.inr (.inr (.inr (.inl rfl))))
      have hKS:Keep (fun b=>b=l.gb) u1 (u1.setCell ⟨l.gb,i,none⟩ (.int .i64 j)):=Keep.set (Keep.refl (fun b=>b=l.gb) u1) (p:=⟨l.gb,i,none⟩) (.inl rfl) _
      have hKSX:Keep (l.X m) u1 (u1.setCell ⟨l.gb,i,none⟩ (.int .i64 j)):=Keep.set (Keep.refl (l.X m) u1) (p:=⟨l.gb,i,none⟩) (.inl XB) _
      refine ⟨rfl,⟨⟨⟨cs,cr,cb,?_,hcs,hcr,hcb⟩,⟨ss,Loc.keep hro6 hKS d2.2.2,?_⟩,⟨rr,Loc.keep hro5 hKS d3.2.1,HRR.out⟩⟩,fun r hr=>?_,?_,?_,HD.out⟩,(hKX2.trans hK6).trans hKSX⟩
      ·rw [HN.out]
       exact Loc.keep hbo5 hKS d1.2.2.2
      ·exact HSS.out
      ·rw [HN.out]
       have h1:=((show Rw wo2.drew _ _ _ _ from hrel.out r hr).keep (⟨hK6.size,hK6.block,hK6.env⟩:Keep (l.X m) wo2.drew u1) hK5 (HD.out.d4 r hr).2.2.2.1).keep hKSX hKS (HD.out.d4 r hr).2.2.2.2
       refine h1.congr (fun x _=>?_)
       show piv S.T i j r x=_
       unfold piv
       rw [HT1.out]
       by_cases h2:r=i
       ·rw [if_pos h2,if_pos h2]
       ·rw [if_neg h2,if_neg h2,if_pos hr]
      ·rw [HN.out]
       refine (hR5.keep hKSX hKS d3.2.2).congr (fun x _=>?_)
       rw [HT1.out]
      ·refine ⟨bb.setIfInBounds i (.int .i64 j),Loc.set hbas5 i _,fun r hr=>?_⟩
       show _=some (Value.int .i64 (bup S.b i j r))
       unfold bup
       by_cases h2:r=i
       ·subst h2
        have hb3:=HBB.out r hr
        have hlt3:=(Array.getElem?_eq_some_iff.1 hb3).1
        rw [if_pos rfl]
        simp [hlt3]
       ·rw [if_neg h2,Array.getElem?_setIfInBounds_ne (fun e=>h2 e.symm),HBB.out r hr]
end Go.Proofs.YtbdcjhoedhhabaaGreat

