/- Contracts of the functions that the statements reach, part 32. -/
import Derived.Test.YtbdcjhoedhhabaaGreatRows
import Derived.Test.YtbdcjhoedhhabaaGreatF25
import Derived.Test.YtbdcjhoedhhabaaGreatF26
import Derived.Test.YtbdcjhoedhhabaaGreatF27
import Derived.Test.YtbdcjhoedhhabaaGreatF30
import Derived.Test.YtbdcjhoedhhabaaGreatF31
set_option linter.unusedSimpArgs false
set_option linter.unusedVariables false

/- right, and the unknown that enters. -/
namespace Go.Proofs.YtbdcjhoedhhabaaGreat
open Go.RowKit
attribute [local go_sem ↓] Go.wp_at_zero Go.wp_at_succ

/-- A world that only grew keeps the tableau. -/
theorem Tab.on {w w':World} {l:Lay} {m n:Nat} {S:St} {k:Nat→Rat} {sg:Nat→Int} (h:Tab w l m n S k sg) (hb:Keep (fun _=>False) w w'):Tab w' l m n S k sg:=
 ⟨h.fix.keep hb id id id,fun i hi=>(h.rows i hi).keep (hb.weak (fun _ _ h=>h.elim)) hb id,h.cost.keep (hb.weak (fun _ _ h=>h.elim)) hb id,h.bas.keep hb id,h.dis⟩

set_option maxHeartbeats 4000000 in
theorem tright_any (w:World) (l:Lay) (m n:Nat) (sg:Nat→Int) (h:Fix w l m n sg) (hm:m≤80) (hn:n≤80) :
 Calls Tryz.prog 380 #[.pointer (some ⟨l.p,0,none⟩)] w fun e w'=>e = .returned (.int .i64 ((n+m:Nat):Int))∧Below w.heap.size w w':=by
 obtain ⟨⟨cs,cr,cb,hbox,hcs,hcr,hcb⟩, -, -⟩:=h
 have hl:=hbox.lt
 have hw:IntKind.i64.wrap ((n:Int)+m)=n+m:=by rw [IntKind.wrap_i64]; omega
 go_enter Tryz.func380,Tryz.ntmps380
 go_wp2_with fail
 go_region_held3 (fun W=>W.cell? ⟨l.p,0,none⟩=some (.int .i64 n)∧W.cell? ⟨l.p,2,none⟩=some (.slice (some ⟨l.gr,0,none⟩) m cr))
  (exact ⟨Loc.c 0 hbox,Loc.c 2 hbox⟩) (fail)
 all_goals
  go_wp2_with fail
  go_ret
  exact ⟨by simp [hw],bel⟩

set_option maxHeartbeats 4000000 in
theorem enter_any (w:World) (l:Lay) (m n g:Nat) (S:St) (k:Nat→Rat) (sg:Nat→Int) (hT:Tab w l m n S k sg) (hg:w.cell? ⟨g,0,none⟩=some (.pointer (some ⟨l.p,0,none⟩))) (hgl:g<w.heap.size) (hm:m≤80) (hn:n≤80) (hk:∀ c,c≤n+m→Rsz 9000 (k c)) :
 Calls Tryz.prog 445 #[.pointer (some ⟨g,0,none⟩)] w fun e w'=>∃ r:Int,e = .returned (.int .i64 r)∧Hid ((r = -1∧∀ j,j<n→¬ k j<0)∨∃ j:Nat,r=j∧j<n∧k j<0∧∀ c,c<j→¬ k c<0)∧Below w.heap.size w w':=by
 have HT:=Lib.hid hT
 obtain ⟨⟨⟨cs,cr,cb,hbox,hcs,hcr,hcb⟩, -, -⟩, -,hcost, -, -⟩:=hT
 have hl:=hbox.lt
 have e1:=Loc.cell hbox
 obtain ⟨N,hN⟩:∃ N,n+m+1=N:=⟨_,rfl⟩
 rw [hN] at hbox hcost e1
 have HK:=Lib.hid hk
 clear hk
 go_enter Tryz.func445,Tryz.ntmps445
 go_wp2_with fail
 go_loopw [7] (fun q wr=>∃ (c:Nat),c≤n∧q = .int .i64 c∧Hid (∀ j,j<c→¬ k j<0)∧Below w.heap.size w wr) (fun q _=>n - (intOf q).toNat)
 case atStart=>exact ⟨0,by omega,rfl,Lib.hid (fun i hi=>absurd hi (by omega)),bel⟩
 case round=>
  obtain ⟨c,hc,rfl,hall,hB⟩:=hrel
  obtain ⟨wo,rfl⟩:∃ wo:World,wo=wr:=⟨_,rfl⟩
  have y5:=hB.size; (try simp only [zs] at y5)
  clear e1
  by_cases hlt:c<n
  ·have hbo:Loc wo _ _ _:=Loc.keep hbox (.of_below hB) (X:=fun _=>False) id
   have e1:=Loc.cell hbo
   have hg2:wo.cell? ⟨g,0,none⟩=_:=cell_keep (X:=fun _=>False) hg hgl id (.of_below hB)
   obtain ⟨b2,A2,m2,c2,b2',A2',m2',c2',y0,y1,y2,y3,r2, -⟩:=(hcost.keep (.of_below hB) (Y:=fun _=>False) (.of_below hB) id).at (show c<N by omega)
   have k1:(c:Int)<(N:Int):=by omega
   go_wp2_with fail
   refine (negative_any _ 100000 _ (k c) (RatL.to r2)).mono ?_
   rintro e w2 ⟨he,hb2⟩
   have y6:=hb2.size; (try simp only [zs] at y6)
   by_cases hneg:k c<0
   ·rw [decide_eq_true hneg] at he
    subst he
    have HV:=Lib.hid hneg
    clear hneg
    go_wp2_with fail
    go_ret
    exact ⟨_,rfl, .inr ⟨c,rfl,hlt,HV.out,hall.out⟩,bel⟩
   ·rw [decide_eq_false hneg] at he
    subst he
    have HV:=Lib.hid hneg
    clear hneg
    go_wp2_with fail
    go_roundw
    case rel=>
     refine ⟨c+1,by omega,by go_num,Lib.hid (fun i hi=>?_),bel⟩
     by_cases hic:i<c
     ·exact hall.out i hic
     ·obtain rfl:i=c:=by omega
      exact HV.out
    case measure=>simp only [intOf]; omega
  ·obtain rfl:c=n:=by omega
   go_wp2_with fail
   go_ret
   exact ⟨-1,rfl, .inl ⟨rfl,hall.out⟩,hB⟩
end Go.Proofs.YtbdcjhoedhhabaaGreat

/- What the tableau tells: points, Farkas vectors, optima, rays. -/
namespace Go.Proofs.YtbdcjhoedhhabaaGreat

/-- The cost of the first phase: the sum of the artificial unknowns. -/
def d1 (m n:Nat):Nat→Rat:=fun c=>if n≤c∧c<n+m then 1 else 0
/-- The cost of the second phase. -/
def d2 (n:Nat) (k:Nat→Rat):Nat→Rat:=fun c=>if c<n then k c else 0
/-- The basic solution. -/
def pt (m n:Nat) (S:St):Nat→Rat:=fun j=>sm m (fun i=>if S.b i=j then S.T i (n+m) else 0)
/-- The dual vector of the tableau. -/
def du (m n:Nat) (d:Nat→Rat) (S:St):Nat→Rat:=fun l=>d (n+l) - rho m d S.T S.b (n+l)
/-- Basic artificial unknowns are 0. -/
def Zer (m n:Nat) (S:St):Prop:=∀ i,i<m→n≤S.b i→S.T i (n+m)=0
/-- So are the first k rows' coefficients where an artificial unknown is basic. -/
def Non (m n k:Nat) (S:St):Prop:=∀ i,i<k→i<m→n≤S.b i→∀ j,j<n→S.T i j=0

section
variable {m n k:Nat} {T0:Nat→Nat→Rat} {d:Nat→Rat} {S:St}

theorem Good.dual (G:Good m n T0 S.T S.b) {c:Nat} (hc:c≤n+m):rho m d S.T S.b c=d c - sm m (fun l=>du m n d S l*T0 l c):=by
 have e:∀ l,du m n d S l=sm m (fun i=>d (S.b i)*S.T i (n+l)):=fun l=>by unfold du rho; grind
 have e2:sm m (fun l=>du m n d S l*T0 l c)=sm m (fun i=>d (S.b i)*S.T i c):=by
  rw [sm_congr (g:=fun l=>sm m (fun i=>d (S.b i)*(S.T i (n+l)*T0 l c))) (fun l _=>by
   rw [e l,Rat.mul_comm,← sm_mul]
   exact sm_congr (fun i _=>by grind)),sm_swap]
  exact sm_congr (fun i hi=>by rw [sm_mul,← G.fw i hi c hc])
 rw [e2]; rfl

/-- A sum over the columns below n that are basic. -/
theorem pick (b:Nat→Nat) (x v:Nat→Rat) (n m:Nat):sm n (fun j=>v j*sm m (fun i=>if b i=j then x i else 0))=sm m (fun i=>if b i<n then v (b i)*x i else 0):=by
 rw [sm_congr (g:=fun j=>sm m (fun i=>v j*(if b i=j then x i else 0))) (fun j _=>by rw [sm_mul]),sm_swap]
 refine sm_congr (fun i _=>?_)
 by_cases h:b i<n
 ·rw [if_pos h,sm_one _ (b i) h (fun j _ hne=>by rw [if_neg (fun e=>hne e.symm)]; grind),if_pos rfl]
 ·rw [if_neg h]
  exact sm_zero (fun j hj=>by rw [if_neg (by omega)]; grind)

theorem pt_nonneg (hF:Feas m n S) (j:Nat):0≤pt m n S j:=sm_nonneg (fun i hi=>by
 by_cases h:S.b i=j
 ·rw [if_pos h]; exact hF i hi
 ·rw [if_neg h]; exact Rat.le_refl)

theorem pt_solves (G:Good m n T0 S.T S.b) (hZ:Zer m n S) {l:Nat} (hl:l<m):sm n (fun j=>T0 l j*pt m n S j)=T0 l (n+m):=by
 unfold pt
 rw [pick,G.bw l hl (n+m) (Nat.le_refl _)]
 refine sm_congr (fun i hi=>?_)
 by_cases h:S.b i<n
 ·rw [if_pos h]
 ·rw [if_neg h,hZ i hi (by omega)]; grind

/-! The first phase. -/
theorem d1_right:d1 m n (n+m)=0:=by unfold d1; rw [if_neg (by omega)]
theorem d1_nonneg (c:Nat):0≤d1 m n c:=by unfold d1; split <;> decide
theorem p1_le (hF:Feas m n S):rho m (d1 m n) S.T S.b (n+m)≤0:=by
 have:0≤sm m (fun i=>d1 m n (S.b i)*S.T i (n+m)):=sm_nonneg (fun i hi=>Rat.mul_nonneg (d1_nonneg _) (hF i hi))
 unfold rho
 rw [d1_right]; grind
theorem p1_zero (G:Good m n T0 S.T S.b) (hF:Feas m n S) (h:rho m (d1 m n) S.T S.b (n+m)=0):Zer m n S:=fun i hi hb=>by
 unfold rho at h
 rw [d1_right] at h
 have h2:=sm_zero_all (m:=m) (f:=fun i=>d1 m n (S.b i)*S.T i (n+m)) (fun i hi=>Rat.mul_nonneg (d1_nonneg _) (hF i hi)) (by grind) i hi
 have h3:d1 m n (S.b i)=1:=by unfold d1; rw [if_pos ⟨hb,G.lt i hi⟩]
 rw [h3] at h2
 grind
/-- The first phase is bounded. -/
theorem p1_bound {j:Nat} (hj:In m n (d1 m n) S j):∃ i,i<m∧0<S.T i j:=by
 have h0:d1 m n j=0:=by unfold d1; rw [if_neg (by have:=hj.1; omega)]
 have h1:=hj.2.1
 unfold rho at h1
 rw [h0] at h1
 obtain ⟨i,hi,hp⟩:=sm_pos (m:=m) (f:=fun i=>d1 m n (S.b i)*S.T i j) (by grind)
 exact ⟨i,hi,pos_of_mul (d1_nonneg _) hp⟩

/-! Between the phases. -/
theorem Zer.at (hZ:Zer m n S) {r j:Nat} (hr:r<m) (h0:S.T r (n+m)=0):Zer m n (S.at r j)∧∀ i,(S.at r j).T i (n+m)=if i=r then 0 else S.T i (n+m):=by
 have e:∀ i,(S.at r j).T i (n+m)=if i=r then 0 else S.T i (n+m):=fun i=>by
  show piv S.T r j i (n+m)=_
  unfold piv
  rw [h0]
  by_cases h:i=r
  ·rw [if_pos h,if_pos h]; grind
  ·rw [if_neg h,if_neg h]; grind
 refine ⟨fun i hi hb=>?_,e⟩
 rw [e]
 by_cases h:i=r
 ·rw [if_pos h]
 ·rw [if_neg h]
  refine hZ i hi ?_
  have:(S.at r j).b i=S.b i:=by show bup S.b r j i=_; unfold bup; rw [if_neg h]
  rw [this] at hb; exact hb
theorem Non.at (hN:Non m n k S) {r j:Nat} (hj:j<n):Non m n k (S.at r j):=fun i hk hi hb c hc=>by
 have hir:i ≠ r:=fun h=>by
  have:(S.at r j).b i=j:=by show bup S.b r j i=_; unfold bup; rw [if_pos h]
  omega
 have hb':(S.at r j).b i=S.b i:=by show bup S.b r j i=_; unfold bup; rw [if_neg hir]
 rw [hb'] at hb
 show piv S.T r j i c=0
 unfold piv
 rw [if_neg hir,hN i hk hi hb c hc,hN i hk hi hb j hj]; grind
theorem Non.succ (hN:Non m n k S) (h:n≤S.b k→∀ j,j<n→S.T k j=0):Non m n (k+1) S:=fun i hk hi hb c hc=>by
 by_cases he:i=k
 ·subst he; exact h hb c hc
 ·exact hN i (by omega) hi hb c hc
/-- The second phase keeps both. -/
theorem Zer.bl (hZ:Zer m n S) {r j:Nat} (hN:Non m n m S) (hj:j<n):Zer m n (S.at r j):=fun i hi hb=>by
 have hir:i ≠ r:=fun h=>by
  have:(S.at r j).b i=j:=by show bup S.b r j i=_; unfold bup; rw [if_pos h]
  omega
 have hb':(S.at r j).b i=S.b i:=by show bup S.b r j i=_; unfold bup; rw [if_neg hir]
 rw [hb'] at hb
 show piv S.T r j i (n+m)=0
 unfold piv
 rw [if_neg hir,hZ i hi hb,hN i hi hi hb j hj]; grind

/-! The ray. -/
end
end Go.Proofs.YtbdcjhoedhhabaaGreat

/- A block that holds no words, and that is no list's own, is no part of a list of fractions. -/
namespace Go.Proofs.YtbdcjhoedhhabaaGreat
open Go.RowKit

/-- No word of 32 bits. -/
def noW (u:Value):Prop:=∀ z:Int,u ≠ .int .u32 z
/-- The list's own block, if it has one, is at or above B. -/
def Fr (B:Nat) (v:Value):Prop:=∀ (a:Addr) (n c:Nat),v = .slice (some a) n c→B≤a.block

section
variable {w:World} {X:Nat→Prop} {g k n B:Nat} {t:TypeId} {cs:Array Value} {v:Value} {q:Rat} {f:Nat→Rat} {xs:List Nat} {neg:Bool}
theorem Loc.mem (L:Loc w g t cs) {a:Addr} {u:Value} (h:w.cell? a=some u) (ha:a.block=g):u∈cs:=by
 unfold World.cell? at h
 rw [ha,L] at h
 dsimp only at h
 split at h
 ·cases h
 ·exact Array.mem_of_getElem? h
theorem Words.off (h:Words w X v xs) (L:Loc w g t cs) (hc:∀ u∈cs,noW u):Words w (fun b=>X b∨b=g) v xs:=by
 obtain ⟨⟨A,c,hv,h1,h2,h3,h4⟩,h5⟩:=h
 refine ⟨⟨A,c,hv,h1,h2,h3,fun hn=>?_⟩,h5⟩
 obtain ⟨a,hA,hlt,hx,hcell⟩:=h4 hn
 refine ⟨a,hA,hlt,fun hy=>?_,hcell⟩
 rcases hy with hy | hy
 ·exact hx hy
 ·have h0:=hcell 0 _ (nums_get (k:= .u32) (xs:=xs) (i:=0) hn)
  have:=L.mem h0 (by rw [addr_block]; exact hy)
  exact hc _ this _ rfl
theorem IntR.off (h:IntR w X v neg xs) (L:Loc w g t cs) (hc:∀ u∈cs,noW u):IntR w (fun b=>X b∨b=g) v neg xs:=by
 obtain ⟨a,b,h⟩:=h
 exact ⟨a,b,h.off L hc⟩
theorem RatL.off (h:RatL k w X v q) (L:Loc w g t cs) (hc:∀ u∈cs,noW u):RatL k w (fun b=>X b∨b=g) v q:=by
 obtain ⟨n1,xs,n2,ys,⟨A,c,B,d,e,h1,h2⟩,h3⟩:=h
 exact ⟨n1,xs,n2,ys,⟨A,c,B,d,e,h1.off L hc,h2.off L hc⟩,h3⟩
theorem Nums.off (h:Nums k w X v n f) (L:Loc w g t cs) (hc:∀ u∈cs,noW u) (hf:Fr B v) (hg:g<B):Nums k w (fun b=>X b∨b=g) v n f:=by
 obtain ⟨rs,A,cap,h1,h2,h3,h4,h5,h6⟩:=h
 refine ⟨rs,A,cap,h1,h2,h3,h4,fun hn=>?_,fun i r hr=>(h6 i r hr).off L hc⟩
 obtain ⟨a,ea,hb,hX,hcell⟩:=h5 hn
 refine ⟨a,ea,hb,fun hy=>?_,hcell⟩
 rcases hy with hy | hy
 ·exact hX hy
 ·have:=hf a n cap (by rw [h2,ea])
  omega
theorem Nums.off2 (h:Nums k w X v n f) (L:Loc w g t cs) (hc:∀ u∈cs,noW u) (hap:n ≠ 0→∀ (a:Addr) (c:Nat),v = .slice (some a) n c→a.block ≠ g):Nums k w (fun b=>X b∨b=g) v n f:=by
 obtain ⟨rs,A,cap,h1,h2,h3,h4,h5,h6⟩:=h
 refine ⟨rs,A,cap,h1,h2,h3,h4,fun hn=>?_,fun i r hr=>(h6 i r hr).off L hc⟩
 obtain ⟨a,ea,hb,hX,hcell⟩:=h5 hn
 refine ⟨a,ea,hb,fun hy=>?_,hcell⟩
 rcases hy with hy | hy
 ·exact hX hy
 ·exact hap hn a cap (by rw [h2,ea]) hy
theorem Fr.nil (B:Nat):Fr B (.slice none 0 0):=fun a n c h=>by cases h
theorem Fr.own {g c:Nat} {A:Option Nat} (h:B≤g):Fr B (.slice (some ⟨g,0,A⟩) n c):=fun a n' c' e=>by injection e with e; injection e with e; rw [←e]; exact h
theorem Fr.mono {B':Nat} (h:Fr B v) (hB:B'≤B):Fr B' v:=fun a n c e=>Nat.le_trans hB (h a n c e)
/-- Behind a store into a block that is none of its own. -/
theorem Nums.past {w':World} (h:Nums k w (fun _=>False) v n f) (L:Loc w g t cs) (hc:∀ u∈cs,noW u) (hf:Fr B v) (hg:g<B) (hk:Keep (fun b=>b=g) w w'):Nums k w' (fun _=>False) v n f:=
 ((h.off L hc hf hg).keep (hk.weak (fun b _ hb=> .inr hb))).weak (fun _ _ h=>h.elim)
theorem RatL.past {w':World} (h:RatL k w (fun _=>False) v q) (L:Loc w g t cs) (hc:∀ u∈cs,noW u) (hk:Keep (fun b=>b=g) w w'):RatL k w' (fun _=>False) v q:=
 ((h.off L hc).keep (hk.weak (fun b _ hb=> .inr hb))).weak (fun _ _ h=>h.elim)
end
theorem noW_bool (b:Bool):noW (.bool b):=fun z h=>by cases h
theorem noW_slice (A:Option Addr) (n c:Nat):noW (.slice A n c):=fun z h=>by cases h
end Go.Proofs.YtbdcjhoedhhabaaGreat

/- point. -/
namespace Go.Proofs.YtbdcjhoedhhabaaGreat
open Go.RowKit
attribute [local go_sem ↓] Go.wp_at_zero Go.wp_at_succ

theorem zvals (k:Nat) (w:World) (X:Nat→Prop) (n:Nat):ValL k w X (List.replicate n zR4) (fun _=>0):=fun i q hq=>by
 obtain ⟨h1,h2⟩:=List.getElem?_eq_some_iff.1 hq
 rw [List.getElem_replicate] at h2
 subst h2
 exact zR4L _ _ _
theorem rsz_zero (k:Nat) (hk:2≤k):Rsz k (0:Rat):=(rsz_int (z:=0) (by decide) (by decide)).mono hk

set_option maxRecDepth 100000 in
set_option maxHeartbeats 16000000 in
theorem point_any (w:World) (l:Lay) (m n kk:Nat) (T0:Nat→Nat→Rat) (S:St) (k:Nat→Rat) (sg:Nat→Int) (hT:Tab w l m n S k sg) (hG:Good m n T0 S.T S.b) (hm:m≤80) (hn:n≤80) (hkk:2≤kk) (hs:∀ r,r<m→Rsz kk (S.T r (n+m))) :
 Calls Tryz.prog 284 #[.pointer (some ⟨l.p,0,none⟩)] w fun e w'=>∃ v',e = .returned v'∧Nums kk w' (fun _=>False) v' n (pt m n S)∧Fr w.heap.size v'∧Below w.heap.size w w':=by
 have HT:=Lib.hid hT
 have HG:=Lib.hid hG
 have HS:=Lib.hid hs
 obtain ⟨⟨⟨cs,cr,cb,hbox,hcs,hcr,hcb⟩, -,⟨rr,hrow,hrr⟩⟩, -, -,⟨bb,hbas,hbb⟩, -⟩:=hT
 have HRR:=Lib.hid hrr
 have HBB:=Lib.hid hbb
 have hl:=hbox.lt
 have g2:=hrow.lt
 have g3:=hbas.lt
 obtain ⟨N,hN⟩:∃ N,n+m+1=N:=⟨_,rfl⟩
 have HN:=Lib.hid hN
 obtain ⟨R,hR⟩:∃ R,n+m=R:=⟨_,rfl⟩
 have HR:=Lib.hid hR
 have hmr:(m:Int)≤(cr:Int):=by omega
 have hmb:(m:Int)≤(cb:Int):=by omega
 obtain ⟨e1,f1, -⟩:=hbox.all (w':=w)
 clear hG hs hrr hbb
 go_enter Tryz.func284,Tryz.ntmps284
 go_wp2_with (at_make; refine wpList_makeR _ rfl _ _ rfl w.heap.size n rfl rfl rfl rfl (by omega) (by omega) ?_)
 intro w7 K7 hg7
 have hb7:Below w.heap.size w w7:=(Below.refl _ _).grown hg7 (Nat.le_refl _) (fun k hk=>by cases hk)
 have y7:=hb7.size
 have y8:=K7.lt
 clear e1 f1
 go_wp2_with fail
 go_loopw [14] (fun i wr=>∃ (ci:Nat) (rs:List R4),ci≤n∧i = .int .i64 ci∧Line wr w.heap.size rs∧rs.length=n∧ValL kk wr (fun b=>b=w.heap.size) rs (fun _=>0)∧Below w.heap.size w wr) (fun i _=>n - (intOf i).toNat)
 case atStart=>exact ⟨0,_,by omega,rfl,K7,by simp,zvals _ _ _ _,hb7⟩
 case round=>
  clear K7 y8 y7 hb7
  obtain ⟨ci,rs,hci,rfl,K8,hrl,hvz,hB8⟩:=hrel
  obtain ⟨wo,rfl⟩:∃ wo:World,wo=wr:=⟨_,rfl⟩
  have y9:=hB8.size
  have q3:=K8.lt
  by_cases hlt:ci<n
  ·go_wp2_with fail
   refine (zero_lin _).mono ?_
   rintro e u1 ⟨v9,rfl,i9,hb9⟩
   obtain ⟨b9,A9,m9,c9,b9',A9',m9',c9',rfl,i9, -, -⟩:=i9.op
   have y10:=hb9.size; (try simp only [zs] at y10)
   obtain ⟨qr,hqr⟩:∃ q,rs[ci]? = some q:=⟨_,List.getElem?_eq_getElem (by omega)⟩
   have K9:Line u1 w.heap.size rs:=Loc.to K8
   obtain ⟨g0,g1,g2',g3'⟩:=K9.cells hqr
   have f9:=K9.frz
   go_wp2_with fail
   go_roundw
   case rel=>
    refine ⟨ci+1,rs.set ci ⟨b9,A9,m9,c9,b9',A9',m9',c9'⟩,by omega,by go_num,K9.put (by omega) ⟨b9,A9,m9,c9,b9',A9',m9',c9'⟩,by simpa using hrl,?_,bel⟩
    refine ValL.set0 (hvz.keep kp) ?_
    have h1:=i9.weak (Y:=fun b=>b=w.heap.size) (fun b _ hx=>by have:b=w.heap.size:=hx; show b<wo.heap.size; omega)
    exact (RatV.len h1 (rsz_zero kk hkk)).keep kp
   case measure=>simp only [intOf]; omega
  ·obtain rfl:n=ci:=by omega
   have hbo:Loc wo _ _ _:=Loc.keep (X:=fun _=>False) hbox (.of_below hB8) id
   obtain ⟨e1,f1, -⟩:=hbo.all (w':=wo)
   go_wp2_with fail
   go_loopw [27] (fun i wr=>∃ (ci:Nat) (rs:List R4),ci≤m∧i = .int .i64 ci∧Line wr w.heap.size rs∧rs.length=n∧ValL kk wr (fun b=>b=w.heap.size) rs (fun x=>sm ci (fun i=>if S.b i=x then S.T i (n+m) else 0))∧Below w.heap.size w wr) (fun i _=>m - (intOf i).toNat)
   case atStart=>exact ⟨0,rs,by omega,rfl,K8,hrl,hvz,hB8⟩
   case round=>
    clear K8 hrl hvz hB8 q3 y9 hbo e1 f1
    obtain ⟨ci,rs,hci,rfl,K8,hrl,hvz,hB8⟩:=hrel
    obtain ⟨wo,rfl⟩:∃ wo:World,wo=wr:=⟨_,rfl⟩
    have y9:=hB8.size
    have q3:=K8.lt
    have hKF:Keep (fun _=>False) w wo:= .of_below hB8
    have hbo:Loc wo _ _ _:=Loc.keep hbox hKF id
    have hro:Loc wo _ _ _:=Loc.keep hrow hKF id
    have hba:Loc wo _ _ _:=Loc.keep hbas hKF id
    obtain ⟨e1,f1,l1⟩:=hbo.all (w':=wo)
    by_cases hlt:ci<m
    ·have hbc:wo.cell? ⟨l.gb,ci,none⟩=some (.int .i64 (S.b ci)):=by rw [Loc.cell hba,HBB.out ci hlt]
     have HRI:Hid (rr[ci]? = some (.slice (some ⟨l.G ci,0,none⟩) N N)):=by show _=_; rw [HRR.out ci hlt,HN.out]
     have hRw:=HT.out.rows ci hlt
     rw [HN.out] at hRw
     obtain ⟨b4,A4,m4,c4,b4',A4',m4',c4',x0,x1,x2,x3,r5, -⟩:=hRw.at (show n+m<N by omega)
     rw [HR.out] at x0 x1 x2 x3
     have hgl:=hRw.lt
     obtain ⟨bj,hbj⟩:∃ bj,S.b ci=bj:=⟨_,rfl⟩
     rw [hbj] at hbc
     have HBJ:=Lib.hid hbj
     clear hbj
     have k0:(0:Int)≤(ci:Int):=by omega
     have k1:(ci:Int)<(m:Int):=by omega
     have k2:(0:Int)≤(R:Int):=by omega
     have k3:(R:Int)<(N:Int):=by omega
     by_cases hbn:bj<n
     ·have HL:Hid (∀ W,Keep (fun b=>b=w.heap.size) w W→(W.cell? ⟨l.p,2,none⟩=some (.slice (some ⟨l.gr,0,none⟩) m cr)∧W.cell? ⟨l.gr,ci,none⟩=some (.slice (some ⟨l.G ci,0,none⟩) N N))∧(W.cell? ⟨l.G ci,R*4,none⟩=some (.bool b4)∧W.cell? ⟨l.G ci,R*4+1,none⟩=some (.slice A4 m4 c4))∧W.cell? ⟨l.G ci,R*4+2,none⟩=some (.bool b4')∧W.cell? ⟨l.G ci,R*4+3,none⟩=some (.slice A4' m4' c4')):=fun W hW=>by
       have hx:=HT.out.xlt
       have hgx:l.G ci ≠ w.heap.size:=by have:=hx _ (.inr (.inr (.inr (.inr (.inr ⟨ci,hlt,rfl⟩))))); omega
       refine ⟨⟨cell_keep (Loc.c 2 hbox) hl (fun e=>by have e:l.p=w.heap.size:=e; omega) hW,cell_keep ((Loc.c ci hrow).trans HRI.out) g2 (fun e=>by have e:l.gr=w.heap.size:=e; omega) hW⟩,⟨?_,?_⟩,?_,?_⟩
       ·exact cell_keep x0 hgl hgx hW
       ·exact cell_keep x1 hgl hgx hW
       ·exact cell_keep x2 hgl hgx hW
       ·exact cell_keep x3 hgl hgx hW
      clear x0 x1 x2 x3
      have hTw:Hid (Fix wo l m n sg):=(HT.out.on hKF).fix
      obtain ⟨qr,hqr⟩:∃ q,rs[bj]? = some q:=⟨_,List.getElem?_eq_getElem (by omega)⟩
      have kb0:(0:Int)≤(bj:Int):=by omega
      have kb1:(bj:Int)<(n:Int):=by omega
      go_wp2_with fail
      go_region_held3 (fun W=>(W.cell? ⟨l.p,2,none⟩=some (.slice (some ⟨l.gr,0,none⟩) m cr)∧W.cell? ⟨l.gr,ci,none⟩=some (.slice (some ⟨l.G ci,0,none⟩) N N))∧(W.cell? ⟨l.G ci,R*4,none⟩=some (.bool b4)∧W.cell? ⟨l.G ci,R*4+1,none⟩=some (.slice A4 m4 c4))∧W.cell? ⟨l.G ci,R*4+2,none⟩=some (.bool b4')∧W.cell? ⟨l.G ci,R*4+3,none⟩=some (.slice A4' m4' c4'))
       (exact HL.out _ kp)
       (first
        | (go_at_call 380; refine (tright_any _ l m n sg (hTw.out.keep (X:=fun _=>False) kp id id id) hm hn).mono ?_; rintro e u1 ⟨he,hb6⟩; rw [HR.out] at he; subst he; have y6:=hb6.size; (try simp only [zs] at y6); have K9:Line u1 w.heap.size rs:=Loc.to K8; obtain ⟨g0,g1,g2',g3'⟩:=K9.cells hqr; have f9:=K9.frz; have l9:=K9.lt))
      all_goals
       go_wp2_with fail
       go_roundw
       case rel=>
        refine ⟨ci+1,rs.set bj ⟨b4,A4,m4,c4,b4',A4',m4',c4'⟩,by omega,by go_num,K9.put (by omega) ⟨b4,A4,m4,c4,b4',A4',m4',c4'⟩,by simpa using hrl,?_,bel⟩
        refine ValL.set (f:=fun x=>sm ci (fun i=>if S.b i=x then S.T i (n+m) else 0)) (hvz.keep kp) ?_ (fun x hx _=>?_)
        ·rw [sm_succ,sm_zero (fun i hi=>if_neg (fun e=>by have:=HG.out.inj (show i<m by omega) hlt (by rw [HBJ.out]; exact e); omega)),if_pos HBJ.out]
         have h1:(0:Rat)+S.T ci (n+m)=S.T ci (n+m):=by grind
         rw [h1]
         have h2:=(r5.len (HS.out ci hlt)).weak (Y:=fun b=>b=w.heap.size) (fun b hbl hb=>by have:b=w.heap.size:=hb; omega)
         exact h2.keep kp
        ·rw [sm_succ,if_neg (fun e=>hx (by rw [←e,HBJ.out]))]; grind
       case measure=>simp only [intOf]; omega
     ·have hbn2:¬ (bj:Int)<(n:Int):=by omega
      go_wp2_with fail
      go_roundw
      case rel=>
       refine ⟨ci+1,rs,by omega,by go_num,K8,hrl,hvz.congr (fun x hx=>?_),hB8⟩
       rw [sm_succ,if_neg (fun e=>by rw [HBJ.out] at e; omega)]; grind
      case measure=>simp only [intOf]; omega
    ·obtain rfl:m=ci:=by omega
     go_wp2_with fail
     go_ret
     exact ⟨_,rfl,Line.nums K8 hvz hrl (fun _ _ h=>h.elim) id (by unfold maxLen; omega),Fr.own (Nat.le_refl _),hB8⟩

/- farkas. -/

theorem ValL.grow {k g:Nat} {w w2:World} {v:Value} {rs:List R4} {f:Nat→Rat} {r:R4} (hv:ValL k w (fun b=>v.ownBlock=some b) rs f) (hr:RatL k w (fun b=>v.ownBlock=some b) r.v (f rs.length)) (hg:w.grownBy w2 v.ownBlock) (ho:v.ownBlock=some g∨g=w.heap.size) :
 ValL k w2 (fun b=>b=g) (rs ++ [r]) f:=by
 have h1:ValL k w (fun b=>v.ownBlock=some b) (rs ++ [r]) f:=hv.push hr
 have h2:ValL k w (fun b=>v.ownBlock=some b∨b=g) (rs ++ [r]) f:=h1.weak (fun b hb h=>by
  rcases h with h | h
  ·exact h
  ·rcases ho with ho | ho
   ·rw [h]; exact ho
   ·omega)
 have hk:Keep (fun b=>v.ownBlock=some b∨b=g) w w2:=(Keep.refl _ w).grown hg (fun q hq=> .inl (.inl hq))
 exact (h2.keep hk).weak (fun b _ h=> .inr h)

set_option maxRecDepth 100000 in
set_option maxHeartbeats 16000000 in
theorem farkas_any (w:World) (l:Lay) (m n kk:Nat) (S:St) (k:Nat→Rat) (sg:Nat→Int) (hT:Tab w l m n S k sg) (hm:m≤80) (hn:n≤80) (hkk:2≤kk) (hkk2:kk≤100000) (hs:∀ c,c≤n+m→Rsz kk (k c)) (hsg:∀ i,i<m→sg i=1∨sg i = -1) :
 Calls Tryz.prog 283 #[.pointer (some ⟨l.p,0,none⟩)] w fun e w'=>∃ v',e = .returned v'∧Nums (kk+kk+10) w' (fun _=>False) v' m (fun i=>((-(sg i):Int):Rat)*(1 - k (n+i)))∧Fr w.heap.size v'∧Below w.heap.size w w':=by
 have HT:=Lib.hid hT
 have HS:=Lib.hid hs
 have HSG:=Lib.hid hsg
 obtain ⟨⟨⟨cs,cr,cb,hbox,hcs,hcr,hcb⟩,⟨ss,hsn,hss⟩, -⟩, -,hcost, -, -⟩:=hT
 have HSS:=Lib.hid hss
 have hl:=hbox.lt
 have g2:=hsn.lt
 have g3:=hcost.lt
 obtain ⟨N,hN⟩:∃ N,n+m+1=N:=⟨_,rfl⟩
 have HN:=Lib.hid hN
 rw [hN] at hcost hbox
 have hmr:(m:Int)≤(cs:Int):=by omega
 obtain ⟨e1,f1, -⟩:=hbox.all (w':=w)
 clear hs hss hsg
 go_enter Tryz.func283,Tryz.ntmps283
 go_wp2_with fail
 go_loopw [3,12] (fun v i wr=>∃ (ci:Nat) (rs:List R4),ci≤m∧i = .int .i64 ci∧OwnR wr w.heap.size v rs∧rs.length=ci∧ValL (kk+kk+10) wr (fun b=>v.ownBlock=some b) rs (fun i=>((-(sg i):Int):Rat)*(1 - k (n+i)))∧Below w.heap.size w wr) (fun _ i _=>m - (intOf i).toNat)
 case atStart=>exact ⟨0,[],by omega,rfl,OwnR.nil _ _,rfl,fun i r hr=>by simp at hr,bel⟩
 case round=>
  clear e1 f1
  obtain ⟨ci,rs,hci,rfl,hown,hrl,hv,hB⟩:=hrel
  obtain ⟨wo,rfl⟩:∃ wo:World,wo=wr:=⟨_,rfl⟩
  have y9:=hB.size
  by_cases hlt:ci<m
  ·have hKF:Keep (fun _=>False) w wo:= .of_below hB
   have hbo:Loc wo _ _ _:=Loc.keep hbox hKF id
   have hsno:Loc wo _ _ _:=Loc.keep hsn hKF id
   have hsc:wo.cell? ⟨l.gs,ci,none⟩=some (.int .i64 (sg ci)):=by rw [Loc.cell hsno,HSS.out ci hlt]
   obtain ⟨sv,hsv⟩:∃ s,sg ci=s:=⟨_,rfl⟩
   have hs1:=HSG.out ci hlt
   rw [hsv] at hsc hs1
   have HSV:=Lib.hid hsv
   have hsw:IntKind.i64.wrap (-sv) = -sv:=by rw [IntKind.wrap_i64]; omega
   obtain ⟨P,hP⟩:∃ P,n+ci=P:=⟨_,rfl⟩
   have hcp:P<N:=by omega
   have HP:=Lib.hid hP
   have hpw:(n:Int)+(ci:Int)=(P:Int):=by omega
   have hpw2:IntKind.i64.wrap (P:Int)=P:=by rw [IntKind.wrap_i64]; omega
   obtain ⟨b4,A4,m4,c4,b4',A4',m4',c4',x0,x1,x2,x3,r5, -⟩:=hcost.at hcp
   have HL:Hid (∀ W,Keep (fun _=>False) w W→((W.cell? ⟨l.p,3,none⟩=some (.slice (some ⟨l.gc,0,none⟩) N N)∧W.cell? ⟨l.p,0,none⟩=some (.int .i64 n))∧(W.cell? ⟨l.gc,P*4,none⟩=some (.bool b4)∧W.cell? ⟨l.gc,P*4+1,none⟩=some (.slice A4 m4 c4))∧W.cell? ⟨l.gc,P*4+2,none⟩=some (.bool b4')∧W.cell? ⟨l.gc,P*4+3,none⟩=some (.slice A4' m4' c4'))):=fun W hW=>
    ⟨⟨cell_keep (Loc.c 3 hbox) hl id hW,cell_keep (Loc.c 0 hbox) hl id hW⟩,⟨cell_keep x0 g3 id hW,cell_keep x1 g3 id hW⟩,cell_keep x2 g3 id hW,cell_keep x3 g3 id hW⟩
   have k0:(0:Int)≤(P:Int):=by omega
   have k1:(P:Int)<(N:Int):=by omega
   have k2:(0:Int)≤(ci:Int):=by omega
   have HKP:Hid (Rsz kk (k P)):=HS.out P (by omega)
   have HD:Hid (Rsz (kk+3) (1 - k P)):=by
    show Rsz _ _
    have h:=(rsz_int (z:=1) (by decide) (by decide)).add HKP.out.neg
    have e:((1:Int):Rat) + -k P=1 - k P:=by have:((1:Int):Rat)=1:=rfl; grind
    rw [e] at h
    exact h.mono (by omega)
   have HPR:Hid (Rsz (kk+kk+10) (((-sv:Int):Rat)*(1 - k P))):=by
    show Rsz _ _
    exact ((rsz_int (z:= -sv) (by omega) (by omega)).mul HD.out).mono (by omega)
   clear x0 x1 x2 x3 hsv hP
   go_upto_region 5 with fail
   go_cut [6] from 17 to 30 (fun v W=>∃ (g10:Nat) (b7:Bool) (A7:Option Addr) (m7 c7:Nat) (b7':Bool) (A7':Option Addr) (m7' c7':Nat),v = .pointer (some ⟨g10,0,none⟩)∧wo.heap.size≤g10∧Loc W g10 213 #[.bool b7, .slice A7 m7 c7, .bool b7', .slice A7' m7' c7']∧
    RatV W (fun b=>b<wo.heap.size) (.agg #[.bool b7, .slice A7 m7 c7, .bool b7', .slice A7' m7' c7']) (1 - k P)∧Below wo.heap.size wo W)
   case first=>
    go_wp2_with fail
    go_region_held3 (fun W=>(W.cell? ⟨l.p,3,none⟩=some (.slice (some ⟨l.gc,0,none⟩) N N)∧W.cell? ⟨l.p,0,none⟩=some (.int .i64 n))∧(W.cell? ⟨l.gc,P*4,none⟩=some (.bool b4)∧W.cell? ⟨l.gc,P*4+1,none⟩=some (.slice A4 m4 c4))∧W.cell? ⟨l.gc,P*4+2,none⟩=some (.bool b4')∧W.cell? ⟨l.gc,P*4+3,none⟩=some (.slice A4' m4' c4'))
     (exact HL.out _ kp)
     (first
      | (go_at_call 381; refine (whole_lin _ 1 (by decide) (by decide)).mono ?_; rintro e u1 ⟨v6,rfl,i6,hb6⟩; rw [show ((1:Int):Rat)=1 from rfl] at i6; obtain ⟨b6,A6,m6,c6,b6',A6',m6',c6',rfl,i6, -, -⟩:=i6.op; have y6:=hb6.size; (try simp only [zs] at y6))
      | (go_at_call 290; refine (sub_rat _ (fun _ => False) _ _ 1 (k P) (RatL.to (i6.len ((rsz_int (z := 1) (by decide) (by decide)).mono (by omega)))) (RatL.to ((r5.keep (hKF.weak (fun _ _ h => h.elim))).mono (by omega)))).mono ?_; rintro e u2 ⟨v7, rfl, i7, hb7⟩; obtain ⟨b7, A7, m7, c7, b7', A7', m7', c7', rfl, i7, -, -⟩ := i7.op; have y7 := hb7.size; (try simp only [zs] at y7); (first
        | (have h7:Loc u2 wo.heap.size 213 #[.bool false, .slice none 0 0, .bool false, .slice none 0 0]:=(made1 wo #[.bool false, .slice none 0 0, .bool false, .slice none 0 0] 213).to (w':=u2); obtain ⟨e7,g7,l7⟩:=h7.all (w':=u2))
        | (have h7:Loc u2 u1.heap.size 213 #[.bool false, .slice none 0 0, .bool false, .slice none 0 0]:=(made1 u1 #[.bool false, .slice none 0 0, .bool false, .slice none 0 0] 213).to (w':=u2); obtain ⟨e7,g7,l7⟩:=h7.all (w':=u2))
        | skip)))
    all_goals
     go_wp2_with fail
     go_meet
     first
      | (have q:=Loc.fill4 (u:= .bool b7) (v:= .slice A7 m7 c7) (x:= .bool b7') (y:= .slice A7' m7' c7') h7; exact ⟨_,_,_,_,_,_,_,_,_,rfl,by omega,q,RatV.out i7,bel⟩)
      | exact ⟨_,_,_,_,_,_,_,_,_,rfl,by omega,made1 u2 _ _,RatV.out i7,bel⟩
   case rest=>
    obtain ⟨g10,b7,A7,m7,c7,b7',A7',m7',c7',rfl,hg10,NT,i7,hB7⟩:=hcut
    obtain ⟨w7,rfl⟩:∃ w7:World,w7=wc:=⟨_,rfl⟩
    have y8:=hB7.size; (try simp only [zs] at y8)
    have q8:=NT.lt
    have hown7:Hid (∀ b,u3.ownBlock=some b→b<wo.heap.size):=fun b hb=>(hown.lt hb).1
    go_wp2_with fail
    go_region_held3 (fun W=>(W.cell? ⟨g10,0,none⟩=some (.bool b7)∧W.cell? ⟨g10,1,none⟩=some (.slice A7 m7 c7))∧W.cell? ⟨g10,2,none⟩=some (.bool b7')∧W.cell? ⟨g10,3,none⟩=some (.slice A7' m7' c7'))
     (first | exact ⟨⟨Loc.c 0 NT9,Loc.c 1 NT9⟩,Loc.c 2 NT9,Loc.c 3 NT9⟩ | exact ⟨⟨Loc.c 0 NT,Loc.c 1 NT⟩,Loc.c 2 NT,Loc.c 3 NT⟩)
     (first
      | (go_at_call 381; refine (whole_lin _ (-sv) (by omega) (by omega)).mono ?_; rintro e u8 ⟨v8,rfl,i8,hb8⟩; obtain ⟨b9,A9,m9,c9,b9',A9',m9',c9',rfl,i8, -, -⟩:=i8.op; have y10:=hb8.size; (try simp only [zs] at y10))
      | (go_at_call 293; refine (mul_rat _ (fun _=>False) _ _ ((-sv:Int):Rat) (1 - k P) (RatL.to (i8.len ((rsz_int (by omega) (by omega)).mono (show 2≤10000000 by omega)))) (RatL.to ((i7.len HD.out).mono (by omega)))).mono ?_; rintro e u9 ⟨v9,rfl,i9,hb9⟩; obtain ⟨b8,A8,m8,c8,b8',A8',m8',c8',rfl,i9, -, -⟩:=i9.op; have y11:=hb9.size; (try simp only [zs] at y11); have NTa:Loc (u9.alloc (.cells #[.bool b8, .slice A8 m8 c8, .bool b8', .slice A8' m8' c8'] 213)) g10 _ _:=Loc.to NT)
      | (refine step_pushR _ rfl _ _ rfl w.heap.size u3 rs rfl (hown.below (bel:Below wo.heap.size wo (u9.alloc (.cells #[.bool b8, .slice A8 m8 c8, .bool b8', .slice A8' m8' c8'] 213)))) _ ⟨b8,A8,m8,c8,b8',A8',m8',c8'⟩ rfl (heap_alloc_new u9 _) (by omega) (by simp only [World.size_alloc]; omega) ?_; intro g cap w9 hown9 hg9 ho9 hl9; have NT9:Loc w9 g10 _ _:=Loc.to NTa (k:=Stay.refl.grown hg9 (fun e=>by have:=hown7.out _ e; omega))))
    all_goals
     have hbo9:Below w.heap.size w (u9.alloc (.cells #[.bool b8, .slice A8 m8 c8, .bool b8', .slice A8' m8' c8'] 213)):=bel
     have hb99:Below w.heap.size w w9:=below_own hbo9 (hown.below (bel:Below wo.heap.size wo (u9.alloc (.cells #[.bool b8, .slice A8 m8 c8, .bool b8', .slice A8' m8' c8'] 213)))) hg9 (Nat.le_refl _) (by simp only [World.size_alloc]; omega)
     have hvv:ValL (kk+kk+10) (u9.alloc (.cells #[.bool b8, .slice A8 m8 c8, .bool b8', .slice A8' m8' c8'] 213)) (fun b=>u3.ownBlock=some b) rs (fun i=>((-(sg i):Int):Rat)*(1 - k (n+i))):=hv.keep (Keep.of_below (bel:Below wo.heap.size wo (u9.alloc (.cells #[.bool b8, .slice A8 m8 c8, .bool b8', .slice A8' m8' c8'] 213))))
     have hrr9:RatL (kk+kk+10) (u9.alloc (.cells #[.bool b8, .slice A8 m8 c8, .bool b8', .slice A8' m8' c8'] 213)) (fun b=>u3.ownBlock=some b) (R4.v ⟨b8,A8,m8,c8,b8',A8',m8',c8'⟩) (((-(sg rs.length):Int):Rat)*(1 - k (n+rs.length))):=by
      rw [hrl,HSV.out,HP.out]
      exact RatL.keep (RatL.weak (i9.len HPR.out) (fun b _ hb=>by have:=hown7.out b hb; show b<_; simp only [size_drew] at *; omega)) kp
     have hg3:=ValL.grow hvv hrr9 hg9 ho9
     clear hvv hrr9 hbo9 hb8 hb9 hB7 NT NTa
     go_wp2_with fail
     go_roundw
     case rel=>
      refine ⟨ci+1,rs ++ [⟨b8,A8,m8,c8,b8',A8',m8',c8'⟩],by omega,by go_num,(by rw [hrl] at hown9; exact hown9),by simp [hrl],hg3.weak (fun b _ hb=>?_),hb99⟩
      injection hb with hb
      exact hb.symm
     case measure=>simp only [intOf]; omega
  ·obtain rfl:m=ci:=by omega
   go_wp2_with fail
   go_ret
   subst hrl
   exact ⟨_,rfl,hown.nums hv (fun _ _ h=>h.elim) (fun _ _ h=>h),fun a' n' c' e=>(hown.lt (g:=a'.block) (congrArg Value.ownBlock e)).2,hB⟩

/- New of the reference. -/

/- Of the reference: Clean, Of, Sign, Neg, Mul. -/

/- Of the reference: Mul, Add, Sub, Divide, Compare. -/

/- Of the reference: Add, Sub, Divide, Compare; printed by gen_rat11.py. -/

/- rational.Sum and the reference's. -/

def RF.val (e:RF):Rat:=rv e.n1 e.xs e.n2 e.ys
theorem RatAt.on {w w':World} {a:Addr} {e:RF} (h:RatAt w (fun _=>False) a e) (ha:a.block<w.heap.size) (hB:Below w.heap.size w w'):RatAt w' (fun _=>False) a e:=by
 obtain ⟨C,c,D,d,h0,h1,h2,h3,hr⟩:=h
 have hk:Keep (fun _=>False) w w':= .of_below hB
 have key:∀ (n:Nat) (u:Value),w.cell? (a.add n)=some u→w'.cell? (a.add n)=some u:=fun n u hu=>by
  have e:(a.add n).block=a.block:=by unfold Addr.add; split <;> rfl
  have hb:=hk.block (a.add n).block (by rw [e]; exact ha) id
  unfold World.cell? at hu ⊢
  rw [hb]; exact hu
 exact ⟨C,c,D,d,key 0 _ h0,key 1 _ h1,key 2 _ h2,key 3 _ h3,hr.keep hk⟩

/- rational.Sum of a list that is read. -/

theorem sum_rsz {k n:Nat} {f:Nat→Rat} (h:∀ i,i<n→Rsz k (f i)):∀ i,i≤n→Rsz ((k+1)*i+2) (sm i f)
 | 0,_=>(rsz_int (z:=0) (by decide) (by decide)).mono (by omega)
 | i + 1, hi => by
   rw [sm_succ]
   exact ((sum_rsz h i (by omega)).add (h i (by omega))).mono (by rw [Nat.mul_add]; omega)

set_option maxHeartbeats 4000000 in
theorem sumN_any (w:World) (v:Value) (n k0:Nat) (f:Nat→Rat) (h:Nums k0 w (fun _=>False) v n f) (hn:n≤200) (hk1:1≤k0) (hk2:k0≤2000) :
 Calls Tryz.prog 385 #[v] w fun e w'=>∃ v',e = .returned v'∧RatV w' (Old w) v' (sm n f)∧Below w.heap.size w w':=by
 obtain ⟨A,cap,rfl,h,l1,l2⟩:=h.op
 have H:=Lib.hid h
 have HALL:Hid (∀ i,i<n→Rsz k0 (f i)):=h.rsz hk1
 have HSZ:Hid (∀ i,i≤n→Rsz 900000 (sm i f)):=fun i hi=>(sum_rsz HALL.out i hi).mono (by
  have h1:(k0+1)*i≤2001*200:=Nat.mul_le_mul (by omega) (by omega)
  omega)
 have L:=made1 w #[.bool false, .slice none 0 0, .bool false, .slice none 0 0] 213
 clear h
 go_enter Tryz.func385,Tryz.ntmps385
 go_wp2_with fail
 refine (zero_rat _).mono ?_
 rintro e w1 ⟨v1,rfl,i1,hb1⟩
 obtain ⟨b1,A1,m1,c1,b1',A1',m1',c1',rfl,i1, -, -⟩:=i1.op
 have y1:=hb1.size; (try simp only [zs] at y1)
 have M1:=made1 w1 #[.bool b1, .slice A1 m1 c1, .bool b1', .slice A1' m1' c1'] 213
 go_wp2_with fail
 go_loopw [9] (fun i wr=>∃ (k:Nat) (b:Bool) (A:Option Addr) (m c:Nat) (b':Bool) (A':Option Addr) (m' c':Nat),k≤n∧i = .int .i64 k∧
  Loc wr w1.heap.size 213 #[.bool b, .slice A m c, .bool b', .slice A' m' c']∧RatV wr (fun g=>g≤w.heap.size∨g=w1.heap.size) (.agg #[.bool b, .slice A m c, .bool b', .slice A' m' c']) (sm k f)∧
  Loc wr w.heap.size 213 #[.bool false, .slice none 0 0, .bool false, .slice none 0 0]∧Below w.heap.size w wr) (fun i _=>n - (intOf i).toNat)
 case atStart=>exact ⟨0,b1,A1,m1,c1,b1',A1',m1',c1',by omega,rfl,M1,RatV.out i1,L.to,bel⟩
 case round=>
  obtain ⟨k,b,A2,m,c,b',A',m',c',hk,rfl,N1,s1,NL,hB⟩:=hrel
  obtain ⟨wo,rfl⟩:∃ wo:World,wo=wr:=⟨_,rfl⟩
  clear i1 M1 L
  have y5:=hB.size; (try simp only [zs] at y5)
  have q1:=Loc.lt N1
  have q4:=Loc.lt NL
  by_cases hlt:k<n
  ·obtain ⟨a,n1,C,x1,cc,n2,D,x2,d,rfl,hab, -,g0,g1,g2,g3,r2⟩:=Nums.at (Nums.keep H.out (.of_below hB)) hlt
   replace g1:wo.cell? ⟨(a.add (k*4)).block,(a.add (k*4)).off+1,none⟩=_:=g1
   replace g2:wo.cell? ⟨(a.add (k*4)).block,(a.add (k*4)).off+2,none⟩=_:=g2
   replace g3:wo.cell? ⟨(a.add (k*4)).block,(a.add (k*4)).off+3,none⟩=_:=g3
   have kk0:(0:Int)≤(k:Int):=by omega
   have kk1:(k:Int)<(n:Int):=by omega
   have HT:Hid (sm (k+1) f=sm k f+f k):=rfl
   obtain ⟨e1,f1, -⟩:=Loc.all N1 (w':=wo.alloc (.cells #[.bool n1, .slice C x1 cc, .bool n2, .slice D x2 d] 213))
   have HR:=Lib.hid (HSZ.out k (by omega))
   go_wp2_with fail
   refine (add_rat _ (fun _=>False) _ _ (sm k f) (f k) (RatL.to ((s1.len HR.out).mono (by omega))) (RatL.to (r2.mono (by omega)))).mono ?_
   rintro e u1 ⟨v5,rfl,i5,hb5⟩
   rw [←HT.out] at i5
   obtain ⟨b5,A5,m5,c5,b5',A5',m5',c5',rfl,i5, -, -⟩:=i5.op
   have y8:=hb5.size; (try simp only [zs] at y8)
   clear e1 f1
   obtain ⟨e1,f1, -⟩:=Loc.all N1 (w':=u1)
   go_wp2_with fail
   go_roundw
   case rel=>exact ⟨k+1,b5,A5,m5,c5,b5',A5',m5',c5',by omega,by go_num,Loc.fill4 (Loc.to N1 (w':=u1)),RatV.out i5,Loc.to NL,bel⟩
   case measure=>simp only [intOf]; omega
  ·obtain rfl:k=n:=by omega
   obtain ⟨e1,f1, -⟩:=Loc.all N1 (w':=wo)
   obtain ⟨e4,f4, -⟩:=Loc.all NL (w':=wo)
   go_wp2_with fail
   refine bodyPost_ret (by simp [results,Tryz.results385,go_sem,e4,f4] <;> rfl) rfl ⟨_,rfl,RatV.out s1,bel⟩

end Go.Proofs.YtbdcjhoedhhabaaGreat

