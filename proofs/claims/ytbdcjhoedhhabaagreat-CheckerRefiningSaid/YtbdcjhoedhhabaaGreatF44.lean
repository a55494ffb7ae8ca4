/- Contracts of the functions that the statements reach, part 44. -/
import Derived.Test.YtbdcjhoedhhabaaGreatRows
import Derived.Test.YtbdcjhoedhhabaaGreatF24
import Derived.Test.YtbdcjhoedhhabaaGreatF26
import Derived.Test.YtbdcjhoedhhabaaGreatF30
import Derived.Test.YtbdcjhoedhhabaaGreatF31
import Derived.Test.YtbdcjhoedhhabaaGreatF32
import Derived.Test.YtbdcjhoedhhabaaGreatF43
set_option linter.unusedSimpArgs false
set_option linter.unusedVariables false

/- The entries of every tableau are small: Siegel's pigeonhole. -/
namespace Go.Proofs.YtbdcjhoedhhabaaGreat

def smI:Nat→(Nat→Int)→Int
 | 0,_=>0
 | m+1,f=>smI m f+f m
theorem smI_cast (f:Nat→Int):∀ m,((smI m f:Int):Rat)=sm m (fun i=>((f i:Int):Rat))
 | 0=>rfl
 | m+1=>by unfold smI; rw [sm_succ,Rat.intCast_add,smI_cast f m]
theorem smI_sub (f g:Nat→Int):∀ m,smI m (fun i=>f i - g i)=smI m f - smI m g
 | 0=>rfl
 | m+1=>by unfold smI; rw [smI_sub f g m]; dsimp only; omega
theorem smI_congr {f g:Nat→Int}:∀ {m:Nat},(∀ i,i<m→f i=g i)→smI m f=smI m g
 | 0,_=>rfl
 | m+1,h=>by unfold smI; rw [smI_congr (m:=m) (fun i hi=>h i (by omega)),h m (by omega)]
theorem smI_abs (f:Nat→Int) (A:Nat):∀ m,(∀ i,i<m→(f i).natAbs≤A)→(smI m f).natAbs≤m*A
 | 0,_=>by simp [smI]
 | m + 1, h => by
   unfold smI
   have h1:=smI_abs f A m (fun i hi=>h i (by omega))
   have h2:=h m (by omega)
   rw [Nat.add_mul]
   omega

/-- A number's digits to the base B. -/
theorem digits_inj (B:Nat) (hB:0<B):∀ (k s t:Nat),s<B ^ k→t<B ^ k→(∀ i,i<k→s / B ^ i % B=t / B ^ i % B)→s=t
 | 0,s,t,hs,ht,_=>by simp at hs ht; omega
 | k + 1, s, t, hs, ht, h => by
   have h0:=h 0 (by omega)
   simp at h0
   have hd:s / B=t / B:=digits_inj B hB k (s / B) (t / B) (by rw [Nat.pow_succ,Nat.mul_comm] at hs; exact Nat.div_lt_of_lt_mul hs) (by rw [Nat.pow_succ,Nat.mul_comm] at ht; exact Nat.div_lt_of_lt_mul ht) (fun i hi=>by
    have:=h (i+1) (by omega)
    rwa [Nat.pow_succ,Nat.mul_comm,← Nat.div_div_eq_div_mul,← Nat.div_div_eq_div_mul] at this)
   have e1:=Nat.div_add_mod s B
   have e2:=Nat.div_add_mod t B
   rw [hd,h0] at e1
   omega

theorem siegel (m a:Nat) (ha:0<a) (M:Nat→Nat→Int) (hM:∀ l,l<m→∀ i,i<m+1→(M l i).natAbs≤a) :
 ∃ z:Nat→Int,(∃ i,i<m+1∧z i ≠ 0)∧(∀ i,i<m+1→(z i).natAbs≤(2*((m+1)*a)) ^ m)∧∀ l,l<m→smI (m+1) (fun i=>M l i*z i)=0:=by
 obtain ⟨Q,hQ⟩:∃ Q,(m+1)*a=Q:=⟨_,rfl⟩
 have hQ0:0<Q:=by rw [←hQ]; exact Nat.mul_pos (by omega) ha
 obtain ⟨X,hX⟩:∃ X,(2*Q) ^ m=X:=⟨_,rfl⟩
 rw [hQ,hX]
 let x:Nat→Nat→Nat:=fun t i=>t / (X+1) ^ i % (X+1)
 have hx:∀ t i,x t i≤X:=fun t i=>by have:=Nat.mod_lt (t / (X+1) ^ i) (show 0<X+1 by omega); show t / (X+1) ^ i % (X+1)≤X; omega
 let v:Nat→Nat→Int:=fun t l=>smI (m+1) (fun i=>M l i*(x t i:Int))
 have hv:∀ t l,l<m→(v t l).natAbs≤Q*X:=fun t l hl=>by
  have:=smI_abs (fun i=>M l i*(x t i:Int)) (a*X) (m+1) (fun i hi=>by
   rw [Int.natAbs_mul,Int.natAbs_natCast]
   exact Nat.mul_le_mul (hM l hl i hi) (hx t i))
  rw [←Nat.mul_assoc,hQ] at this
  exact this
 let code:Nat→Nat:=fun t=>enc (2*(Q*X)+1) (fun l=>(v t l+(Q*X:Nat)).toNat) m
 have hd:∀ t l,l<m→(v t l+(Q*X:Nat)).toNat<2*(Q*X)+1:=fun t l hl=>by have:=hv t l hl; omega
 have hN:(2*(Q*X)+1) ^ m<(X+1) ^ (m+1):=by
  have h1:(2*(Q*X)+1) ^ m≤(2*Q*(X+1)) ^ m:=Nat.pow_le_pow_left (by rw [Nat.mul_add,Nat.mul_assoc]; omega) m
  rw [Nat.mul_pow,hX] at h1
  have h2:X*(X+1) ^ m<(X+1)*(X+1) ^ m:=Nat.mul_lt_mul_of_pos_right (by omega) (Nat.pow_pos (by omega))
  rw [Nat.pow_succ,Nat.mul_comm ((X+1) ^ m)]
  omega
 obtain ⟨s,t,hst,ht,he⟩:=pig _ code (fun t _=>enc_lt _ _ m (hd t))
 have hval:=enc_inj _ _ _ m (hd s) (hd t) he
 refine ⟨fun i=>(x s i:Int) - (x t i:Int),?_,fun i _=>by have:=hx s i; have:=hx t i; show ((x s i:Int) - (x t i:Int)).natAbs≤X; omega,fun l hl=>?_⟩
 ·refine Classical.byContradiction fun hno=>?_
  have:=digits_inj (X+1) (by omega) (m+1) s t (by omega) (by omega) (fun i hi=>by
   by_cases h:(x s i:Int) - (x t i:Int)=0
   ·have:x s i=x t i:=by omega
    exact this
   ·exact absurd ⟨i,hi,h⟩ hno)
  omega
 ·have h1:=hval l hl
  have h2:=hv s l hl
  have h3:=hv t l hl
  have h4:v s l=v t l:=by omega
  rw [smI_congr (g:=fun i=>M l i*(x s i:Int) - M l i*(x t i:Int)) (fun i _=>by rw [Int.mul_sub]),smI_sub]
  show v s l - v t l=0
  omega

/-- The start's rows, each times a positive integer, are integers of at most a. -/
def Whole (m n a:Nat) (T0:Nat→Nat→Rat):Prop:=∃ (D:Nat→Nat) (I:Nat→Nat→Int),∀ l,l<m→0<D l∧∀ c,c≤n+m→(I l c).natAbs≤a∧((D l:Nat):Rat)*T0 l c=((I l c:Int):Rat)

theorem Good.size {m n a k:Nat} {T0 T:Nat→Nat→Rat} {b:Nat→Nat} (G:Good m n T0 T b) (ha:0<a) (hW:Whole m n a T0) (hk:(2*((m+1)*a)) ^ m<4294967296 ^ k) (hk1:1≤k) :
 ∀ i,i<m→∀ c,c≤n+m→Rsz k (T i c):=fun i hi c hc=>by
 obtain ⟨D,I,hDI⟩:=hW
 obtain ⟨z,⟨i0,hi0,hz0⟩,hz,hs⟩:=siegel m a ha (fun l i=>I l (if i=m then c else b i)) (fun l hl i hi=>by
  by_cases him:i=m
  ·rw [if_pos him]; exact ((hDI l hl).2 c hc).1
  ·rw [if_neg him]; exact ((hDI l hl).2 (b i) (by have:=G.lt i (by omega); omega)).1)
 have h0:∀ l,l<m→sm m (fun i=>T0 l (b i)*(z i:Rat))+T0 l c*(z m:Rat)=0:=fun l hl=>by
  have h1:=congrArg (fun q:Int=>(q:Rat)) (hs l hl)
  rw [smI_cast,sm_succ] at h1
  have hD:=(hDI l hl).1
  have e:sm m (fun i=>((I l (if i=m then c else b i)*z i:Int):Rat))=(D l:Rat)*sm m (fun i=>T0 l (b i)*(z i:Rat)):=by
   rw [←sm_mul]
   refine sm_congr (fun i hi=>?_)
   rw [if_neg (by omega),Rat.intCast_mul,← ((hDI l hl).2 (b i) (by have:=G.lt i hi; omega)).2]; grind
  rw [e,if_pos rfl,Rat.intCast_mul,← ((hDI l hl).2 c hc).2] at h1
  have hD2:(D l:Rat) ≠ 0:=by
   intro h
   have:((D l:Nat):Rat)=((0:Nat):Rat):=h
   rw [Rat.natCast_inj] at this
   omega
  have h3:(D l:Rat)*(sm m (fun i=>T0 l (b i)*(z i:Rat))+T0 l c*(z m:Rat))=0:=by
   have:((0:Int):Rat)=0:=rfl
   grind
  rcases Rat.mul_eq_zero.1 h3 with h | h
  ·exact absurd h hD2
  ·exact h
 have hrow:∀ k,k<m→(z k:Rat)+T k c*(z m:Rat)=0:=fun k hk=>by
  have e1:sm m (fun l=>T k (n+l)*(sm m (fun i=>T0 l (b i)*(z i:Rat))+T0 l c*(z m:Rat)))=0:=sm_zero (fun l hl=>by rw [h0 l hl]; grind)
  rw [sm_congr (g:=fun l=>sm m (fun i=>T k (n+l)*(T0 l (b i)*(z i:Rat)))+(z m:Rat)*(T k (n+l)*T0 l c)) (fun l _=>by rw [sm_mul]; grind),sm_add,sm_mul,← G.fw k hk c hc,sm_swap,
   sm_congr (f:=fun l=>sm m fun i=>T k (n+i)*(T0 i (b l)*(z l:Rat))) (g:=fun i=>T k (b i)*(z i:Rat)) (fun i hi=>by
    rw [G.fw k hk (b i) (by have:=G.lt i hi; omega),sm_congr (g:=fun l=>(z i:Rat)*(T k (n+l)*T0 l (b i))) (fun l _=>by grind),sm_mul]; grind),
   sm_one _ k hk (fun i hi hne=>by rw [G.id i hi k hk,if_neg (fun e=>hne e.symm)]; grind),G.id k hk k hk,if_pos rfl] at e1
  grind
 have hzm:z m ≠ 0:=fun h=>by
  have hz':(z m:Rat)=0:=by rw [h]; rfl
  by_cases him:i0=m
  ·rw [him] at hz0; exact hz0 h
  ·have:=hrow i0 (by omega)
   rw [hz'] at this
   have h2:((z i0:Int):Rat)=((0:Int):Rat):=by
    have:((0:Int):Rat)=0:=rfl
    grind
   rw [Rat.intCast_inj] at h2
   exact hz0 h2
 have hq:T i c=Rat.divInt (-z i) (z m):=by
  have h1:=hrow i hi
  have h2:(z m:Rat) ≠ 0:=fun h=>hzm (by
   have:((z m:Int):Rat)=((0:Int):Rat):=h
   rwa [Rat.intCast_inj] at this)
  rw [Rat.divInt_eq_div,Rat.intCast_neg]
  grind
 rw [hq]
 exact divInt_Rsz hk1 (dig_len_le (by rw [Int.natAbs_neg]; exact Nat.lt_of_le_of_lt (hz i (by omega)) hk)) (dig_len_le (Nat.lt_of_le_of_lt (hz m (by omega)) hk))

/- The first tableau: its values, and the sizes of all that follow. -/

/-- The sign of an equation. -/
def sgn (Bv:Nat→Rat) (l:Nat):Int:=if Bv l<0 then -1 else 1
theorem sgn_or (Bv:Nat→Rat) (l:Nat):sgn Bv l=1∨sgn Bv l = -1:=by unfold sgn; split <;> simp
/-- The first tableau. -/
def t0 (m n:Nat) (F:Nat→Nat→Rat) (Bv:Nat→Rat):Nat→Nat→Rat:=fun l c=>if c<n then ((sgn Bv l:Int):Rat)*F l c else if c=n+m then ((sgn Bv l:Int):Rat)*Bv l else if c=n+l then 1 else 0
/-- Its cost, after some rows. -/
def c0 (m n:Nat) (F:Nat→Nat→Rat) (Bv:Nat→Rat) (r:Nat):Nat→Rat:=fun c=>if c<n∨c=n+m then -sm r (fun i=>t0 m n F Bv i c) else 0

section
variable {m n k j r:Nat} {F:Nat→Nat→Rat} {Bv d:Nat→Rat}
theorem t0_unit {i l:Nat} (hi:i<m):t0 m n F Bv l (n+i)=if l=i then 1 else 0:=by
 unfold t0
 rw [if_neg (by omega),if_neg (by omega)]
 by_cases h:l=i
 ·rw [if_pos h,if_pos (by omega)]
 ·rw [if_neg h,if_neg (by omega)]
theorem t0_good:Good m n (t0 m n F Bv) (t0 m n F Bv) (fun i=>n+i):=Good.start (fun _ hi _ _=>t0_unit hi)
theorem t0_right (l:Nat):t0 m n F Bv l (n+m)=((sgn Bv l:Int):Rat)*Bv l:=by unfold t0; rw [if_neg (by omega),if_pos rfl]
theorem t0_left {l c:Nat} (hc:c<n):t0 m n F Bv l c=((sgn Bv l:Int):Rat)*F l c:=by unfold t0; rw [if_pos hc]
theorem t0_feas:Feas m n ⟨t0 m n F Bv,fun i=>n+i⟩:=fun i hi=>by
 show 0≤t0 m n F Bv i (n+m)
 rw [t0_right]
 unfold sgn
 split
 ·rw [show ((-1:Int):Rat) = -1 from rfl]; grind
 ·rw [show ((1:Int):Rat)=1 from rfl]; grind
theorem c0_zero (c:Nat):c0 m n F Bv 0 c=0:=by unfold c0 sm; split <;> grind
theorem c0_succ (r c:Nat):c0 m n F Bv (r+1) c=if c<n∨c=n+m then c0 m n F Bv r c - t0 m n F Bv r c else c0 m n F Bv r c:=by
 unfold c0
 by_cases h:c<n∨c=n+m
 ·rw [if_pos h,if_pos h,if_pos h,sm_succ]; grind
 ·rw [if_neg h,if_neg h,if_neg h]
theorem c0_rho {c:Nat} (hc:c≤n+m):rho m (d1 m n) (t0 m n F Bv) (fun i=>n+i) c=c0 m n F Bv m c:=by
 unfold rho c0
 rw [sm_congr (g:=fun i=>t0 m n F Bv i c) (fun i hi=>by
  have:d1 m n (n+i)=1:=by unfold d1; rw [if_pos (by omega)]
  rw [this]; grind)]
 by_cases h:c<n∨c=n+m
 ·have:d1 m n c=0:=by unfold d1; rw [if_neg (by omega)]
  rw [if_pos h,this]; grind
 ·have h2:d1 m n c=1:=by unfold d1; rw [if_pos (by omega)]
  rw [if_neg h,h2,sm_one _ (c - n) (by omega) (fun i hi hne=>by
   have e:c=n+(c - n):=by omega
   rw [e,t0_unit (by omega),if_neg hne])]
  have e:c=n+(c - n):=by omega
  have h3:=t0_unit (m:=m) (n:=n) (F:=F) (Bv:=Bv) (i:=c - n) (l:=c - n) (by omega)
  rw [←e,if_pos rfl] at h3
  rw [h3]; grind

theorem Rsz.lt {q:Rat} (h:Rsz k q):q.num.natAbs<4294967296 ^ k∧q.den<4294967296 ^ k:=by
 have key:∀ x:Nat,(dig x).length≤k→x<4294967296 ^ k:=fun x hx=>by
  have h1:=val_lt (can_dig x).1
  rw [val_dig] at h1
  exact Nat.lt_of_lt_of_le h1 (Nat.pow_le_pow_right (by decide) hx)
 exact ⟨key _ h.1,by have:=key _ h.2; simpa using this⟩
theorem rsz_sgn {q:Rat} (l:Nat) (h:Rsz k q):Rsz k (((sgn Bv l:Int):Rat)*q):=by
 unfold sgn
 split
 ·rw [show ((-1:Int):Rat)*q = -q by rw [show ((-1:Int):Rat) = -1 from rfl]; grind]; exact h.neg
 ·rw [show ((1:Int):Rat)*q=q by rw [show ((1:Int):Rat)=1 from rfl]; grind]; exact h
theorem prc_size {K L:Nat} {S:St} (hT:∀ r,r<m→∀ c,c≤n+m→Rsz K (S.T r c)) (hb:∀ i,i<m→S.b i<n+m) (hd:∀ c,c≤n+m→Rsz j (d c)) (hj:2≤j) (hL:j+(j+K+1)*m+3≤L):∀ r,r≤m→∀ c,c≤n+m→Rsz L (d c - sm r (fun i=>d (S.b i)*S.T i c)):=by
 have hs:∀ r,r≤m→∀ c,c≤n+m→Rsz ((j+K+1)*r+2) (sm r (fun i=>d (S.b i)*S.T i c)):=fun r=>by
  induction r with
  | zero=>intro _ c _; exact rsz_int (z:=0) (by decide) (by decide)
  | succ r ih =>
    intro hr c hc
    rw [sm_succ]
    exact ((ih (by omega) c hc).add ((hd _ (by have:=hb r (by omega); omega)).mul (hT r (by omega) c hc))).mono (by rw [Nat.mul_add]; omega)
 intro r hr c hc
 have h:=(hd c hc).add (hs r hr c hc).neg
 rw [show d c + -sm r (fun i=>d (S.b i)*S.T i c)=d c - sm r (fun i=>d (S.b i)*S.T i c) by grind] at h
 refine h.mono ?_
 have:=Nat.mul_le_mul_left (j+K+1) hr
 omega
theorem rsz_d1 (c:Nat):Rsz 2 (d1 m n c):=by
 unfold d1
 split
 ·exact rsz_int (z:=1) (by decide) (by decide)
 ·exact rsz_int (z:=0) (by decide) (by decide)
end
end Go.Proofs.YtbdcjhoedhhabaaGreat

/- The first tableau while it grows. -/
namespace Go.Proofs.YtbdcjhoedhhabaaGreat
open Go.RowKit

def sgl (Bv:Nat→Rat) (c:Nat):List Value:=(List.range c).map fun i=> .int .i64 (sgn Bv i)
def rwl (G:Nat→Nat) (N c:Nat):List Value:=(List.range c).map fun i=> .slice (some ⟨G i,0,none⟩) N N
def bsl (n c:Nat):List Value:=(List.range c).map fun i=> .int .i64 ((n+i:Nat):Int)
section
variable {Bv:Nat→Rat} {G G':Nat→Nat} {N n c i:Nat}
theorem sgl_len:(sgl Bv c).length=c:=by simp [sgl]
theorem rwl_len:(rwl G N c).length=c:=by simp [rwl]
theorem bsl_len:(bsl n c).length=c:=by simp [bsl]
theorem sgl_succ:sgl Bv (c+1)=sgl Bv c ++ [.int .i64 (sgn Bv c)]:=by simp [sgl,List.range_succ]
theorem rwl_succ:rwl G N (c+1)=rwl G N c ++ [.slice (some ⟨G c,0,none⟩) N N]:=by simp [rwl,List.range_succ]
theorem bsl_succ:bsl n (c+1)=bsl n c ++ [.int .i64 ((n+c:Nat):Int)]:=by simp [bsl,List.range_succ]
theorem sgl_get (h:i<c):(sgl Bv c)[i]? = some (.int .i64 (sgn Bv i)):=by simp [sgl,h]
theorem rwl_get (h:i<c):(rwl G N c)[i]? = some (.slice (some ⟨G i,0,none⟩) N N):=by simp [rwl,h]
theorem bsl_get (h:i<c):(bsl n c)[i]? = some (.int .i64 ((n+i:Nat):Int)):=by simp [bsl,h]
theorem rwl_congr (h:∀ i,i<c→G' i=G i):rwl G' N c=rwl G N c:=by
 unfold rwl
 refine List.map_congr_left (fun i hi=>?_)
 rw [h i (by simpa using hi)]
end

/-- The tableau with c rows; K tells what each block is. -/
structure Beg (B:Nat) (w:World) (m n c:Nat) (F:Nat→Nat→Rat) (Bv:Nat→Rat) (gp gc:Nat) (vS vR vB:Value) (G K:Nat→Nat):Prop where
 box:Loc w gp 444 #[.int .i64 n,vS,vR, .slice (some ⟨gc,0,none⟩) (n+m+1) (n+m+1),vB]
 oS:Own1 w B 3 vS (sgl Bv c)
 oR:Own1 w B 71 vR (rwl G (n+m+1) c)
 oB:Own1 w B 3 vB (bsl n c)
 rows:∀ i,i<c→Rw w (fun b=>K b ≠ 0) (G i) (n+m+1) (t0 m n F Bv i)
 cost:Rc w (fun b=>K b ≠ 0) gc (n+m+1) (c0 m n F Bv c)
 kp:K gp=1
 kc:K gc=2
 kS:∀ g,vS.ownBlock=some g→K g=3
 kR:∀ g,vR.ownBlock=some g→K g=4
 kB:∀ g,vB.ownBlock=some g→K g=5
 kG:∀ i,i<c→K (G i)=6+i
 lt:∀ b,K b ≠ 0→B≤b∧b<w.heap.size

section
variable {B m n c gp gc:Nat} {w w4 w5:World} {F:Nat→Nat→Rat} {Bv:Nat→Rat} {vS vR vB:Value} {G K:Nat→Nat}
theorem Beg.next (h:Beg B w m n c F Bv gp gc vS vR vB G K) {gRow gS gR gB capS capR capB:Nat}
 (h4:Keep (fun b=>b=gc) w w4) (hB:B≤w.heap.size) (hg:w.heap.size≤gRow)
 (row:Rw w4 (fun b=>b=gRow∨K b ≠ 0) gRow (n+m+1) (t0 m n F Bv c)) (cost:Rc w4 (fun b=>b=gRow∨K b ≠ 0) gc (n+m+1) (c0 m n F Bv (c+1)))
 (h5:Keep (fun b=>b=gp∨vS.ownBlock=some b∨vR.ownBlock=some b∨vB.ownBlock=some b) w4 w5)
 (hR:vR.ownBlock=some gR∨w4.heap.size≤gR) (hS:vS.ownBlock=some gS∨w4.heap.size≤gS) (hBb:vB.ownBlock=some gB∨w4.heap.size≤gB) (dRS:gR ≠ gS) (dRB:gR ≠ gB) (dSB:gS ≠ gB)
 (lR:gR<w5.heap.size) (lS:gS<w5.heap.size) (lB:gB<w5.heap.size)
 (box:Loc w5 gp 444 #[.int .i64 n, .slice (some ⟨gS,0,none⟩) (c+1) capS, .slice (some ⟨gR,0,none⟩) (c+1) capR, .slice (some ⟨gc,0,none⟩) (n+m+1) (n+m+1), .slice (some ⟨gB,0,none⟩) (c+1) capB])
 (oS:Own1 w5 B 3 (.slice (some ⟨gS,0,none⟩) (c+1) capS) (sgl Bv c ++ [.int .i64 (sgn Bv c)]))
 (oR:Own1 w5 B 71 (.slice (some ⟨gR,0,none⟩) (c+1) capR) (rwl G (n+m+1) c ++ [.slice (some ⟨gRow,0,none⟩) (n+m+1) (n+m+1)]))
 (oB:Own1 w5 B 3 (.slice (some ⟨gB,0,none⟩) (c+1) capB) (bsl n c ++ [.int .i64 ((n+c:Nat):Int)])) :
 ∃ G' K',Beg B w5 m n (c+1) F Bv gp gc (.slice (some ⟨gS,0,none⟩) (c+1) capS) (.slice (some ⟨gR,0,none⟩) (c+1) capR) (.slice (some ⟨gB,0,none⟩) (c+1) capB) G' K':=by
 have s4:=h4.size
 have s5:=h5.size
 have lrow:=row.lt
 have lcost:=cost.lt
 have hgp:=h.lt gp (by rw [h.kp]; decide)
 have hgc:=h.lt gc (by rw [h.kc]; decide)
 have eR:K gR=4∧gR<w.heap.size∨w4.heap.size≤gR:=hR.imp (fun e=>⟨h.kR _ e,(h.oR.lt e).1⟩) id
 have eS:K gS=3∧gS<w.heap.size∨w4.heap.size≤gS:=hS.imp (fun e=>⟨h.kS _ e,(h.oS.lt e).1⟩) id
 have eB:K gB=5∧gB<w.heap.size∨w4.heap.size≤gB:=hBb.imp (fun e=>⟨h.kB _ e,(h.oB.lt e).1⟩) id
 have kpp:=h.kp
 have kcc:=h.kc
 have hne:∀ {a b:Nat},K a ≠ K b→a ≠ b:=fun h e=>h (by rw [e])
 have dS:gS ≠ gRow:=by omega
 have dR:gR ≠ gRow:=by omega
 have dB:gB ≠ gRow:=by omega
 -- a block of another kind is none of the lists'
 have other:∀ b,b<w.heap.size→K b ≠ 3→K b ≠ 4→K b ≠ 5→b ≠ gS∧b ≠ gR∧b ≠ gB∧b ≠ gRow:=fun b hb h3 h4 h5=>by
  refine ⟨?_,?_,?_,by omega⟩
  ·rcases eS with ⟨k1,l1⟩ | l1
   ·exact hne (by omega)
   ·omega
  ·rcases eR with ⟨k1,l1⟩ | l1
   ·exact hne (by omega)
   ·omega
  ·rcases eB with ⟨k1,l1⟩ | l1
   ·exact hne (by omega)
   ·omega
 obtain ⟨K',hK'⟩:∃ K':Nat→Nat,K'=fun b=>if b=gRow then 6+c else if b=gS then 3 else if b=gR then 4 else if b=gB then 5 else K b:=⟨_,rfl⟩
 have kRow:K' gRow=6+c:=by rw [hK']; simp
 have kS:K' gS=3:=by rw [hK']; simp [dS]
 have kR:K' gR=4:=by rw [hK']; simp [dR,dRS]
 have kB:K' gB=5:=by rw [hK']; simp [dB,dSB.symm,dRB.symm]
 have kO:∀ b,b<w.heap.size→K b ≠ 3→K b ≠ 4→K b ≠ 5→K' b=K b:=fun b hb h3 h4 h5=>by
  obtain ⟨d1,d2,d3,d4⟩:=other b hb h3 h4 h5
  rw [hK']; simp [d1,d2,d3,d4]
 have kX:∀ b,K' b ≠ 0→b=gRow∨b=gS∨b=gR∨b=gB∨K b ≠ 0:=fun b hb=>by
  rw [hK'] at hb
  by_cases d1:b=gRow
  ·exact .inl d1
  by_cases d2:b=gS
  ·exact .inr (.inl d2)
  by_cases d3:b=gR
  ·exact .inr (.inr (.inl d3))
  by_cases d4:b=gB
  ·exact .inr (.inr (.inr (.inl d4)))
  simp [d1,d2,d3,d4] at hb
  exact .inr (.inr (.inr (.inr hb)))
 have kX4:∀ b,b<w4.heap.size→K' b ≠ 0→b=gRow∨K b ≠ 0:=fun b hb hk=>by
  rcases kX b hk with e | e | e | e | e
  ·exact .inl e
  ·right; rcases eS with ⟨k1,l1⟩ | l1
   ·rw [e]; omega
   ·omega
  ·right; rcases eR with ⟨k1,l1⟩ | l1
   ·rw [e]; omega
   ·omega
  ·right; rcases eB with ⟨k1,l1⟩ | l1
   ·rw [e]; omega
   ·omega
  ·exact .inr e
 have kX0:∀ b,b<w.heap.size→K' b ≠ 0→K b ≠ 0:=fun b hb hk=>by
  rcases kX4 b (by omega) hk with e | e
  ·omega
  ·exact e
 have kgp:K' gp=1:=by rw [kO gp hgp.2 (by omega) (by omega) (by omega)]; exact h.kp
 have kgc:K' gc=2:=by rw [kO gc hgc.2 (by omega) (by omega) (by omega)]; exact h.kc
 have t5:Keep (fun b=>K' b ≠ 0) w4 w5:=h5.weak (fun b _ hb=>by
  rcases hb with e | e | e | e
  ·rw [e,kgp]; decide
  ·have:=h.kS b e
   have hl:=(h.oS.lt e).1
   by_cases hc:b=gS
   ·rw [hc,kS]; decide
   ·by_cases hz:K' b=0
    ·exfalso
     have d2 : b ≠ gR := by rcases eR with ⟨k1, l1⟩ | l1
                            ·exact hne (by omega)
                            ·omega
     have d3 : b ≠ gB := by rcases eB with ⟨k1, l1⟩ | l1
                            ·exact hne (by omega)
                            ·omega
     rw [hK'] at hz
     simp [hc,d2,d3,show b ≠ gRow by omega,this] at hz
    ·exact hz
  ·have:=h.kR b e
   have hl:=(h.oR.lt e).1
   by_cases hc:b=gR
   ·rw [hc,kR]; decide
   ·by_cases hz:K' b=0
    ·exfalso
     have d2 : b ≠ gS := by rcases eS with ⟨k1, l1⟩ | l1
                            ·exact hne (by omega)
                            ·omega
     have d3 : b ≠ gB := by rcases eB with ⟨k1, l1⟩ | l1
                            ·exact hne (by omega)
                            ·omega
     rw [hK'] at hz
     simp [hc,d2,d3,show b ≠ gRow by omega,this] at hz
    ·exact hz
  ·have:=h.kB b e
   have hl:=(h.oB.lt e).1
   by_cases hc:b=gB
   ·rw [hc,kB]; decide
   ·by_cases hz:K' b=0
    ·exfalso
     have d2 : b ≠ gS := by rcases eS with ⟨k1, l1⟩ | l1
                            ·exact hne (by omega)
                            ·omega
     have d3 : b ≠ gR := by rcases eR with ⟨k1, l1⟩ | l1
                            ·exact hne (by omega)
                            ·omega
     rw [hK'] at hz
     simp [hc,d2,d3,show b ≠ gRow by omega,this] at hz
    ·exact hz)
 have t4:Keep (fun b=>K' b ≠ 0) w w4:=h4.weak (fun b _ hb=>by rw [show b=gc from hb,kgc]; decide)
 -- what no store reaches
 have far5:∀ g,g ≠ gp→(g<w.heap.size→K g ≠ 3∧K g ≠ 4∧K g ≠ 5)→¬ (g=gp∨vS.ownBlock=some g∨vR.ownBlock=some g∨vB.ownBlock=some g):=fun g hp hk e=>by
  rcases e with e | e | e | e
  ·exact hp e
  ·exact (hk (h.oS.lt e).1).1 (h.kS _ e)
  ·exact (hk (h.oR.lt e).1).2.1 (h.kR _ e)
  ·exact (hk (h.oB.lt e).1).2.2 (h.kB _ e)
 refine ⟨fun i=>if i=c then gRow else G i,K',⟨box,by rw [sgl_succ]; exact oS,?_,by rw [bsl_succ]; exact oB,fun i hi=>?_,?_,kgp,kgc,fun g hg=>by injection hg with hg; rw [←hg]; exact kS,fun g hg=>by injection hg with hg; rw [←hg]; exact kR,fun g hg=>by injection hg with hg; rw [←hg]; exact kB,fun i hi=>?_,fun b hb=>?_⟩⟩
 ·rw [rwl_succ,if_pos rfl,rwl_congr (G:=G) (fun i hi=>if_neg (by omega))]; exact oR
 ·by_cases hic:i=c
  ·subst hic
   rw [if_pos rfl]
   obtain ⟨rs,a,b,v⟩:=row
   exact Rw.keep (X:=fun b=>K' b ≠ 0) ⟨rs,a,b,v.weak kX4⟩ t5 h5 (far5 gRow (by omega) (fun hl=>by omega))
  ·rw [if_neg hic]
   have hG:=h.kG i (by omega)
   have hlG:=h.lt (G i) (by omega)
   obtain ⟨rs,a,b,v⟩:=h.rows i (by omega)
   have r4:Rw w4 (fun b=>K' b ≠ 0) (G i) (n+m+1) (t0 m n F Bv i):=Rw.keep (X:=fun b=>K' b ≠ 0) ⟨rs,a,b,v.weak kX0⟩ t4 h4 (hne (by omega))
   exact r4.keep t5 h5 (far5 _ (hne (by omega)) (fun _=>by omega))
 ·obtain ⟨rs,a,b,v⟩:=cost
  exact Rc.keep (X:=fun b=>K' b ≠ 0) ⟨rs,a,b,v.weak kX4⟩ t5 h5 (far5 gc (hne (by omega)) (fun _=>by omega))
 ·by_cases hic:i=c
  ·subst hic; rw [if_pos rfl]; exact kRow
  ·rw [if_neg hic]
   have hG:=h.kG i (by omega)
   rw [kO (G i) (h.lt (G i) (by omega)).2 (by omega) (by omega) (by omega)]; exact hG
 ·have bS : B ≤ gS := by rcases hS with e | e
                         ·exact (h.oS.lt e).2
                         ·omega
  have bR : B ≤ gR := by rcases hR with e | e
                         ·exact (h.oR.lt e).2
                         ·omega
  have bB : B ≤ gB := by rcases hBb with e | e
                         ·exact (h.oB.lt e).2
                         ·omega
  rcases kX b hb with e | e | e | e | e
  ·omega
  ·omega
  ·omega
  ·omega
  ·have:=h.lt b e; omega

/-- The tableau with all its rows. -/
theorem Beg.done (h:Beg B w m n m F Bv gp gc vS vR vB G K) (hm:1≤m):∃ l:Lay,l.p=gp∧Tab w l m n ⟨t0 m n F Bv,fun i=>n+i⟩ (c0 m n F Bv m) (sgn Bv)∧∀ b,l.X m b→B≤b:=by
 have hS:=h.oS.op
 have hR:=h.oR.op
 have hB:=h.oB.op
 rw [sgl_len] at hS
 rw [rwl_len] at hR
 rw [bsl_len] at hB
 rcases hS with ⟨-,e⟩ | ⟨gS,cS,uS,rfl,bS,lS,LS,vS⟩
 ·exfalso; have:=congrArg List.length e; rw [sgl_len] at this; simp at this; omega
 rcases hR with ⟨-,e⟩ | ⟨gR,cR,uR,rfl,bR,lR,LR,vR⟩
 ·exfalso; have:=congrArg List.length e; rw [rwl_len] at this; simp at this; omega
 rcases hB with ⟨-,e⟩ | ⟨gB,cB,uB,rfl,bB,lB,LB,vB⟩
 ·exfalso; have:=congrArg List.length e; rw [bsl_len] at this; simp at this; omega
 have kS:=h.kS gS rfl
 have kR:=h.kR gR rfl
 have kB:=h.kB gB rfl
 have kp:=h.kp
 have kc:=h.kc
 have kG:=h.kG
 have hne:∀ {a b:Nat},K a ≠ K b→a ≠ b:=fun h e=>h (by rw [e])
 have hX:∀ b,(⟨gp,gS,gR,gc,gB,G⟩:Lay).X m b→K b ≠ 0:=fun b hb=>by
  rcases hb with e | e | e | e | e | ⟨i,hi,e⟩
  ·rw [e]; show K gp ≠ 0; omega
  ·rw [e]; show K gS ≠ 0; omega
  ·rw [e]; show K gR ≠ 0; omega
  ·rw [e]; show K gc ≠ 0; omega
  ·rw [e]; show K gB ≠ 0; omega
  ·rw [e]; show K (G i) ≠ 0; have:=kG i hi; omega
 refine ⟨⟨gp,gS,gR,gc,gB,G⟩,rfl,⟨⟨⟨cS,cR,cB,h.box,lS,lR,lB⟩,⟨uS,LS,fun i hi=>vS _ _ (sgl_get hi)⟩,⟨uR,LR,fun i hi=>vR _ _ (rwl_get hi)⟩⟩,fun i hi=>?_,?_,⟨uB,LB,fun i hi=>vB _ _ (bsl_get hi)⟩,⟨⟨hne (by dsimp only; omega),hne (by dsimp only; omega),hne (by dsimp only; omega),hne (by dsimp only; omega)⟩,⟨hne (by dsimp only; omega),hne (by dsimp only; omega),hne (by dsimp only; omega)⟩,⟨hne (by dsimp only; omega),hne (by dsimp only; omega),hne (by dsimp only; omega)⟩,fun i hi=>?_,fun i hi k hk hik=>?_⟩⟩,fun b hb=>(h.lt b (hX b hb)).1⟩
 ·obtain ⟨rs,a,b,v⟩:=h.rows i hi
  exact ⟨rs,a,b,v.weak (fun b _ hb=>hX b hb)⟩
 ·obtain ⟨rs,a,b,v⟩:=h.cost
  exact ⟨rs,a,b,v.weak (fun b _ hb=>hX b hb)⟩
 ·have:=kG i hi
  exact ⟨hne (by dsimp only; omega),hne (by dsimp only; omega),hne (by dsimp only; omega),hne (by dsimp only; omega),hne (by dsimp only; omega)⟩
 ·have h1:=kG i hi
  have h2:=kG k hk
  exact hne (by dsimp only; omega)
end

/- Three lists that each grow by one element, in whatever order their elements are laid. -/

/-- w4: where the lists stood at first; W: the world at hand. -/
structure Trip (w4 W:World) (B:Nat) (vS0 vR0 vB0 vS vR vB:Value) (uS uR uB:List Value):Prop where
 oS:Own1 W B 3 vS uS
 oR:Own1 W B 71 vR uR
 oB:Own1 W B 3 vB uB
 aS:∀ g,vS.ownBlock=some g→vS0.ownBlock=some g∨w4.heap.size≤g
 aR:∀ g,vR.ownBlock=some g→vR0.ownBlock=some g∨w4.heap.size≤g
 aB:∀ g,vB.ownBlock=some g→vB0.ownBlock=some g∨w4.heap.size≤g
 dRS:∀ g,vR.ownBlock=some g→vS.ownBlock ≠ some g
 dRB:∀ g,vR.ownBlock=some g→vB.ownBlock ≠ some g
 dSB:∀ g,vS.ownBlock=some g→vB.ownBlock ≠ some g
 lS:∀ g,vS0.ownBlock=some g→g<w4.heap.size
 lR:∀ g,vR0.ownBlock=some g→g<w4.heap.size
 lB:∀ g,vB0.ownBlock=some g→g<w4.heap.size
 keep:Keep (fun b=>vS0.ownBlock=some b∨vR0.ownBlock=some b∨vB0.ownBlock=some b) w4 W
 bl:Below B w4 W
 lo:B≤w4.heap.size

section
variable {w4 W W':World} {B gp g cap n gb:Nat} {vS0 vR0 vB0 vS vR vB u:Value} {uS uR uB:List Value} {t:TypeId} {cs:Array Value}
theorem Trip.alloc (T:Trip w4 W B vS0 vR0 vB0 vS vR vB uS uR uB) (o:Obj):Trip w4 (W.alloc o) B vS0 vR0 vB0 vS vR vB uS uR uB:=
 ⟨T.oS.below (below1 _ _),T.oR.below (below1 _ _),T.oB.below (below1 _ _),T.aS,T.aR,T.aB,T.dRS,T.dRB,T.dSB,T.lS,T.lR,T.lB,T.keep.alloc o,T.bl.alloc (Nat.le_trans T.lo T.keep.size) o,T.lo⟩
theorem Trip.pushS (T:Trip w4 W B vS0 vR0 vB0 vS vR vB uS uR uB) (h1:Own1 W' B 3 (.slice (some ⟨g,0,none⟩) n cap) (uS ++ [u])) (h2:W.grownBy W' vS.ownBlock) (h3:vS.ownBlock=some g∨g=W.heap.size) :
 Trip w4 W' B vS0 vR0 vB0 (.slice (some ⟨g,0,none⟩) n cap) vR vB (uS ++ [u]) uR uB:=by
 have hk:Keep (fun b=>vS.ownBlock=some b) W W':=(Keep.refl _ W).grown h2 (fun g hg=> .inl hg)
 have hs:=T.keep.size
 refine ⟨h1,T.oR.keep hk (fun g hg=>T.dRS g hg),T.oB.keep hk (fun g hg e=>T.dSB g e hg),fun g' hg'=>?_,T.aR,T.aB,fun g' hg' e=>?_,T.dRB,fun g' hg' e=>?_,T.lS,T.lR,T.lB,T.keep.grown h2 (fun g hg=>?_),T.bl.grown h2 (Nat.le_trans T.lo hs) (fun g hg=>(T.oS.lt hg).2),T.lo⟩
 ·injection hg' with hg'; subst hg'
  rcases h3 with h3 | h3
  ·exact T.aS _ h3
  ·exact .inr (by show _≤g; omega)
 ·injection e with e; have e:g=g':=e; subst e
  rcases h3 with h3 | h3
  ·exact T.dRS _ hg' h3
  ·have:=(T.oR.lt hg').1; omega
 ·injection hg' with hg'; have hg':g=g':=hg'; subst hg'
  rcases h3 with h3 | h3
  ·exact T.dSB _ h3 e
  ·have:=(T.oB.lt e).1; omega
 ·rcases T.aS g hg with h | h
  ·exact .inl (.inl h)
  ·exact .inr h
theorem Trip.pushR (T:Trip w4 W B vS0 vR0 vB0 vS vR vB uS uR uB) (h1:Own1 W' B 71 (.slice (some ⟨g,0,none⟩) n cap) (uR ++ [u])) (h2:W.grownBy W' vR.ownBlock) (h3:vR.ownBlock=some g∨g=W.heap.size) :
 Trip w4 W' B vS0 vR0 vB0 vS (.slice (some ⟨g,0,none⟩) n cap) vB uS (uR ++ [u]) uB:=by
 have hk:Keep (fun b=>vR.ownBlock=some b) W W':=(Keep.refl _ W).grown h2 (fun g hg=> .inl hg)
 have hs:=T.keep.size
 refine ⟨T.oS.keep hk (fun g hg e=>T.dRS g e hg),h1,T.oB.keep hk (fun g hg e=>T.dRB g e hg),T.aS,fun g' hg'=>?_,T.aB,fun g' hg' e=>?_,fun g' hg' e=>?_,T.dSB,T.lS,T.lR,T.lB,T.keep.grown h2 (fun g hg=>?_),T.bl.grown h2 (Nat.le_trans T.lo hs) (fun g hg=>(T.oR.lt hg).2),T.lo⟩
 ·injection hg' with hg'; subst hg'
  rcases h3 with h3 | h3
  ·exact T.aR _ h3
  ·exact .inr (by show _≤g; omega)
 ·injection hg' with hg'; have hg':g=g':=hg'; subst hg'
  rcases h3 with h3 | h3
  ·exact T.dRS _ h3 e
  ·have:=(T.oS.lt e).1; omega
 ·injection hg' with hg'; have hg':g=g':=hg'; subst hg'
  rcases h3 with h3 | h3
  ·exact T.dRB _ h3 e
  ·have:=(T.oB.lt e).1; omega
 ·rcases T.aR g hg with h | h
  ·exact .inl (.inr (.inl h))
  ·exact .inr h
theorem Trip.pushB (T:Trip w4 W B vS0 vR0 vB0 vS vR vB uS uR uB) (h1:Own1 W' B 3 (.slice (some ⟨g,0,none⟩) n cap) (uB ++ [u])) (h2:W.grownBy W' vB.ownBlock) (h3:vB.ownBlock=some g∨g=W.heap.size) :
 Trip w4 W' B vS0 vR0 vB0 vS vR (.slice (some ⟨g,0,none⟩) n cap) uS uR (uB ++ [u]):=by
 have hk:Keep (fun b=>vB.ownBlock=some b) W W':=(Keep.refl _ W).grown h2 (fun g hg=> .inl hg)
 have hs:=T.keep.size
 refine ⟨T.oS.keep hk (fun g hg e=>T.dSB g hg e),T.oR.keep hk (fun g hg e=>T.dRB g hg e),h1,T.aS,T.aR,fun g' hg'=>?_,T.dRS,fun g' hg' e=>?_,fun g' hg' e=>?_,T.lS,T.lR,T.lB,T.keep.grown h2 (fun g hg=>?_),T.bl.grown h2 (Nat.le_trans T.lo hs) (fun g hg=>(T.oB.lt hg).2),T.lo⟩
 ·injection hg' with hg'; subst hg'
  rcases h3 with h3 | h3
  ·exact T.aB _ h3
  ·exact .inr (by show _≤g; omega)
 ·injection e with e; have e:g=g':=e; subst e
  rcases h3 with h3 | h3
  ·exact T.dRB _ hg' h3
  ·have:=(T.oR.lt hg').1; omega
 ·injection e with e; have e:g=g':=e; subst e
  rcases h3 with h3 | h3
  ·exact T.dSB _ hg' h3
  ·have:=(T.oS.lt hg').1; omega
 ·rcases T.aB g hg with h | h
  ·exact .inl (.inr (.inr h))
  ·exact .inr h
/-- A block that is new since w4 is not touched by a list's first growth. -/
theorem loc_grown {v0:Value} (hl:∀ g,v0.ownBlock=some g→g<w4.heap.size) (h2:W.grownBy W' v0.ownBlock) (L:Loc W gb t cs) (hgb:w4.heap.size≤gb):Loc W' gb t cs:=by
 refine Loc.keep L ((Keep.refl (fun b=>v0.ownBlock=some b) W).grown h2 (fun g hg=> .inl hg)) (fun e=>?_)
 have:=hl _ e
 omega
/-- A block that is no list's. -/
theorem Trip.box (T:Trip w4 W B vS0 vR0 vB0 vS vR vB uS uR uB) (L:Loc w4 gp t cs) (hS:vS0.ownBlock ≠ some gp) (hR:vR0.ownBlock ≠ some gp) (hB:vB0.ownBlock ≠ some gp):Loc W gp t cs:=
 Loc.keep L T.keep (fun e:vS0.ownBlock=some gp∨vR0.ownBlock=some gp∨vB0.ownBlock=some gp=>e.elim hS (fun e=>e.elim hR hB))
end

theorem step_push1n {ops:Array Oper} {o:Oper} {a:Act} {K:Act→World→Prop} {Q:Exit→Act→World→Prop} {E:Prop} {t e:TypeId} {z:Value} {bytes:Nat} (w:World) (hgd:o.guard=none) (s x:Operand) (ho:o.op = .call { callee:= .builtin .append,args:=#[s,x],argTypes:=#[t,t] })
 (ht:Tryz.prog.underlying t=some (.slice e)) (hE:(Tryz.prog.info? e).map (fun i=>(i.zero,i.size,i.bytes))=some (some z,1,bytes)) (hzs:z.cells.size=1) (hb:bytes≤64)
 (base:Nat) (v:Value) (us:List Value) (n:Nat) (hlen:us.length=n) (hs:a.eval s=v) (hown:Own1 w base e v us) (H:Nat) (u:Value) (hx:a.eval x = .slice (some ⟨H,0,none⟩) 1 1) (hH:Loc w H e #[u]) (hu:u.oneCell'=true)
 (hn:n≤1000) (hbase:base≤w.heap.size)
 (h:∀ g cap w',Own1 w' base e (.slice (some ⟨g,0,none⟩) (n+1) cap) (us ++ [u])→w.grownBy w' v.ownBlock→(v.ownBlock=some g∨g=w.heap.size)→g<w'.heap.size→K (a.put o.dst (.slice (some ⟨g,0,none⟩) (n+1) cap)) w') :
 if Region.wanted o (yielded ops a.tmps)=true then Oper.wp Tryz.prog o a w K Q else E:=by
 subst hlen
 exact step_push1 w hgd s x ho ht hE hzs hb base v us hs hown H u hx hH hu hn hbase h

section
variable {B m n c gp gc:Nat} {w w4 W:World} {F:Nat→Nat→Rat} {Bv:Nat→Rat} {vS vR vB:Value} {G K:Nat→Nat}
theorem Beg.trip (h:Beg B w m n c F Bv gp gc vS vR vB G K) (h4:Keep (fun b=>b=gc) w w4) (hB:B≤w4.heap.size):Trip w4 w4 B vS vR vB vS vR vB (sgl Bv c) (rwl G (n+m+1) c) (bsl n c):=by
 have hs:=h4.size
 have hc:=h.kc
 have kk:∀ {a b:Nat},K a ≠ K b→a ≠ b:=fun h e=>h (by rw [e])
 have hSc:∀ g,vS.ownBlock=some g→g ≠ gc:=fun g hg=>kk (by rw [h.kS g hg,hc]; decide)
 have hRc:∀ g,vR.ownBlock=some g→g ≠ gc:=fun g hg=>kk (by rw [h.kR g hg,hc]; decide)
 have hBc:∀ g,vB.ownBlock=some g→g ≠ gc:=fun g hg=>kk (by rw [h.kB g hg,hc]; decide)
 refine ⟨h.oS.keep h4 hSc,h.oR.keep h4 hRc,h.oB.keep h4 hBc,fun g hg=> .inl hg,fun g hg=> .inl hg,fun g hg=> .inl hg,fun g h1 h2=>?_,fun g h1 h2=>?_,fun g h1 h2=>?_,fun g hg=>?_,fun g hg=>?_,fun g hg=>?_,Keep.refl _ _,Below.refl _ _,hB⟩
 ·have:=h.kR g h1; have:=h.kS g h2; omega
 ·have:=h.kR g h1; have:=h.kB g h2; omega
 ·have:=h.kS g h1; have:=h.kB g h2; omega
 ·have:=(h.oS.lt hg).1; omega
 ·have:=(h.oR.lt hg).1; omega
 ·have:=(h.oB.lt hg).1; omega
/-- The tableau's own block is none of the lists'. -/
theorem Beg.apart (h:Beg B w m n c F Bv gp gc vS vR vB G K):vS.ownBlock ≠ some gp∧vR.ownBlock ≠ some gp∧vB.ownBlock ≠ some gp:=
 ⟨fun e=>by have:=h.kS gp e; have:=h.kp; omega,fun e=>by have:=h.kR gp e; have:=h.kp; omega,fun e=>by have:=h.kB gp e; have:=h.kp; omega⟩
/-- One row more. -/
theorem Beg.fin (h:Beg B w m n c F Bv gp gc vS vR vB G K) {gRow gS gR gB capS capR capB:Nat}
 (h4:Keep (fun b=>b=gc) w w4) (hB:B≤w.heap.size) (hg:w.heap.size≤gRow) (hg4:gRow<w4.heap.size)
 (row:Rw w4 (fun b=>b=gRow∨K b ≠ 0) gRow (n+m+1) (t0 m n F Bv c)) (cost:Rc w4 (fun b=>b=gRow∨K b ≠ 0) gc (n+m+1) (c0 m n F Bv (c+1)))
 (T:Trip w4 W B vS vR vB (.slice (some ⟨gS,0,none⟩) (c+1) capS) (.slice (some ⟨gR,0,none⟩) (c+1) capR) (.slice (some ⟨gB,0,none⟩) (c+1) capB)
  (sgl Bv c ++ [.int .i64 (sgn Bv c)]) (rwl G (n+m+1) c ++ [.slice (some ⟨gRow,0,none⟩) (n+m+1) (n+m+1)]) (bsl n c ++ [.int .i64 ((n+c:Nat):Int)])) :
 Hid (∃ G' K',Beg B (((W.setCell ⟨gp,2,none⟩ (.slice (some ⟨gR,0,none⟩) (c+1) capR)).setCell ⟨gp,1,none⟩ (.slice (some ⟨gS,0,none⟩) (c+1) capS)).setCell ⟨gp,4,none⟩ (.slice (some ⟨gB,0,none⟩) (c+1) capB)) m n (c+1) F Bv gp gc (.slice (some ⟨gS,0,none⟩) (c+1) capS) (.slice (some ⟨gR,0,none⟩) (c+1) capR) (.slice (some ⟨gB,0,none⟩) (c+1) capB) G' K')∧
 Below B w4 (((W.setCell ⟨gp,2,none⟩ (.slice (some ⟨gR,0,none⟩) (c+1) capR)).setCell ⟨gp,1,none⟩ (.slice (some ⟨gS,0,none⟩) (c+1) capS)).setCell ⟨gp,4,none⟩ (.slice (some ⟨gB,0,none⟩) (c+1) capB)):=by
 have hgp:=h.lt gp (by rw [h.kp]; decide)
 have hgc:=h.lt gc (by rw [h.kc]; decide)
 have hpc:gp ≠ gc:=fun e=>by have h1:=h.kp; have h2:=h.kc; rw [e] at h1; omega
 obtain ⟨aS,aR,aB⟩:=h.apart
 have s4:=h4.size
 have sW:=T.keep.size
 have hne:∀ g,(vS.ownBlock=some g∨vR.ownBlock=some g∨vB.ownBlock=some g)∨w4.heap.size≤g→g ≠ gp:=fun g hg e=>by
  subst e
  rcases hg with (hg | hg | hg) | hg
  ·exact aS hg
  ·exact aR hg
  ·exact aB hg
  ·omega
 have nS:gS ≠ gp:=hne _ ((T.aS gS rfl).imp (fun e=> .inl e) id)
 have nR:gR ≠ gp:=hne _ ((T.aR gR rfl).imp (fun e=> .inr (.inl e)) id)
 have nB:gB ≠ gp:=hne _ ((T.aB gB rfl).imp (fun e=> .inr (.inr e)) id)
 have LB:Loc W gp _ _:=T.box (L:=(h.box.keep h4 hpc)) aS aR aB
 obtain ⟨W5,hW5⟩:∃ W5,W5=(((W.setCell ⟨gp,2,none⟩ (.slice (some ⟨gR,0,none⟩) (c+1) capR)).setCell ⟨gp,1,none⟩ (.slice (some ⟨gS,0,none⟩) (c+1) capS)).setCell ⟨gp,4,none⟩ (.slice (some ⟨gB,0,none⟩) (c+1) capB)):=⟨_,rfl⟩
 have kW:Keep (fun b=>b=gp) W W5:=by
  rw [hW5]
  exact (((Keep.refl (fun b=>b=gp) W).set (p:=⟨gp,2,none⟩) (.inl rfl) _).set (p:=⟨gp,1,none⟩) (.inl rfl) _).set (p:=⟨gp,4,none⟩) (.inl rfl) _
 have LB5:Loc W5 gp 444 #[.int .i64 n, .slice (some ⟨gS,0,none⟩) (c+1) capS, .slice (some ⟨gR,0,none⟩) (c+1) capR, .slice (some ⟨gc,0,none⟩) (n+m+1) (n+m+1), .slice (some ⟨gB,0,none⟩) (c+1) capB]:=by
  rw [hW5]
  have:=((LB.set 2 (.slice (some ⟨gR,0,none⟩) (c+1) capR)).set 1 (.slice (some ⟨gS,0,none⟩) (c+1) capS)).set 4 (.slice (some ⟨gB,0,none⟩) (c+1) capB)
  simpa using this
 have k45:Keep (fun b=>b=gp∨vS.ownBlock=some b∨vR.ownBlock=some b∨vB.ownBlock=some b) w4 W5:=(T.keep.weak (fun b _ hb=> .inr hb)).trans (kW.weak (fun b _ hb=> .inl hb))
 rw [←hW5]
 have s5:=kW.size
 have hown:∀ {v:Value} {us:List Value} {e:TypeId} {g:Nat},Own1 W B e v us→v.ownBlock=some g→g<W.heap.size∧B≤g:=fun h hg=>h.lt hg
 refine ⟨h.next h4 hB hg row cost k45 (T.aR gR rfl) (T.aS gS rfl) (T.aB gB rfl) (fun e=>T.dRS gR rfl (by rw [e]; rfl)) (fun e=>T.dRB gR rfl (by rw [e]; rfl)) (fun e=>T.dSB gS rfl (by rw [e]; rfl))
  (by have:=(hown T.oR (g:=gR) rfl).1; omega) (by have:=(hown T.oS (g:=gS) rfl).1; omega) (by have:=(hown T.oB (g:=gB) rfl).1; omega) LB5
  (T.oS.keep kW (fun g hg e=>nS (by injection hg with hg; exact hg.trans e))) (T.oR.keep kW (fun g hg e=>nR (by injection hg with hg; exact hg.trans e))) (T.oB.keep kW (fun g hg e=>nB (by injection hg with hg; exact hg.trans e))),?_⟩
 rw [hW5]
 exact ((T.bl.setCell (p:=⟨gp,2,none⟩) (by show B≤gp; omega) _).setCell (p:=⟨gp,1,none⟩) (by show B≤gp; omega) _).setCell (p:=⟨gp,4,none⟩) (by show B≤gp; omega) _
end
end Go.Proofs.YtbdcjhoedhhabaaGreat

