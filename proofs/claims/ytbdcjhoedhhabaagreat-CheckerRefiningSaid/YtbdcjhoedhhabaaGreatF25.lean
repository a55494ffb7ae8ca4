/- Contracts of the functions that the statements reach, part 25. -/
import Derived.Test.YtbdcjhoedhhabaaGreatRows
import Derived.Test.YtbdcjhoedhhabaaGreatF19
import Derived.Test.YtbdcjhoedhhabaaGreatF24
set_option linter.unusedSimpArgs false
set_option linter.unusedVariables false

/- Lists of fractions in memory: blocks known whole, lists that are read. -/
namespace Go.Proofs.YtbdcjhoedhhabaaGreat
open Go.RowKit

/-- The parts of a fraction's struct. -/
structure R4 where
 b:Bool
 A:Option Addr
 m:Nat
 c:Nat
 b':Bool
 A':Option Addr
 m':Nat
 c':Nat
def R4.cs (r:R4):List Value:=[.bool r.b, .slice r.A r.m r.c, .bool r.b', .slice r.A' r.m' r.c']
def R4.v (r:R4):Value:= .agg #[.bool r.b, .slice r.A r.m r.c, .bool r.b', .slice r.A' r.m' r.c']
/-- The cells of a list of fractions. -/
def flat:List R4→List Value
 | []=>[]
 | r :: l=> .bool r.b :: .slice r.A r.m r.c :: .bool r.b' :: .slice r.A' r.m' r.c' :: flat l

theorem flat_len:∀ l:List R4,(flat l).length=l.length*4
 | []=>rfl
 | r :: l=>by simp only [flat,List.length_cons,flat_len l]; omega
theorem flat_app:∀ l k:List R4,flat (l ++ k)=flat l ++ flat k
 | [],k=>rfl
 | r :: l,k=>by simp only [flat,List.cons_append,flat_app l k]
theorem flat_one (r:R4):flat [r] = r.cs:=rfl
theorem flat_get:∀ (l:List R4) (i:Nat) (r:R4),l[i]? = some r→(flat l)[i*4]? = some (.bool r.b)∧(flat l)[i*4+1]? = some (.slice r.A r.m r.c)∧(flat l)[i*4+2]? = some (.bool r.b')∧(flat l)[i*4+3]? = some (.slice r.A' r.m' r.c')
 | [],i,r,h=>by simp at h
 | q :: l,0,r,h=>by simp at h; subst h; exact ⟨rfl,rfl,rfl,rfl⟩
 | q :: l, i + 1, r, h => by
   have h':l[i]? = some r:=by simpa using h
   have:=flat_get l i r h'
   rw [show (i+1)*4=i*4+4 by omega]
   simpa [flat] using this
theorem flat_set:∀ (l:List R4) (i:Nat) (r:R4),i<l.length→((((flat l).set (i*4) (.bool r.b)).set (i*4+1) (.slice r.A r.m r.c)).set (i*4+2) (.bool r.b')).set (i*4+3) (.slice r.A' r.m' r.c')=flat (l.set i r)
 | [],i,r,h=>by simp at h
 | q :: l,0,r,h=>by simp [flat]
 | q :: l, i + 1, r, h => by
   have:=flat_set l i r (by simpa using h)
   rw [show (i+1)*4=i*4+4 by omega]
   simp [flat,this]

/-- Block g is just the fractions rs. -/
def Line (w:World) (g:Nat) (rs:List R4):Prop:=Loc w g 213 (flat rs).toArray
/-- The values of canonical fractions. -/
def ValV (w:World) (X:Nat→Prop) (rs:List R4) (f:Nat→Rat):Prop:=∀ i r,rs[i]? = some r→RatV w X r.v (f i)
/-- The values of fractions of at most k words. -/
def ValL (k:Nat) (w:World) (X:Nat→Prop) (rs:List R4) (f:Nat→Rat):Prop:=∀ i r,rs[i]? = some r→RatL k w X r.v (f i)

section
variable {w w':World} {g k:Nat} {rs:List R4} {X Y:Nat→Prop} {f f':Nat→Rat}
theorem Line.lt (h:Line w g rs):g<w.heap.size:=Loc.lt h
theorem Line.cells (h:Line w g rs) {i:Nat} {r:R4} (hr:rs[i]? = some r):w.cell? ⟨g,i*4,none⟩=some (.bool r.b)∧w.cell? ⟨g,i*4+1,none⟩=some (.slice r.A r.m r.c)∧w.cell? ⟨g,i*4+2,none⟩=some (.bool r.b')∧w.cell? ⟨g,i*4+3,none⟩=some (.slice r.A' r.m' r.c'):=by
 obtain ⟨h0,h1,h2,h3⟩:=flat_get rs i r hr
 simp only [Loc.cell h,List.getElem?_toArray]
 exact ⟨h0,h1,h2,h3⟩
theorem Line.frz (h:Line w g rs):∀ i,w.frozen? ⟨g,i,none⟩=false:=Loc.frz h
theorem Line.put (h:Line w g rs) {i:Nat} (hi:i<rs.length) (r:R4):Line ((((w.setCell ⟨g,i*4,none⟩ (.bool r.b)).setCell ⟨g,i*4+1,none⟩ (.slice r.A r.m r.c)).setCell ⟨g,i*4+2,none⟩ (.bool r.b')).setCell ⟨g,i*4+3,none⟩ (.slice r.A' r.m' r.c')) g (rs.set i r):=by
 have:=(((Loc.set h (i*4) (.bool r.b)).set (i*4+1) (.slice r.A r.m r.c)).set (i*4+2) (.bool r.b')).set (i*4+3) (.slice r.A' r.m' r.c')
 rw [List.setIfInBounds_toArray,List.setIfInBounds_toArray,List.setIfInBounds_toArray,List.setIfInBounds_toArray,flat_set rs i r hi] at this
 exact this
theorem ValV.keep (h:ValV w X rs f) (hk:Keep X w w'):ValV w' X rs f:=fun i r hr=>(h i r hr).keep hk
theorem ValV.weak (h:ValV w X rs f) (hY:∀ b,b<w.heap.size→Y b→X b):ValV w Y rs f:=fun i r hr=>(h i r hr).weak hY
theorem ValL.keep (h:ValL k w X rs f) (hk:Keep X w w'):ValL k w' X rs f:=fun i r hr=>(h i r hr).keep hk
theorem ValL.weak (h:ValL k w X rs f) (hY:∀ b,b<w.heap.size→Y b→X b):ValL k w Y rs f:=fun i r hr=>(h i r hr).weak hY
theorem ValV.len (h:ValV w X rs f) (hs:∀ i,i<rs.length→Rsz k (f i)):ValL k w X rs f:=fun i r hr=>(h i r hr).len (hs i (List.getElem?_eq_some_iff.1 hr).1)
theorem ValV.set (h:ValV w X rs f) {i:Nat} {r:R4} (hr:RatV w X r.v (f' i)) (hf:∀ j,j ≠ i→f' j=f j):ValV w X (rs.set i r) f':=fun j q hq=>by
 by_cases hj:j=i
 ·subst hj
  rw [List.getElem?_set] at hq
  split at hq
  ·split at hq
   ·injection hq with hq; subst hq; exact hr
   ·simp at hq
  ·exact absurd rfl ‹_›
 ·rw [List.getElem?_set_ne (fun e=>hj e.symm)] at hq
  rw [hf j hj]
  exact h j q hq
theorem ValL.set0 (h:ValL k w X rs f) {i:Nat} {r:R4} (hr:RatL k w X r.v (f i)):ValL k w X (rs.set i r) f:=fun j q hq=>by
 by_cases hj:j=i
 ·subst hj
  rw [List.getElem?_set] at hq
  split at hq
  ·split at hq
   ·injection hq with hq; subst hq; exact hr
   ·simp at hq
  ·exact absurd rfl ‹_›
 ·rw [List.getElem?_set_ne (fun e=>hj e.symm)] at hq
  exact h j q hq
theorem ValV.congr (h:ValV w X rs f) (hf:∀ i,i<rs.length→f' i=f i):ValV w X rs f':=fun i r hr=>by rw [hf i (List.getElem?_eq_some_iff.1 hr).1]; exact h i r hr
theorem ValV.push (h:ValV w X rs f) {r:R4} (hr:RatV w X r.v (f rs.length)):ValV w X (rs ++ [r]) f:=fun i q hq=>by
 by_cases hi:i<rs.length
 ·rw [List.getElem?_append_left hi] at hq; exact h i q hq
 ·have:=(List.getElem?_eq_some_iff.1 hq).1
  simp at this
  obtain rfl:i=rs.length:=by omega
  simp at hq
  subst hq; exact hr
theorem ValL.push (h:ValL k w X rs f) {r:R4} (hr:RatL k w X r.v (f rs.length)):ValL k w X (rs ++ [r]) f:=fun i q hq=>by
 by_cases hi:i<rs.length
 ·rw [List.getElem?_append_left hi] at hq; exact h i q hq
 ·have:=(List.getElem?_eq_some_iff.1 hq).1
  simp at this
  obtain rfl:i=rs.length:=by omega
  simp at hq
  subst hq; exact hr
end

theorem ValL.congr {k:Nat} {w:World} {X:Nat→Prop} {rs:List R4} {f f':Nat→Rat} (h:ValL k w X rs f) (hf:∀ i,i<rs.length→f' i=f i):ValL k w X rs f':=fun i r hr=>by rw [hf i (List.getElem?_eq_some_iff.1 hr).1]; exact h i r hr
theorem ValL.set {k:Nat} {w:World} {X:Nat→Prop} {rs:List R4} {f f':Nat→Rat} (h:ValL k w X rs f) {i:Nat} {r:R4} (hr:RatL k w X r.v (f' i)) (hf:∀ j,j ≠ i→j<rs.length→f' j=f j):ValL k w X (rs.set i r) f':=fun j q hq=>by
 by_cases hj:j=i
 ·subst hj
  rw [List.getElem?_set] at hq
  split at hq
  ·split at hq
   ·injection hq with hq; subst hq; exact hr
   ·simp at hq
  ·exact absurd rfl ‹_›
 ·rw [List.getElem?_set_ne (fun e=>hj e.symm)] at hq
  rw [hf j hj (List.getElem?_eq_some_iff.1 hq).1]
  exact h j q hq
/-- A list of fractions that is read: n of them, at most k words in each part, of the values f. -/
def Nums (k:Nat) (w:World) (X:Nat→Prop) (v:Value) (n:Nat) (f:Nat→Rat):Prop:=
 ∃ (rs : List R4) (A : Option Addr) (cap : Nat), rs.length = n ∧ v = .slice A n cap ∧ n ≤ cap ∧ cap ≤ maxLen ∧
   (n ≠ 0→∃ a:Addr,A=some a∧a.block<w.heap.size∧¬ X a.block∧∀ i r,rs[i]? = some r→
    w.cell? (a.add (i*4))=some (.bool r.b)∧w.cell? ((a.add (i*4)).add 1)=some (.slice r.A r.m r.c)∧w.cell? ((a.add (i*4)).add 2)=some (.bool r.b')∧w.cell? ((a.add (i*4)).add 3)=some (.slice r.A' r.m' r.c'))∧ValL k w X rs f
/-- A list of lists that is read. -/
def Mat (k:Nat) (w:World) (X:Nat→Prop) (v:Value) (m:Nat) (N:Nat→Nat) (F:Nat→Nat→Rat):Prop:=
 ∃ (us : List Value) (A : Option Addr) (cap : Nat), us.length = m ∧ v = .slice A m cap ∧ m ≤ cap ∧ cap ≤ maxLen ∧
   (m ≠ 0→∃ a:Addr,A=some a∧a.block<w.heap.size∧¬ X a.block∧∀ i u,us[i]? = some u→w.cell? (a.add i)=some u)∧∀ i u,us[i]? = some u→Nums k w X u (N i) (F i)

section
variable {w w':World} {g k j n m:Nat} {X Y:Nat→Prop} {v:Value} {f f':Nat→Rat} {N:Nat→Nat} {F:Nat→Nat→Rat}
theorem add_block (a:Addr) (i:Nat):(a.add i).block=a.block:=by unfold Addr.add; split <;> rfl
theorem cell_keep {a:Addr} {u:Value} (h:w.cell? a=some u) (hb:a.block<w.heap.size) (hX:¬ X a.block) (hk:Keep X w w'):w'.cell? a=some u:=by
 have:=hk.block a.block hb hX
 unfold World.cell? at h ⊢
 rw [this]; exact h
theorem Nums.keep (h:Nums k w X v n f) (hk:Keep X w w'):Nums k w' X v n f:=by
 obtain ⟨rs,A,cap,h1,h2,h3,h4,h5,h6⟩:=h
 refine ⟨rs,A,cap,h1,h2,h3,h4,fun hn=>?_,h6.keep hk⟩
 obtain ⟨a,ea,hb,hX,hc⟩:=h5 hn
 refine ⟨a,ea,Nat.lt_of_lt_of_le hb hk.size,hX,fun i r hr=>?_⟩
 obtain ⟨c0,c1,c2,c3⟩:=hc i r hr
 have key:∀ (p:Addr) (u:Value),p.block=a.block→w.cell? p=some u→w'.cell? p=some u:=fun p u hp hu=>cell_keep hu (by rw [hp]; exact hb) (by rw [hp]; exact hX) hk
 refine ⟨key _ _ ?_ c0,key _ _ ?_ c1,key _ _ ?_ c2,key _ _ ?_ c3⟩ <;> simp only [add_block]
theorem Nums.weak (h:Nums k w X v n f) (hY:∀ b,b<w.heap.size→Y b→X b):Nums k w Y v n f:=by
 obtain ⟨rs,A,cap,h1,h2,h3,h4,h5,h6⟩:=h
 refine ⟨rs,A,cap,h1,h2,h3,h4,fun hn=>?_,h6.weak hY⟩
 obtain ⟨a,ea,hb,hX,hc⟩:=h5 hn
 exact ⟨a,ea,hb,fun hy=>hX (hY _ hb hy),hc⟩
theorem Nums.mono (h:Nums k w X v n f) (hj:k≤j):Nums j w X v n f:=by
 obtain ⟨rs,A,cap,h1,h2,h3,h4,h5,h6⟩:=h
 exact ⟨rs,A,cap,h1,h2,h3,h4,h5,fun i r hr=>(h6 i r hr).mono hj⟩
theorem Nums.congr (h:Nums k w X v n f) (hf:∀ i,i<n→f' i=f i):Nums k w X v n f':=by
 obtain ⟨rs,A,cap,h1,h2,h3,h4,h5,h6⟩:=h
 exact ⟨rs,A,cap,h1,h2,h3,h4,h5,fun i r hr=>by rw [hf i (by rw [←h1]; exact (List.getElem?_eq_some_iff.1 hr).1)]; exact h6 i r hr⟩
theorem Nums.rsz (h:Nums k w X v n f) (hk:1≤k):∀ i,i<n→Rsz k (f i):=fun i hi=>by
 obtain ⟨rs,A,cap,h1,h2,h3,h4,h5,h6⟩:=h
 exact (h6 i _ (List.getElem?_eq_getElem (by omega))).rsz hk
theorem Nums.nil (k:Nat) (w:World) (X:Nat→Prop) (f:Nat→Rat):Nums k w X (.slice none 0 0) 0 f:=⟨[],none,0,rfl,rfl,Nat.le_refl _,Nat.zero_le _,fun h=>absurd rfl h,fun i r h=>by simp at h⟩
/-- The shape of a list that is read. -/
theorem Nums.op (h:Nums k w X v n f):∃ (A:Option Addr) (cap:Nat),v = .slice A n cap∧Nums k w X (.slice A n cap) n f∧n≤cap∧cap≤maxLen:=by
 have h0:=h
 obtain ⟨rs,A,cap,h1,rfl,h3,h4, -⟩:=h
 exact ⟨A,cap,rfl,h0,h3,h4⟩
/-- An element of a list that is read. -/
theorem Nums.at {A:Option Addr} {cap:Nat} (h:Nums k w X (.slice A n cap) n f) {i:Nat} (hi:i<n):∃ (a:Addr) (b:Bool) (B:Option Addr) (p c:Nat) (b':Bool) (B':Option Addr) (p' c':Nat),A=some a∧a.block<w.heap.size∧¬ X a.block∧
 w.cell? (a.add (i*4))=some (.bool b)∧w.cell? ((a.add (i*4)).add 1)=some (.slice B p c)∧w.cell? ((a.add (i*4)).add 2)=some (.bool b')∧w.cell? ((a.add (i*4)).add 3)=some (.slice B' p' c')∧
 RatL k w X (.agg #[.bool b, .slice B p c, .bool b', .slice B' p' c']) (f i):=by
 obtain ⟨rs,A1,cap1,h1,h2,h3,h4,h5,h6⟩:=h
 injection h2 with e1 e2 e3
 subst e1
 obtain ⟨a,ea,hb,hX,hc⟩:=h5 (by omega)
 have hr:=List.getElem?_eq_getElem (l:=rs) (i:=i) (by omega)
 obtain ⟨c0,c1,c2,c3⟩:=hc i _ hr
 exact ⟨a,_,_,_,_,_,_,_,_,ea,hb,hX,c0,c1,c2,c3,h6 i _ hr⟩
theorem Mat.keep (h:Mat k w X v m N F) (hk:Keep X w w'):Mat k w' X v m N F:=by
 obtain ⟨us,A,cap,h1,h2,h3,h4,h5,h6⟩:=h
 refine ⟨us,A,cap,h1,h2,h3,h4,fun hn=>?_,fun i u hu=>(h6 i u hu).keep hk⟩
 obtain ⟨a,ea,hb,hX,hc⟩:=h5 hn
 exact ⟨a,ea,Nat.lt_of_lt_of_le hb hk.size,hX,fun i u hu=>cell_keep (hc i u hu) (by rw [add_block]; exact hb) (by rw [add_block]; exact hX) hk⟩
theorem Mat.weak (h:Mat k w X v m N F) (hY:∀ b,b<w.heap.size→Y b→X b):Mat k w Y v m N F:=by
 obtain ⟨us,A,cap,h1,h2,h3,h4,h5,h6⟩:=h
 refine ⟨us,A,cap,h1,h2,h3,h4,fun hn=>?_,fun i u hu=>(h6 i u hu).weak hY⟩
 obtain ⟨a,ea,hb,hX,hc⟩:=h5 hn
 exact ⟨a,ea,hb,fun hy=>hX (hY _ hb hy),hc⟩
theorem Mat.op (h:Mat k w X v m N F):∃ (A:Option Addr) (cap:Nat),v = .slice A m cap∧Mat k w X (.slice A m cap) m N F∧m≤cap∧cap≤maxLen:=by
 have h0:=h
 obtain ⟨us,A,cap,h1,rfl,h3,h4, -⟩:=h
 exact ⟨A,cap,rfl,h0,h3,h4⟩
theorem Mat.at {A:Option Addr} {cap:Nat} (h:Mat k w X (.slice A m cap) m N F) {i:Nat} (hi:i<m):∃ (a:Addr) (B:Option Addr) (c:Nat),A=some a∧a.block<w.heap.size∧¬ X a.block∧w.cell? (a.add i)=some (.slice B (N i) c)∧Nums k w X (.slice B (N i) c) (N i) (F i)∧N i≤c∧c≤maxLen:=by
 obtain ⟨us,A1,cap1,h1,h2,h3,h4,h5,h6⟩:=h
 injection h2 with e1 e2 e3
 subst e1
 obtain ⟨a,ea,hb,hX,hc⟩:=h5 (by omega)
 have hr:=List.getElem?_eq_getElem (l:=us) (i:=i) (by omega)
 obtain ⟨B,c,e,hn,hl,hm⟩:=(h6 i _ hr).op
 have:=hc i _ hr
 rw [e] at this
 exact ⟨a,B,c,ea,hb,hX,this,hn,hl,hm⟩

theorem Line.nums {w:World} {g k n:Nat} {rs:List R4} {X Y:Nat→Prop} {f:Nat→Rat} (h:Line w g rs) (hv:ValL k w X rs f) (hn:rs.length=n) (hY:∀ b,b<w.heap.size→Y b→X b) (hg:¬ Y g) (hm:n≤maxLen):Nums k w Y (.slice (some ⟨g,0,none⟩) n n) n f:=by
 refine ⟨rs,_,_,hn,rfl,Nat.le_refl _,hm,fun _=>⟨_,rfl,h.lt,hg,fun i r hr=>?_⟩,hv.weak hY⟩
 obtain ⟨c0,c1,c2,c3⟩:=h.cells hr
 have e:∀ i,(⟨g,0,none⟩:Addr).add i=⟨g,i,none⟩:=fun i=>by simp [Addr.add]; intro h; omega
 have e2:∀ i j,(⟨g,i,none⟩:Addr).add j=⟨g,i+j,none⟩:=fun i j=>by simp [Addr.add]
 rw [e,e2,e2,e2]
 exact ⟨c0,c1,c2,c3⟩
end
/-- Nothing outside the blocks X has turned: the way is found by itself. -/
theorem kp {X:Nat→Prop} {w w':World} (k:Keep X w w':=by
 repeat (first
  | (with_reducible exact Keep.refl _ _) | (with_reducible assumption) | (with_reducible refine Keep.drew ?_) | (with_reducible refine Keep.alloc ?_ _) | (with_reducible refine Keep.drewN ?_)
  | (with_reducible refine Keep.set ?_ ?_ _; rotate_left; (first | (left; rfl) | (right; simp only [zs]; omega) | (right; omega) | (left; simp only [Old,World.size_alloc,size_set,size_drew,size_drewN]; omega) | (left; assumption)))
  | (with_reducible refine Keep.on ?_ (by assumption)))
 fail_if_success exfalso):Keep X w w':=k
theorem Keep.far {X:Nat→Prop} {w w':World} (h:Keep X w w') {g:Nat} (hg:¬ X g):Stay g w w':=fun hl=>⟨h.block g hl hg,Nat.lt_of_lt_of_le hl h.size⟩
end Go.Proofs.YtbdcjhoedhhabaaGreat

/- Sign, Neg, Floor of rational. -/
namespace Go.Proofs.YtbdcjhoedhhabaaGreat
open Go.RowKit
attribute [local go_sem ↓] Go.wp_at_zero Go.wp_at_succ

theorem divInt_sign2 (n d:Int):(Rat.divInt n d).num.sign=n.sign*d.sign:=by
 rcases sign_cases d with ⟨h,e⟩ | ⟨h,e⟩ | ⟨h,e⟩
 ·rw [e,← Rat.neg_divInt_neg,divInt_sign _ _ (by omega),Int.sign_neg]; omega
 ·rw [e,h,Rat.divInt_zero,Int.mul_zero]; rfl
 ·rw [e,divInt_sign _ _ (by omega),Int.mul_one]

set_option maxHeartbeats 2000000 in
theorem sign_rat (w:World) (X:Nat→Prop) (k:Nat) (v:Value) (q:Rat) (h:RatL k w X v q) :
 Calls Tryz.prog 346 #[v] w fun e w'=>e = .returned (.int .i64 q.num.sign)∧Below w.heap.size w w':=by
 obtain ⟨n1,A,m,c,n2,B,m',d,rfl, -,xs,ys,i1,i2,l1,l2,HE⟩:=h.op
 have hq:q.num.sign=(sv n1 xs).sign*(sv n2 ys).sign:=by rw [←divInt_sign2,← HE.out]; rfl
 obtain ⟨s1,hs1⟩:∃ s,(sv n1 xs).sign=s:=⟨_,rfl⟩
 obtain ⟨s2,hs2⟩:∃ s,(sv n2 ys).sign=s:=⟨_,rfl⟩
 rw [hs1,hs2] at hq
 have hP : -1≤s1*s2∧s1*s2≤1:=by
  rw [←hq]; rcases sign_cases q.num with ⟨_,h⟩ | ⟨_,h⟩ | ⟨_,h⟩ <;> omega
 have hw:IntKind.i64.wrap (s1*s2)=s1*s2:=by rw [IntKind.wrap_i64]; omega
 have HS1:=Lib.hid hs1
 have HS2:=Lib.hid hs2
 have HQ:=Lib.hid hq
 clear hs1 hs2 hq h hP
 rw [HQ.out]
 go_enter Tryz.func346,Tryz.ntmps346
 go_wp2_with fail
 have L1:=made1 w #[.bool n1, .slice A m c, .bool n2, .slice B m' d] 213
 go_region_held3 (fun W=>(W.cell? ⟨w.heap.size,0,none⟩=some (.bool n1)∧W.cell? ⟨w.heap.size,1,none⟩=some (.slice A m c))∧W.cell? ⟨w.heap.size,2,none⟩=some (.bool n2)∧W.cell? ⟨w.heap.size,3,none⟩=some (.slice B m' d))
  (exact ⟨⟨Loc.c 0 L1,Loc.c 1 L1⟩,Loc.c 2 L1,Loc.c 3 L1⟩)
  (first
   | (go_at_call_of 422 (Value.agg #[Value.bool n1,Value.slice A m c]); refine (sign_any _ (fun _=>False) _ n1 xs i1.to).mono ?_; rintro e u1 ⟨he,hb1⟩; rw [HS1.out] at he; subst he; have y1:=hb1.size; (try simp only [zs] at y1))
   | (go_at_call_of 422 (Value.agg #[Value.bool n2,Value.slice B m' d]); refine (sign_any _ (fun _=>False) _ n2 ys i2.to).mono ?_; rintro e u2 ⟨he,hb2⟩; rw [HS2.out] at he; subst he; have y2:=hb2.size; (try simp only [zs] at y2)))
 all_goals
  go_wp2_with fail
  go_ret
  exact ⟨rfl,bel⟩

set_option maxHeartbeats 2000000 in
theorem neg_rat (w:World) (X:Nat→Prop) (v:Value) (q:Rat) (h:RatL 100000000 w X v q) :
 Calls Tryz.prog 383 #[v] w fun e w'=>∃ v',e = .returned v'∧RatV w' (Old w) v' (-q)∧Below w.heap.size w w':=by
 obtain ⟨n1,A,m,c,n2,B,m',d,rfl,h,xs,ys, -, -,l1,l2,HE⟩:=h.op
 have HR:=Lib.hid (h.rsz (by omega))
 go_enter Tryz.func383,Tryz.ntmps383
 go_wp2_with fail
 refine (clean_rat _ (fun _=>False) _ q h.to).mono ?_
 rintro e w1 ⟨v1,rfl,h1,hb1⟩
 obtain ⟨b2,A2,m2,c2,b3,A3,m3,c3,rfl,h1,j1,j2⟩:=h1.op
 obtain ⟨z1,z2⟩:=sz2 hb1
 have L0:=made1 w #[.bool n1, .slice A m c, .bool n2, .slice B m' d] 213
 have L5:=made2 w (.cells #[.bool n1, .slice A m c, .bool n2, .slice B m' d] 213) #[.bool false, .slice none 0 0, .bool false, .slice none 0 0] 213
 obtain ⟨e4,g4, -⟩:=L0.all (w':=w1)
 go_wp2_with fail
 have L1:=Loc.fill4 (u:= .bool b2) (v:= .slice A2 m2 c2) (x:= .bool b3) (y:= .slice A3 m3 c3) (L0.to (w':=w1))
 go_region_held3 (fun W=>(W.cell? ⟨w.heap.size,0,none⟩=some (.bool b2)∧W.cell? ⟨w.heap.size,1,none⟩=some (.slice A2 m2 c2))∧W.cell? ⟨w.heap.size,2,none⟩=some (.bool b3)∧W.cell? ⟨w.heap.size,3,none⟩=some (.slice A3 m3 c3))
  (exact ⟨⟨Loc.c 0 L1,Loc.c 1 L1⟩,Loc.c 2 L1,Loc.c 3 L1⟩)
  ((go_at_call 449; refine (neg_any _ (fun _=>False) _ _ _ j1.to (Nat.le_trans HR.out.1 (by omega))).mono ?_; rintro e u1 ⟨v5,rfl,h5,hb5⟩; rw [sv_dig] at h5; obtain ⟨b5,A5,m5,k5,rfl,h5⟩:=h5.op; have y5:=hb5.size; (try simp only [zs] at y5); obtain ⟨e5,g5, -⟩:=L5.all (w':=u1)))
 all_goals
  go_wp2_with fail
  refine bodyPost_ret (by simp [results,Tryz.results383,go_sem,e5,g5] <;> rfl) rfl ⟨_,rfl,?_,bel⟩
  refine RatV.of (q:= -q) ?_ ?_
  ·rw [Rat.neg_num]; exact h5.out
  ·rw [Rat.neg_den]; exact j2.out

/- Add, Mul, Divide, Compare of rational; printed by gen_rat5.py. -/

set_option maxHeartbeats 4000000 in
theorem mul_rat (w:World) (X:Nat→Prop) (v1 v2:Value) (x y:Rat) (h1:RatL 10000000 w X v1 x) (h2:RatL 10000000 w X v2 y) :
 Calls Tryz.prog 293 #[v1,v2] w fun e w'=>∃ v',e = .returned v'∧RatV w' (Old w) v' (x*y)∧Below w.heap.size w w':=by
 have HX:=Lib.hid (h1.rsz (by omega))
 have HY:=Lib.hid (h2.rsz (by omega))
 obtain ⟨n1,A,m,c,n2,B,m',d,rfl,h1, -⟩:=h1.op
 obtain ⟨o1,C,p,e,o2,D,p',f,rfl,h2, -⟩:=h2.op
 go_enter Tryz.func293,Tryz.ntmps293
 go_upto_region 2 with fail
 go_cut [0] (fun _ W=>∃ (n1:Bool) (A:Option Addr) (m c:Nat) (n2:Bool) (B:Option Addr) (m' d:Nat) (o1:Bool) (C:Option Addr) (p e:Nat) (o2:Bool) (D:Option Addr) (p' f:Nat),
  Loc W w.heap.size 213 #[.bool n1, .slice A m c, .bool n2, .slice B m' d]∧Loc W (w.heap.size+1) 213 #[.bool o1, .slice C p e, .bool o2, .slice D p' f]∧Loc W (w.heap.size+1+1) 213 #[.bool false, .slice none 0 0, .bool false, .slice none 0 0]∧
  RatV W (fun b=>w.heap.size≤b∧b<w.heap.size+3) (.agg #[.bool n1, .slice A m c, .bool n2, .slice B m' d]) x∧RatV W (fun b=>w.heap.size≤b∧b<w.heap.size+3) (.agg #[.bool o1, .slice C p e, .bool o2, .slice D p' f]) y∧Below w.heap.size w W)
 case first=>
  have N1:=made1 w #[.bool n1, .slice A m c, .bool n2, .slice B m' d] 213
  have N2:=made2 w (.cells #[.bool n1, .slice A m c, .bool n2, .slice B m' d] 213) #[.bool o1, .slice C p e, .bool o2, .slice D p' f] 213
  go_wp2_with fail
  obtain ⟨c5,f5, -⟩:=N1.all (w':=(((w.alloc (.cells #[.bool n1, .slice A m c, .bool n2, .slice B m' d] 213)).alloc (.cells #[.bool o1, .slice C p e, .bool o2, .slice D p' f] 213)).alloc (.cells #[.bool false, .slice none 0 0, .bool false, .slice none 0 0] 213)).drew)
  obtain ⟨c6,f6, -⟩:=N2.all (w':=(((w.alloc (.cells #[.bool n1, .slice A m c, .bool n2, .slice B m' d] 213)).alloc (.cells #[.bool o1, .slice C p e, .bool o2, .slice D p' f] 213)).alloc (.cells #[.bool false, .slice none 0 0, .bool false, .slice none 0 0] 213)).drew)
  go_region_with (first
   | (go_at_call_of 348 (Value.agg #[Value.bool n1,Value.slice A m c,Value.bool n2,Value.slice B m' d]); refine (clean_rat _ (fun _=>False) _ x (h1.mono (by omega)).to).mono ?_; rintro e u1 ⟨v5,rfl,h5,hb5⟩; obtain ⟨b5,A5,m5,k5,b5',A5',m5',k5',rfl,h5, -, -⟩:=h5.op; have y5:=hb5.size; (try simp only [zs] at y5); obtain ⟨c6,f6, -⟩:=N2.all (w':=u1))
   | (go_at_call_of 348 (Value.agg #[Value.bool o1,Value.slice C p e,Value.bool o2,Value.slice D p' f]); refine (clean_rat _ (fun _=>False) _ y (h2.mono (by omega)).to).mono ?_; rintro e u2 ⟨v6,rfl,h6,hb6⟩; obtain ⟨b6,A6,m6,k6,b6',A6',m6',k6',rfl,h6, -, -⟩:=h6.op; have y6:=hb6.size; (try simp only [zs] at y6); obtain ⟨c7,f7, -⟩:=N1.all (w':=u2); obtain ⟨c8,f8, -⟩:=N2.all (w':=u2)))
  all_goals
   go_wp2_with fail
   go_meet
   have L1:=N1.to (w':=u2)
   have L2:=N2.to (w':=u2)
   have e12:w.heap.size ≠ w.heap.size+1:=by omega
   have e21:w.heap.size+1 ≠ w.heap.size:=by omega
   exact ⟨_,_,_,_,_,_,_,_,_,_,_,_,_,_,_,_,(by first | with_reducible exact Loc.two4_first e12 L1 | with_reducible exact Loc.two4_last e12 L1),(by first | with_reducible exact Loc.two4_first e21 L2 | with_reducible exact Loc.two4_last e21 L2),(made3 w _ _ _ _).to,RatV.out h5,RatV.out h6,bel⟩
 case rest=>
  clear h1 h2
  obtain ⟨n1,A,m,c,n2,B,m',d,o1,C,p,e,o2,D,p',f,L1,L2,L3,h1,h2,hB⟩:=hcut
  obtain ⟨_,_,_,_,_,_,_,_,e1,h1,i1,i2⟩:=h1.op
  simp only [Value.agg.injEq,Array.mk.injEq,List.cons.injEq,Value.bool.injEq,Value.slice.injEq,and_true] at e1
  obtain ⟨rfl,⟨rfl,rfl,rfl⟩,rfl,⟨rfl,rfl,rfl⟩⟩:=e1
  obtain ⟨_,_,_,_,_,_,_,_,e1,h2,j1,j2⟩:=h2.op
  simp only [Value.agg.injEq,Array.mk.injEq,List.cons.injEq,Value.bool.injEq,Value.slice.injEq,and_true] at e1
  obtain ⟨rfl,⟨rfl,rfl,rfl⟩,rfl,⟨rfl,rfl,rfl⟩⟩:=e1
  have z1:=L1.lt
  have z2:=L2.lt
  have z3:=L3.lt
  go_wp2_with fail
  have HN:=Lib.hid (len_mulI HX.out.1 HY.out.1)
  have HD:=Lib.hid (len_mulI HX.out.2 HY.out.2)
  go_region_held3 (fun W=>((W.cell? ⟨w.heap.size,0,none⟩=some (.bool n1)∧W.cell? ⟨w.heap.size,1,none⟩=some (.slice A m c))∧W.cell? ⟨w.heap.size,2,none⟩=some (.bool n2)∧W.cell? ⟨w.heap.size,3,none⟩=some (.slice B m' d))∧(W.cell? ⟨w.heap.size+1,0,none⟩=some (.bool o1)∧W.cell? ⟨w.heap.size+1,1,none⟩=some (.slice C p e))∧W.cell? ⟨w.heap.size+1,2,none⟩=some (.bool o2)∧W.cell? ⟨w.heap.size+1,3,none⟩=some (.slice D p' f))
   (exact ⟨⟨⟨Loc.c 0 L1,Loc.c 1 L1⟩,Loc.c 2 L1,Loc.c 3 L1⟩,⟨Loc.c 0 L2,Loc.c 1 L2⟩,Loc.c 2 L2,Loc.c 3 L2⟩)
   (first
    | (go_at_call_of 350 (Value.agg #[Value.bool n1,Value.slice A m c]); refine (mul_any _ (fun _=>False) _ _ _ _ _ _ i1.to j1.to (Nat.le_trans HX.out.1 (by omega)) (Nat.le_trans HY.out.1 (by omega))).mono ?_; rintro e u1 ⟨w1,rfl,k1,hb1⟩; rw [sv_dig,sv_dig] at k1; obtain ⟨bw1,Aw1,mw1,kw1,rfl,k1⟩:=k1.op; have yu1:=hb1.size; (try simp only [zs] at yu1))
    | (go_at_call_of 350 (Value.agg #[Value.bool n2,Value.slice B m' d]); refine (mul_any _ (fun _=>False) _ _ _ _ _ _ i2.to j2.to (Nat.le_trans HX.out.2 (by omega)) (Nat.le_trans HY.out.2 (by omega))).mono ?_; rintro e u2 ⟨w2,rfl,k2,hb2⟩; rw [sv_dig,sv_dig] at k2; obtain ⟨bw2,Aw2,mw2,kw2,rfl,k2⟩:=k2.op; have yu2:=hb2.size; (try simp only [zs] at yu2))
    | (go_at_call 348; refine (clean_rat _ (fun _=>False) _ (x*y) ⟨_,_,_,_,(ratR_of k1.to k2.to),Nat.le_trans HN.out (by omega),Nat.le_trans HD.out (by omega),by unfold rv; rw [sv_dig,sv_dig]; exact rat_mul x y⟩).mono ?_; rintro e u3 ⟨v6,rfl,h6,hb6⟩; obtain ⟨b6,A6,m6,k6,b6',A6',m6',k6',rfl,h6, -, -⟩:=h6.op; have y6:=hb6.size; (try simp only [zs] at y6); obtain ⟨e5,g5, -⟩:=Loc.all L3 (w':=u3)))
  all_goals
   go_wp2_with fail
   refine bodyPost_ret (by simp [results,Tryz.results293,go_sem,e5,g5] <;> rfl) rfl ⟨_,rfl,h6.out,bel⟩

set_option maxHeartbeats 4000000 in
theorem ratdivide_any (w:World) (X:Nat→Prop) (v1 v2:Value) (x y:Rat) (h1:RatL 10000000 w X v1 x) (h2:RatL 10000000 w X v2 y) (hy:y ≠ 0) :
 Calls Tryz.prog 446 #[v1,v2] w fun e w'=>∃ v',e = .returned (.tuple #[v', .int .i64 0])∧RatV w' (Old w) v' (x / y)∧Below w.heap.size w w':=by
 have HX:=Lib.hid (h1.rsz (by omega))
 have HY:=Lib.hid (h2.rsz (by omega))
 obtain ⟨n1,A,m,c,n2,B,m',d,rfl,h1, -⟩:=h1.op
 obtain ⟨o1,C,p,e,o2,D,p',f,rfl,h2, -⟩:=h2.op
 go_enter Tryz.func446,Tryz.ntmps446
 go_upto_region 2 with fail
 go_cut [0] (fun _ W=>∃ (n1:Bool) (A:Option Addr) (m c:Nat) (n2:Bool) (B:Option Addr) (m' d:Nat) (o1:Bool) (C:Option Addr) (p e:Nat) (o2:Bool) (D:Option Addr) (p' f:Nat),
  Loc W w.heap.size 213 #[.bool n1, .slice A m c, .bool n2, .slice B m' d]∧Loc W (w.heap.size+1) 213 #[.bool o1, .slice C p e, .bool o2, .slice D p' f]∧Loc W (w.heap.size+1+1) 213 #[.bool false, .slice none 0 0, .bool false, .slice none 0 0]∧
  RatV W (fun b=>w.heap.size≤b∧b<w.heap.size+3) (.agg #[.bool n1, .slice A m c, .bool n2, .slice B m' d]) x∧RatV W (fun b=>w.heap.size≤b∧b<w.heap.size+3) (.agg #[.bool o1, .slice C p e, .bool o2, .slice D p' f]) y∧Below w.heap.size w W)
 case first=>
  have N1:=made1 w #[.bool n1, .slice A m c, .bool n2, .slice B m' d] 213
  have N2:=made2 w (.cells #[.bool n1, .slice A m c, .bool n2, .slice B m' d] 213) #[.bool o1, .slice C p e, .bool o2, .slice D p' f] 213
  go_wp2_with fail
  obtain ⟨c5,f5, -⟩:=N1.all (w':=(((w.alloc (.cells #[.bool n1, .slice A m c, .bool n2, .slice B m' d] 213)).alloc (.cells #[.bool o1, .slice C p e, .bool o2, .slice D p' f] 213)).alloc (.cells #[.bool false, .slice none 0 0, .bool false, .slice none 0 0] 213)).drew)
  obtain ⟨c6,f6, -⟩:=N2.all (w':=(((w.alloc (.cells #[.bool n1, .slice A m c, .bool n2, .slice B m' d] 213)).alloc (.cells #[.bool o1, .slice C p e, .bool o2, .slice D p' f] 213)).alloc (.cells #[.bool false, .slice none 0 0, .bool false, .slice none 0 0] 213)).drew)
  go_region_with (first
   | (go_at_call_of 348 (Value.agg #[Value.bool n1,Value.slice A m c,Value.bool n2,Value.slice B m' d]); refine (clean_rat _ (fun _=>False) _ x (h1.mono (by omega)).to).mono ?_; rintro e u1 ⟨v5,rfl,h5,hb5⟩; obtain ⟨b5,A5,m5,k5,b5',A5',m5',k5',rfl,h5, -, -⟩:=h5.op; have y5:=hb5.size; (try simp only [zs] at y5); obtain ⟨c6,f6, -⟩:=N2.all (w':=u1))
   | (go_at_call_of 348 (Value.agg #[Value.bool o1,Value.slice C p e,Value.bool o2,Value.slice D p' f]); refine (clean_rat _ (fun _=>False) _ y (h2.mono (by omega)).to).mono ?_; rintro e u2 ⟨v6,rfl,h6,hb6⟩; obtain ⟨b6,A6,m6,k6,b6',A6',m6',k6',rfl,h6, -, -⟩:=h6.op; have y6:=hb6.size; (try simp only [zs] at y6); obtain ⟨c7,f7, -⟩:=N1.all (w':=u2); obtain ⟨c8,f8, -⟩:=N2.all (w':=u2)))
  all_goals
   go_wp2_with fail
   go_meet
   have L1:=N1.to (w':=u2)
   have L2:=N2.to (w':=u2)
   have e12:w.heap.size ≠ w.heap.size+1:=by omega
   have e21:w.heap.size+1 ≠ w.heap.size:=by omega
   exact ⟨_,_,_,_,_,_,_,_,_,_,_,_,_,_,_,_,(by first | with_reducible exact Loc.two4_first e12 L1 | with_reducible exact Loc.two4_last e12 L1),(by first | with_reducible exact Loc.two4_first e21 L2 | with_reducible exact Loc.two4_last e21 L2),(made3 w _ _ _ _).to,RatV.out h5,RatV.out h6,bel⟩
 case rest=>
  clear h1 h2
  obtain ⟨n1,A,m,c,n2,B,m',d,o1,C,p,e,o2,D,p',f,L1,L2,L3,h1,h2,hB⟩:=hcut
  obtain ⟨_,_,_,_,_,_,_,_,e1,h1,i1,i2⟩:=h1.op
  simp only [Value.agg.injEq,Array.mk.injEq,List.cons.injEq,Value.bool.injEq,Value.slice.injEq,and_true] at e1
  obtain ⟨rfl,⟨rfl,rfl,rfl⟩,rfl,⟨rfl,rfl,rfl⟩⟩:=e1
  obtain ⟨_,_,_,_,_,_,_,_,e1,h2,j1,j2⟩:=h2.op
  simp only [Value.agg.injEq,Array.mk.injEq,List.cons.injEq,Value.bool.injEq,Value.slice.injEq,and_true] at e1
  obtain ⟨rfl,⟨rfl,rfl,rfl⟩,rfl,⟨rfl,rfl,rfl⟩⟩:=e1
  have z1:=L1.lt
  have z2:=L2.lt
  have z3:=L3.lt
  go_wp2_with fail
  have HV:Hid (val (dig (((x.den:Nat):Int)*y.num).natAbs) ≠ 0):=by
   show _ ≠ _
   rw [val_dig,Int.natAbs_mul]
   have h1:=x.den_nz
   have h2:y.num ≠ 0:=fun h=>hy (Rat.num_eq_zero.1 h)
   exact Nat.mul_ne_zero (by omega) (by omega)
  clear hy
  have HN:=Lib.hid (len_mulI HX.out.1 HY.out.2)
  have HD:=Lib.hid (len_mulI HX.out.2 HY.out.1)
  go_region_held3 (fun W=>((W.cell? ⟨w.heap.size,0,none⟩=some (.bool n1)∧W.cell? ⟨w.heap.size,1,none⟩=some (.slice A m c))∧W.cell? ⟨w.heap.size,2,none⟩=some (.bool n2)∧W.cell? ⟨w.heap.size,3,none⟩=some (.slice B m' d))∧(W.cell? ⟨w.heap.size+1,0,none⟩=some (.bool o1)∧W.cell? ⟨w.heap.size+1,1,none⟩=some (.slice C p e))∧W.cell? ⟨w.heap.size+1,2,none⟩=some (.bool o2)∧W.cell? ⟨w.heap.size+1,3,none⟩=some (.slice D p' f))
   (exact ⟨⟨⟨Loc.c 0 L1,Loc.c 1 L1⟩,Loc.c 2 L1,Loc.c 3 L1⟩,⟨Loc.c 0 L2,Loc.c 1 L2⟩,Loc.c 2 L2,Loc.c 3 L2⟩)
   (first
    | (go_at_call_of 350 (Value.agg #[Value.bool n1,Value.slice A m c]); refine (mul_any _ (fun _=>False) _ _ _ _ _ _ i1.to j2.to (Nat.le_trans HX.out.1 (by omega)) (Nat.le_trans HY.out.2 (by omega))).mono ?_; rintro e u1 ⟨w1,rfl,k1,hb1⟩; rw [sv_dig,sv_dig] at k1; obtain ⟨bw1,Aw1,mw1,kw1,rfl,k1⟩:=k1.op; have yu1:=hb1.size; (try simp only [zs] at yu1))
    | (go_at_call_of 350 (Value.agg #[Value.bool n2,Value.slice B m' d]); refine (mul_any _ (fun _=>False) _ _ _ _ _ _ i2.to j1.to (Nat.le_trans HX.out.2 (by omega)) (Nat.le_trans HY.out.1 (by omega))).mono ?_; rintro e u2 ⟨w2,rfl,k2,hb2⟩; rw [sv_dig,sv_dig] at k2; obtain ⟨bw2,Aw2,mw2,kw2,rfl,k2⟩:=k2.op; have yu2:=hb2.size; (try simp only [zs] at yu2))
    | (go_at_call 423; refine (new_any _ (fun _=>False) _ _ _ _ _ _ k1.to k2.to HV.out (Nat.le_trans HN.out (by omega)) (Nat.le_trans HD.out (by omega))).mono ?_; rintro e u3 ⟨v6,rfl,h6,hb6⟩; rw [sv_dig,sv_dig,rat_div] at h6; obtain ⟨b6,A6,m6,k6,b6',A6',m6',k6',rfl,h6, -, -⟩:=h6.op; have y6:=hb6.size; (try simp only [zs] at y6); obtain ⟨e5,g5, -⟩:=Loc.all L3 (w':=u3)))
  all_goals
   go_wp2_with fail
   refine bodyPost_ret (by simp [results,Tryz.results446,go_sem,e5,g5] <;> rfl) rfl ⟨_,rfl,h6.out,bel⟩

set_option maxHeartbeats 4000000 in
theorem ratcompare_any (w:World) (X:Nat→Prop) (v1 v2:Value) (x y:Rat) (h1:RatL 10000000 w X v1 x) (h2:RatL 10000000 w X v2 y) :
 Calls Tryz.prog 237 #[v1,v2] w fun e w'=>e = .returned (.int .i64 (rcmp x y))∧Below w.heap.size w w':=by
 have HX:=Lib.hid (h1.rsz (by omega))
 have HY:=Lib.hid (h2.rsz (by omega))
 obtain ⟨n1,A,m,c,n2,B,m',d,rfl,h1, -⟩:=h1.op
 obtain ⟨o1,C,p,e,o2,D,p',f,rfl,h2, -⟩:=h2.op
 go_enter Tryz.func237,Tryz.ntmps237
 go_upto_region 2 with fail
 go_cut [0] (fun _ W=>∃ (n1:Bool) (A:Option Addr) (m c:Nat) (n2:Bool) (B:Option Addr) (m' d:Nat) (o1:Bool) (C:Option Addr) (p e:Nat) (o2:Bool) (D:Option Addr) (p' f:Nat),
  Loc W w.heap.size 213 #[.bool n1, .slice A m c, .bool n2, .slice B m' d]∧Loc W (w.heap.size+1) 213 #[.bool o1, .slice C p e, .bool o2, .slice D p' f]∧
  RatV W (fun b=>w.heap.size≤b∧b<w.heap.size+2) (.agg #[.bool n1, .slice A m c, .bool n2, .slice B m' d]) x∧RatV W (fun b=>w.heap.size≤b∧b<w.heap.size+2) (.agg #[.bool o1, .slice C p e, .bool o2, .slice D p' f]) y∧Below w.heap.size w W)
 case first=>
  have N1:=made1 w #[.bool n1, .slice A m c, .bool n2, .slice B m' d] 213
  have N2:=made2 w (.cells #[.bool n1, .slice A m c, .bool n2, .slice B m' d] 213) #[.bool o1, .slice C p e, .bool o2, .slice D p' f] 213
  go_wp2_with fail
  obtain ⟨c5,f5, -⟩:=N1.all (w':=((w.alloc (.cells #[.bool n1, .slice A m c, .bool n2, .slice B m' d] 213)).alloc (.cells #[.bool o1, .slice C p e, .bool o2, .slice D p' f] 213)).drew)
  obtain ⟨c6,f6, -⟩:=N2.all (w':=((w.alloc (.cells #[.bool n1, .slice A m c, .bool n2, .slice B m' d] 213)).alloc (.cells #[.bool o1, .slice C p e, .bool o2, .slice D p' f] 213)).drew)
  go_region_with (first
   | (go_at_call_of 348 (Value.agg #[Value.bool n1,Value.slice A m c,Value.bool n2,Value.slice B m' d]); refine (clean_rat _ (fun _=>False) _ x (h1.mono (by omega)).to).mono ?_; rintro e u1 ⟨v5,rfl,h5,hb5⟩; obtain ⟨b5,A5,m5,k5,b5',A5',m5',k5',rfl,h5, -, -⟩:=h5.op; have y5:=hb5.size; (try simp only [zs] at y5); obtain ⟨c6,f6, -⟩:=N2.all (w':=u1))
   | (go_at_call_of 348 (Value.agg #[Value.bool o1,Value.slice C p e,Value.bool o2,Value.slice D p' f]); refine (clean_rat _ (fun _=>False) _ y (h2.mono (by omega)).to).mono ?_; rintro e u2 ⟨v6,rfl,h6,hb6⟩; obtain ⟨b6,A6,m6,k6,b6',A6',m6',k6',rfl,h6, -, -⟩:=h6.op; have y6:=hb6.size; (try simp only [zs] at y6); obtain ⟨c7,f7, -⟩:=N1.all (w':=u2); obtain ⟨c8,f8, -⟩:=N2.all (w':=u2)))
  all_goals
   go_wp2_with fail
   go_meet
   have L1:=N1.to (w':=u2)
   have L2:=N2.to (w':=u2)
   have e12:w.heap.size ≠ w.heap.size+1:=by omega
   have e21:w.heap.size+1 ≠ w.heap.size:=by omega
   exact ⟨_,_,_,_,_,_,_,_,_,_,_,_,_,_,_,_,(by first | with_reducible exact Loc.two4_first e12 L1 | with_reducible exact Loc.two4_last e12 L1),(by first | with_reducible exact Loc.two4_first e21 L2 | with_reducible exact Loc.two4_last e21 L2),RatV.out h5,RatV.out h6,bel⟩
 case rest=>
  clear h1 h2
  obtain ⟨n1,A,m,c,n2,B,m',d,o1,C,p,e,o2,D,p',f,L1,L2,h1,h2,hB⟩:=hcut
  obtain ⟨_,_,_,_,_,_,_,_,e1,h1,i1,i2⟩:=h1.op
  simp only [Value.agg.injEq,Array.mk.injEq,List.cons.injEq,Value.bool.injEq,Value.slice.injEq,and_true] at e1
  obtain ⟨rfl,⟨rfl,rfl,rfl⟩,rfl,⟨rfl,rfl,rfl⟩⟩:=e1
  obtain ⟨_,_,_,_,_,_,_,_,e1,h2,j1,j2⟩:=h2.op
  simp only [Value.agg.injEq,Array.mk.injEq,List.cons.injEq,Value.bool.injEq,Value.slice.injEq,and_true] at e1
  obtain ⟨rfl,⟨rfl,rfl,rfl⟩,rfl,⟨rfl,rfl,rfl⟩⟩:=e1
  have z1:=L1.lt
  have z2:=L2.lt

  go_wp2_with fail
  have HC:Hid ((x.num*(y.den:Int) - y.num*(x.den:Int)).sign=rcmp x y):=rat_cmp x y
  go_region_held3 (fun W=>((W.cell? ⟨w.heap.size,0,none⟩=some (.bool n1)∧W.cell? ⟨w.heap.size,1,none⟩=some (.slice A m c))∧W.cell? ⟨w.heap.size,2,none⟩=some (.bool n2)∧W.cell? ⟨w.heap.size,3,none⟩=some (.slice B m' d))∧(W.cell? ⟨w.heap.size+1,0,none⟩=some (.bool o1)∧W.cell? ⟨w.heap.size+1,1,none⟩=some (.slice C p e))∧W.cell? ⟨w.heap.size+1,2,none⟩=some (.bool o2)∧W.cell? ⟨w.heap.size+1,3,none⟩=some (.slice D p' f))
   (exact ⟨⟨⟨Loc.c 0 L1,Loc.c 1 L1⟩,Loc.c 2 L1,Loc.c 3 L1⟩,⟨Loc.c 0 L2,Loc.c 1 L2⟩,Loc.c 2 L2,Loc.c 3 L2⟩)
   (first
    | (go_at_call_of 350 (Value.agg #[Value.bool n1,Value.slice A m c]); refine (mul_any _ (fun _=>False) _ _ _ _ _ _ i1.to j2.to (Nat.le_trans HX.out.1 (by omega)) (Nat.le_trans HY.out.2 (by omega))).mono ?_; rintro e u1 ⟨w1,rfl,k1,hb1⟩; rw [sv_dig,sv_dig] at k1; obtain ⟨bw1,Aw1,mw1,kw1,rfl,k1⟩:=k1.op; have yu1:=hb1.size; (try simp only [zs] at yu1))
    | (go_at_call_of 350 (Value.agg #[Value.bool o1,Value.slice C p e]); refine (mul_any _ (fun _=>False) _ _ _ _ _ _ j1.to i2.to (Nat.le_trans HY.out.1 (by omega)) (Nat.le_trans HX.out.2 (by omega))).mono ?_; rintro e u2 ⟨w2,rfl,k2,hb2⟩; rw [sv_dig,sv_dig] at k2; obtain ⟨bw2,Aw2,mw2,kw2,rfl,k2⟩:=k2.op; have yu2:=hb2.size; (try simp only [zs] at yu2))
    | (go_at_call 349; refine (icompare_any _ (fun _=>False) _ _ _ _ _ _ k1.to k2.to).mono ?_; rintro e u3 ⟨he,hb6⟩; rw [sv_dig,sv_dig,HC.out] at he; subst he; have y6:=hb6.size; (try simp only [zs] at y6)))
  all_goals
   go_wp2_with fail
   go_ret
   exact ⟨rfl,bel⟩
end Go.Proofs.YtbdcjhoedhhabaaGreat

