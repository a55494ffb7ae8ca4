/- Contracts of the functions that the statements reach, part 10. -/
import Derived.Test.YtbdcjhoedhhabaaGreatF9
set_option linter.unusedSimpArgs false
set_option linter.unusedVariables false

/- The executor's drawn regions: any order that the region allows comes to the same. -/
namespace Go.Proofs.YtbdcjhoedhhabaaGreat
set_option linter.unusedSectionVars false
open Go.RowKit

/-! ### What a set of done operations has made of the memory and the registers -/

noncomputable def gD (R:Nat→Rec) (m0:Mem) (D:Nat→Bool):Nat→Nat→Option Blk
 | 0,b=>m0.blks.get b
 | k+1,b=>if D k=true∧(R k).touch b=true then (R k).post.blks.get b else gD R m0 D k b

noncomputable def rD (dst:Nat→Option Nat) (R:Nat→Rec) (r0:Regs) (D:Nat→Bool):Nat→Nat→AV
 | 0,t=>r0.at t
 | k+1,t=>if D k=true∧dst k=some t then (R k).v else rD dst R r0 D k t

def SD (R:Nat→Rec) (m0:Mem) (D:Nat→Bool) (n b:Nat):Prop:=b<m0.next∨∃ i,i<n∧D i=true∧(R i).on=true∧(R i).pre.next≤b∧b<(R i).post.next

def dset (D:Nat→Bool) (j:Nat):Nat→Bool:=fun i=>if i=j then true else D i

theorem dset_at (D:Nat→Bool) (j:Nat):dset D j j=true:=if_pos rfl
theorem dset_ne (D:Nat→Bool) {i j:Nat} (h:i ≠ j):dset D j i=D i:=if_neg h

section
variable {R:Nat→Rec} {m0:Mem} {r0:Regs} {dst:Nat→Option Nat} {D:Nat→Bool}

/-- Done up to j and nothing behind it, as far as block b goes. -/
theorem gD_upto {j b:Nat} {E:Nat→Bool}:∀ {k:Nat},j≤k→(∀ i,i<k→(R i).touch b=true→(D i=true↔i<j))→(∀ i,i<j→E i=true)→gD R m0 D k b=gD R m0 E j b
 | 0, hj, h, hE => by have : j = 0 := by omega
                      subst this; rfl
 | k + 1, hj, h, hE => by
   rw [gD]
   by_cases hk:j=k+1
   ·subst hk
    rw [gD]
    have ih:gD R m0 D k b=gD R m0 E k b:=gD_upto (j:=k) (Nat.le_refl _) (fun i hi ht=>by rw [h i (by omega) ht]; omega) (fun i hi=>hE i (by omega))
    rw [ih]
    by_cases ht:(R k).touch b=true
    ·have h1:=(h k (by omega) ht).2 (by omega)
     rw [h1,hE k (by omega)]
    ·rw [if_neg (fun x=>ht x.2),if_neg (fun x=>ht x.2)]
   ·rw [if_neg]
    ·exact gD_upto (by omega) (fun i hi=>h i (by omega)) hE
    ·rintro ⟨h1,h2⟩
     have:=(h k (by omega) h2).1 h1
     omega

theorem rD_upto {j t:Nat} {E:Nat→Bool}:∀ {k:Nat},j≤k→(∀ i,i<k→dst i=some t→(D i=true↔i<j))→(∀ i,i<j→E i=true)→rD dst R r0 D k t=rD dst R r0 E j t
 | 0, hj, h, hE => by have : j = 0 := by omega
                      subst this; rfl
 | k + 1, hj, h, hE => by
   rw [rD]
   by_cases hk:j=k+1
   ·subst hk
    rw [rD]
    have ih:rD dst R r0 D k t=rD dst R r0 E k t:=rD_upto (j:=k) (Nat.le_refl _) (fun i hi ht=>by rw [h i (by omega) ht]; omega) (fun i hi=>hE i (by omega))
    rw [ih]
    by_cases ht:dst k=some t
    ·have h1:=(h k (by omega) ht).2 (by omega)
     rw [h1,hE k (by omega)]
    ·rw [if_neg (fun x=>ht x.2),if_neg (fun x=>ht x.2)]
   ·rw [if_neg]
    ·exact rD_upto (by omega) (fun i hi=>h i (by omega)) hE
    ·rintro ⟨h1,h2⟩
     have:=(h k (by omega) h2).1 h1
     omega

theorem gD_add {j b:Nat} (hD:D j=false):∀ {k:Nat},(j<k→(∀ i,j<i→i<k→D i=true→(R i).touch b=true→(R j).touch b=true→False)→gD R m0 (dset D j) k b=if (R j).touch b=true then (R j).post.blks.get b else gD R m0 D k b)∧(k≤j→gD R m0 (dset D j) k b=gD R m0 D k b)
 | 0=>⟨fun h=>by omega,fun _=>rfl⟩
 | k + 1 => by
   obtain ⟨ih1,ih2⟩:=gD_add hD (k:=k) (b:=b)
   refine ⟨fun hj h=>?_,fun hk=>?_⟩
   ·rw [gD,gD]
    by_cases hjk:k=j
    ·subst hjk
     rw [dset_at,hD,ih2 (Nat.le_refl _)]
     simp
    ·rw [dset_ne _ hjk,ih1 (by omega) (fun i h1 h2=>h i h1 (by omega))]
     by_cases hd:D k=true∧(R k).touch b=true
     ·rw [if_pos hd,if_pos hd]
      rw [if_neg (fun ht=>h k (by omega) (by omega) hd.1 hd.2 ht)]
     ·rw [if_neg hd,if_neg hd]
   ·rw [gD,gD,dset_ne _ (by omega),ih2 (by omega)]

theorem rD_add {j t:Nat} (hD:D j=false):∀ {k:Nat},(j<k→(∀ i,j<i→i<k→D i=true→dst i=some t→dst j=some t→False)→rD dst R r0 (dset D j) k t=if dst j=some t then (R j).v else rD dst R r0 D k t)∧(k≤j→rD dst R r0 (dset D j) k t=rD dst R r0 D k t)
 | 0=>⟨fun h=>by omega,fun _=>rfl⟩
 | k + 1 => by
   obtain ⟨ih1,ih2⟩:=rD_add hD (k:=k) (t:=t)
   refine ⟨fun hj h=>?_,fun hk=>?_⟩
   ·rw [rD,rD]
    by_cases hjk:k=j
    ·subst hjk
     rw [dset_at,hD,ih2 (Nat.le_refl _)]
     simp
    ·rw [dset_ne _ hjk,ih1 (by omega) (fun i h1 h2=>h i h1 (by omega))]
     by_cases hd:D k=true∧dst k=some t
     ·rw [if_pos hd,if_pos hd]
      rw [if_neg (fun ht=>h k (by omega) (by omega) hd.1 hd.2 ht)]
     ·rw [if_neg hd,if_neg hd]
   ·rw [rD,rD,dset_ne _ (by omega),ih2 (by omega)]

end

/-! ### For what an operation waits -/

theorem anc_bit {acc:List Nat} {i:Nat}:∀ {es:List Edge},Nat.testBit (ancE acc es) i=true↔∃ e∈es,Region.binds .any e=true∧(e.on=i∨Nat.testBit (acc.getD e.on 0) i=true)
 | []=>by simp [ancE]
 | e :: es => by
   rw [ancE]
   cases hb:Region.binds .any e with
   | true =>
     rw [cond_true,Nat.testBit_or,Nat.testBit_or,Nat.testBit_two_pow]
     simp only [Bool.or_eq_true,decide_eq_true_eq,List.mem_cons,anc_bit (es:=es)]
     constructor
     ·rintro ((h | h) | ⟨f,h1,h2⟩)
      ·exact ⟨e, .inl rfl,hb, .inl h⟩
      ·exact ⟨e, .inl rfl,hb, .inr h⟩
      ·exact ⟨f, .inr h1,h2⟩
     ·rintro ⟨f,rfl | h1,h2,h3⟩
      ·exact .inl h3
      ·exact .inr ⟨f,h1,h2,h3⟩
   | false =>
     rw [cond_false,anc_bit (es:=es)]
     simp only [List.mem_cons]
     constructor
     ·rintro ⟨f,h1,h2⟩; exact ⟨f, .inr h1,h2⟩
     ·rintro ⟨f,rfl | h1,h2,h3⟩
      ·rw [hb] at h2; cases h2
      ·exact ⟨f,h1,h2,h3⟩

theorem ancL_spec:∀ (l:List Oper) (acc:List Nat),(ancL l acc).length=acc.length+l.length∧(∀ i,i<acc.length→(ancL l acc).getD i 0=acc.getD i 0)∧
 ∀ j o,l[j]? = some o→(ancL l acc).getD (acc.length+j) 0=ancE ((ancL l acc).take (acc.length+j)) o.after.toList
 | [],acc=>⟨rfl,fun _ _=>rfl,fun j o h=>by simp at h⟩
 | p :: l, acc => by
   obtain ⟨h1,h2,h3⟩:=ancL_spec l (acc ++ [ancE acc p.after.toList])
   rw [ancL]
   simp only [List.length_append,List.length_cons,List.length_nil,Nat.zero_add] at h1 h2 h3
   refine ⟨by rw [h1,List.length_cons]; omega,fun i hi=>?_,fun j o h=>?_⟩
   ·rw [h2 i (by omega),List.getD_eq_getElem?_getD,List.getD_eq_getElem?_getD,List.getElem?_append_left hi]
   ·cases j with
    | zero =>
      simp only [List.getElem?_cons_zero,Option.some.injEq] at h
      subst h
      rw [Nat.add_zero,h2 _ (by omega),List.getD_eq_getElem?_getD,List.getElem?_append_right (Nat.le_refl _),Nat.sub_self]
      simp only [List.getElem?_cons_zero,Option.getD_some]
      congr 1
      apply List.ext_getElem?
      intro i
      rw [List.getElem?_take]
      by_cases hi:i<acc.length
      ·rw [if_pos hi]
       have:=h2 i (by omega)
       rw [List.getD_eq_getElem?_getD,List.getD_eq_getElem?_getD,List.getElem?_append_left hi,List.getElem?_eq_getElem hi,List.getElem?_eq_getElem (by rw [h1]; omega)] at this
       rw [List.getElem?_eq_getElem hi,List.getElem?_eq_getElem (by rw [h1]; omega)]
       simpa using this.symm
      ·rw [if_neg hi,List.getElem?_eq_none (by omega)]
    | succ j =>
      have:=h3 j o h
      rw [show acc.length+1+j=acc.length+(j+1) by omega] at this
      exact this

theorem regA_spec {ops:Array Oper}:∀ (l:List Oper) (j:Nat) (la:List Nat) (done:List Oper),regA ops l j la done=true→done.length=j→
 ∀ i o,l[i]? = some o→(∀ e∈o.after,Region.binds .any e=true→e.on<j+i)∧∀ k p,k<j+i→(done ++ l)[k]? = some p→Nat.testBit (la.getD i 0) k=true∨Oper.apart ops p o=true
 | [],j,la,done,h,hd,i,o,hi=>by simp at hi
 | q :: l,j,[],done,h,hd,i,o,hi=>by cases h
 | q :: l, j, a :: la, done, h, hd, i, o, hi => by
   rw [regA] at h
   simp only [Bool.and_eq_true,List.all_eq_true,Bool.or_eq_true,Bool.not_eq_true'] at h
   obtain ⟨⟨h1,h2⟩,h3⟩:=h
   cases i with
   | zero =>
     simp only [List.getElem?_cons_zero,Option.some.injEq] at hi
     subst hi
     refine ⟨fun e he hb=>?_,fun k p hk hp=>?_⟩
     ·rcases h1 e (by simpa using he) with h | h
      ·rw [hb] at h; cases h
      ·have:e.on<j:=Nat.le_of_ble_eq_true h
       omega
     ·have hp:done[k]? = some p:=by rw [List.getElem?_append_left (by omega)] at hp; exact hp
      have key:∀ (d:List Oper) (s:Nat),pairsA ops a q s d=true→∀ x p,d[x]? = some p→Nat.testBit a (s+x)=true∨Oper.apart ops p q=true:=by
       intro d
       induction d with
       | nil=>intro s _ x p hx; simp at hx
       | cons y d ih =>
         intro s hs x p hx
         rw [pairsA] at hs
         simp only [Bool.and_eq_true,Bool.or_eq_true] at hs
         cases x with
         | zero =>
           simp only [List.getElem?_cons_zero,Option.some.injEq] at hx
           subst hx
           exact hs.1
         | succ x =>
           have:=ih (s+1) hs.2 x p hx
           rw [show s+(x+1)=s+1+x by omega]
           exact this
      have:=key done 0 h2 k p hp
      rw [Nat.zero_add] at this
      exact this
   | succ i =>
     obtain ⟨g1,g2⟩:=regA_spec l (j+1) la (done ++ [q]) h3 (by simp [hd]) i o hi
     refine ⟨fun e he hb=>?_,fun k p hk hp=>?_⟩
     ·have:=g1 e he hb; omega
     ·have:=g2 k p (by omega) (by rw [List.append_assoc]; exact hp)
      exact this

end Go.Proofs.YtbdcjhoedhhabaaGreat

/- The executor's drawn regions are sound. -/
namespace Go.Proofs.YtbdcjhoedhhabaaGreat
set_option linter.unusedSectionVars false
open Go.RowKit

theorem restrict (r:Regs):∀ (l:List Nat),∃ r':Regs,∀ t,r'.at t=if t∈l then r.at t else .undef
 | []=>⟨.nil,fun t=>rfl⟩
 | k :: l => by
   obtain ⟨r',h⟩:=restrict r l
   refine ⟨Tr.put r' k (some (r.at k)),fun t=>?_⟩
   show ((Tr.put r' k (some (r.at k))).get t).getD .undef=_
   rw [Tr.get_put]
   by_cases ht:t=k
   ·subst ht; simp
   ·rw [if_neg ht]
    have:=h t
    unfold Regs.at at this
    rw [this]
    simp [ht,Regs.at]

theorem GOk.mono {ρ:Rho} {g:Nat→Option Blk} {S S':Nat→Prop} {w:World} (h:GOk ρ g S w) (hs:∀ b,S b→S' b):GOk ρ g S' w:=
 ⟨fun b k e=>⟨hs b (h.live b k e).1,Blk.sup_mono hs (h.live b k e).2.1,(h.live b k e).2.2⟩,h.one⟩

theorem putR_any {N:Nat} {r r1:Regs} {dst:Option Nat} {v:AV} (h:putR N r dst v=some r1) (r':Regs) (v':AV):∃ r2,putR N r' dst v'=some r2∧∀ t,r2.at t=if dst=some t then v' else r'.at t:=by
 cases dst with
 | none=>exact ⟨r',rfl,fun t=>by simp⟩
 | some d =>
   unfold putR at h ⊢
   simp only at h ⊢
   cases hb:Nat.blt d N with
   | false=>rw [hb] at h; cases h
   | true =>
     refine ⟨_,rfl,fun t=>?_⟩
     show ((Tr.put r' d (some v')).get t).getD .undef=_
     rw [Tr.get_put]
     by_cases ht:t=d
     ·subst ht; simp
     ·rw [if_neg ht,if_neg (by intro e; injection e with e; exact ht e.symm)]
      rfl

structure Drawn (T:Tabs) (call:CallA) (N:Nat) (ops:Array Oper) (A:List Nat) (R:Nat→Rec) (rs:Nat→Regs) (ms:Nat→Mem):Prop where
 step:∀ i,i<ops.size→∃ o,StepOk T call N ops A R rs ms i o
 wf:∀ i,i≤ops.size→MWf (ms i)∧RSup (fun b=>b<(ms i).next) (rs i)∧RBd N (rs i)
 back:∀ j o,ops[j]? = some o→∀ e∈o.after,Region.binds .any e=true→e.on<j
 pair:∀ i j o p,i<j→ops[i]? = some p→ops[j]? = some o→Nat.testBit (A.getD j 0) i=true∨Oper.apart ops p o=true
 anc:∀ j o,ops[j]? = some o→∀ i,Nat.testBit (A.getD j 0) i=true→∃ e∈o.after,Region.binds .any e=true∧(e.on=i∨Nat.testBit (A.getD e.on 0) i=true)

/-- All for which a done operation waits is done. -/
def Closed (ops:Array Oper) (D:Nat→Bool):Prop:=∀ j o,ops[j]? = some o→D j=true→∀ e∈o.after,Region.binds .any e=true→D e.on=true

def dstOf (ops:Array Oper) (i:Nat):Option Nat:=(ops[i]?).bind (·.dst)

section
variable {T:Tabs} {P:Program} (H:TabsOk T P) {call:CallA} (hc:CallsOk T P call) {N:Nat} {ops:Array Oper} {A:List Nat} {R:Nat→Rec} {rs:Nat→Regs} {ms:Nat→Mem} (X:Drawn T call N ops A R rs ms)
include H hc X

theorem Drawn.up {i k:Nat} (hik:i≤k) (hk:k≤ops.size):(ms i).next≤(ms k).next:=by
 induction k with
 | zero => have : i = 0 := by omega
           subst this; exact Nat.le_refl _
 | succ k ih =>
   by_cases h:i=k+1
   ·subst h; exact Nat.le_refl _
   ·refine Nat.le_trans (ih (by omega) (by omega)) ?_
    obtain ⟨o,s⟩:=X.step k (by omega)
    obtain ⟨w1,w2,w3⟩:=X.wf k (by omega)
    cases hon:(R k).on with
    | false=>rw [(s.off hon).2]; exact Nat.le_refl _
    | true =>
      obtain ⟨n1,n2⟩:=s.next hon
      have hwf:MWf (R k).pre:=⟨fun b l e=>by rw [n1]; exact w1.lt b l (s.sub hon b l e),fun b l e=>by rw [n1]; exact w1.sup b l (s.sub hon b l e)⟩
      have:=(doA_pure H hc (s.run hon) hwf (by rw [n1]; exact w2) w3).1
      omega

theorem Drawn.reach {D:Nat→Bool} (hD:Closed ops D):∀ (j:Nat) (o:Oper),ops[j]? = some o→(∀ e∈o.after,Region.binds .any e=true→D e.on=true)→∀ i,Nat.testBit (A.getD j 0) i=true→D i=true:=by
 intro j
 induction j using Nat.strongRecOn with
 | _ j ih =>
   intro o ho he i hi
   obtain ⟨e,h1,h2,h3⟩:=X.anc j o ho i hi
   have hlt:=X.back j o ho e h1 h2
   rcases h3 with rfl | h3
   ·exact he e h1 h2
   ·have hj:j<ops.size:=(Array.getElem?_eq_some_iff.1 ho).1
    have hq:ops[e.on]? = some ops[e.on]:=Array.getElem?_eq_getElem (by omega)
    exact ih e.on hlt _ hq (fun f f1 f2=>hD e.on _ hq (he e h1 h2) f f1 f2) i h3

/-- How things stand when the operations of D are done. -/
structure Inv (N:Nat) (ops:Array Oper) (R:Nat→Rec) (r0:Regs) (m0 mn:Mem) (ρ0:Rho) (w0:World) (D:Nat→Bool) (a:Act) (w:World) (ρ:Rho) (r:Regs):Prop where
 regs:∀ t,r.at t=rD (dstOf ops) R r0 D ops.size t
 ok:RegOk ρ N r a
 rsup:RSup (SD R m0 D ops.size) r
 mem:GOk ρ (gD R m0 D ops.size) (SD R m0 D ops.size) w
 same:∀ b,b<m0.next∨mn.next≤b→ρ b=ρ0 b
 keep:Keep (Lv ρ0 m0) w0 w
 live:∀ b k,gD R m0 D ops.size b=some k→w0.heap.size≤(ρ b).addr∨Lv ρ0 m0 (ρ b).addr

theorem Drawn.full {D:Nat→Bool}:∀ {k:Nat},k≤ops.size→(∀ i,i<k→D i=true)→(∀ b,gD R (ms 0) D k b=(ms k).blks.get b)∧∀ t,rD (dstOf ops) R (rs 0) D k t=(rs k).at t
 | 0,_,_=>⟨fun _=>rfl,fun _=>rfl⟩
 | k + 1, hk, hD => by
   obtain ⟨h1,h2⟩:=Drawn.full (D:=D) (k:=k) (by omega) (fun i hi=>hD i (by omega))
   obtain ⟨o,s⟩:=X.step k (by omega)
   refine ⟨fun b=>?_,fun t=>?_⟩
   ·rw [gD,hD k (by omega),h1]
    cases hon:(R k).on with
    | false =>
      rw [if_neg (by rintro ⟨_,h⟩; rw [Rec.touch_iff,hon] at h; cases h.1),(s.off hon).2]
    | true =>
      rw [s.mem hon]
      simp
   ·rw [rD,hD k (by omega),h2]
    obtain ⟨r2,e1,e2⟩:=putR_any s.put (rs k) (R k).v
    rw [s.put] at e1
    injection e1 with e1
    subst e1
    rw [e2 t]
    simp [dstOf,s.op]

theorem Drawn.exec {r0:Regs} {m0 mn:Mem} (h0:rs 0=r0∧ms 0=m0∧ms ops.size=mn) {ρ0:Rho} {w0:World} {D:Nat→Bool} (hD:Closed ops D) {a:Act} {w:World} {ρ:Rho} {r:Regs} (I:Inv N ops R r0 m0 mn ρ0 w0 D a w ρ r)
 {j:Nat} {o:Oper} (hj:ops[j]? = some o) (hn:D j=false) (hready:∀ e∈o.after,Region.binds .any e=true→D e.on=true) {K:Act→World→Prop} {Q:Exit→Act→World→Prop}
 (hK:∀ a' w' ρ' r',Inv N ops R r0 m0 mn ρ0 w0 (dset D j) a' w' ρ' r'→K a' w'):wpOp P ops Q j K a w:=by
 obtain ⟨hr0,hm0,hmn⟩:=h0
 have hjn:j<ops.size:=(Array.getElem?_eq_some_iff.1 hj).1
 obtain ⟨o',s⟩:=X.step j hjn
 have:o'=o:=by have:=s.op; rw [hj] at this; injection this with this; exact this.symm
 subst this
 obtain ⟨wf1,wf2,wf3⟩:=X.wf j (by omega)
 have before:∀ i,Nat.testBit (A.getD j 0) i=true→D i=true:=X.reach H hc hD j o' hj hready
 have after:∀ i p,j<i→ops[i]? = some p→D i=true→Nat.testBit (A.getD i 0) j=false:=by
  intro i p hi hp hd
  cases hb:Nat.testBit (A.getD i 0) j with
  | false=>rfl
  | true =>
    have:=X.reach H hc hD i p hp (fun e h1 h2=>hD i p hp hd e h1 h2) j hb
    rw [hn] at this; cases this
 -- the registers that the operation looks at
 have hlook:∀ t,t∈o'.looksAt ops→r.at t=(rs j).at t:=by
  intro t ht
  rw [I.regs t,← hr0]
  rw [rD_upto (j:=j) (E:=fun _=>true) (by omega) (fun i hi hd=>?_) (fun _ _=>rfl)]
  ·exact (X.full H hc (D:=fun _=>true) (by omega) (fun _ _=>rfl)).2 t
  ·unfold dstOf at hd
   have hp:ops[i]? = some ops[i]:=Array.getElem?_eq_getElem hi
   rw [hp] at hd
   simp only [Option.bind_some] at hd
   by_cases h1:i<j
   ·refine ⟨fun _=>h1,fun _=>?_⟩
    rcases X.pair i j o' _ h1 hp hj with h | h
    ·exact before i h
    ·exact absurd ht ((Oper.apart_spec h).1 t hd)
   ·by_cases h2:i=j
    ·subst h2; rw [hn]; simp
    ·refine ⟨fun h3=>?_,fun h3=>absurd h3 h1⟩
     rcases X.pair j i _ o' (by omega) hj hp with h | h
     ·rw [after i _ (by omega) hp h3] at h; cases h
     ·exact absurd ht ((Oper.apart_spec h).2.2 t hd)
 have hops:∀ t,Operand.tmp t∈o'.op.operands→r.at t=(rs j).at t:=fun t ht=>hlook t (List.mem_append_left _ (List.mem_filterMap.2 ⟨.tmp t,by simpa using ht,rfl⟩))
 have hwant:Region.wanted o' (yielded ops a.tmps)=(R j).on:=by
  rw [←wantedA_eq H hc I.ok o',← s.want]
  unfold wantedA
  cases hg:o'.guard with
  | none=>rfl
  | some p =>
    obtain ⟨g,want⟩:=p
    simp only
    cases hq:ops.toList[g]? with
    | none=>rfl
    | some q =>
      simp only
      cases hdst:q.dst with
      | none=>rfl
      | some t =>
        simp only
        rw [hlook t (List.mem_append_right _ (by
         rw [hg]
         simp only
         rw [Array.getElem?_toList] at hq
         rw [hq]
         simp [hdst]))]
 -- what a further value does to the registers
 have hregs:∀ (r2:Regs),(∀ t,r2.at t=if o'.dst=some t then (R j).v else r.at t)→∀ t,r2.at t=rD (dstOf ops) R r0 (dset D j) ops.size t:=by
  intro r2 h2 t
  rw [(rD_add hn).1 hjn (fun i h1 h3 h4 h5 h6=>?_),h2 t,I.regs t]
  ·simp [dstOf,hj]
  ·have hp:ops[i]? = some ops[i]:=Array.getElem?_eq_getElem h3
   unfold dstOf at h5 h6
   rw [hp] at h5
   rw [hj] at h6
   simp only [Option.bind_some] at h5 h6
   rcases X.pair j i _ o' h1 hj hp with h | h
   ·rw [after i _ h1 hp h4] at h; cases h
   ·exact (Oper.apart_spec h).2.1 t h6 h5
 have hSD:∀ b,SD R m0 D ops.size b→SD R m0 (dset D j) ops.size b:=by
  rintro b (h | ⟨i,h1,h2,h3⟩)
  ·exact .inl h
  ·refine .inr ⟨i,h1,?_,h3⟩
   by_cases hij:i=j
   ·subst hij; exact dset_at D i
   ·rw [dset_ne D hij]; exact h2
 unfold wpOp
 rw [hj]
 simp only [hwant]
 cases hon:(R j).on with
 | false =>
   rw [if_neg (by simp)]
   obtain ⟨f1,f2⟩:=s.off hon
   obtain ⟨r2,e1,e2⟩:=putR_any s.put r .undef
   have hg:∀ b,gD R m0 (dset D j) ops.size b=gD R m0 D ops.size b:=by
    intro b
    have hnt:∀ b,(R j).touch b=true→False:=fun b ht=>by rw [Rec.touch_iff,hon] at ht; cases ht.1
    rw [(gD_add hn).1 hjn (fun i _ _ _ _ ht=>hnt b ht),if_neg (fun ht=>hnt b ht)]
   have hg':gD R m0 (dset D j) ops.size=gD R m0 D ops.size:=funext hg
   refine hK _ _ ρ r2 ⟨hregs r2 (fun t=>by rw [e2 t,f1]),?_,fun t=>?_,?_,I.same,I.keep,fun b k e=>I.live b k (by rw [←hg]; exact e)⟩
   ·rw [←conc_undef ρ]; exact RegOk.put I.ok e1
   ·rw [e2 t]
    split
    ·trivial
    ·exact sup_mono hSD _ (I.rsup t)
   ·rw [hg']; exact I.mem.mono hSD
 | true =>
   rw [if_pos rfl]
   left
   obtain ⟨n1,n2⟩:=s.next hon
   -- the memory in which it ran is a piece of this one
   have hsub:∀ b k,(R j).pre.blks.get b=some k→gD R m0 D ops.size b=some k:=by
    intro b k e
    rw [←hm0,gD_upto (j:=j) (E:=fun _=>true) (by omega) (fun i hi ht=>?_) (fun _ _=>rfl)]
    ·rw [(X.full H hc (D:=fun _=>true) (by omega) (fun _ _=>rfl)).1 b]
     exact s.sub hon b k e
    ·have hti:=(Rec.touch_iff.1 ht).1
     by_cases h1:i<j
     ·refine ⟨fun _=>h1,fun _=>?_⟩
      cases hb:Nat.testBit (A.getD j 0) i with
      | true=>exact before i hb
      | false =>
        have:=(s.free i h1 hb hti hon).2.1 b k e
        rw [ht] at this; cases this
     ·by_cases h2:i=j
      ·subst h2; rw [hn]; simp
      ·refine ⟨fun h3=>?_,fun h3=>absurd h3 h1⟩
       obtain ⟨oi,si⟩:=X.step i hi
       have hb:=after i oi (by omega) si.op h3
       have:=(si.free j (by omega) hb hon hti).2.2 b k e
       rw [ht] at this; cases this
   have hwfp:MWf (R j).pre:=⟨fun b l e=>by rw [n1]; exact wf1.lt b l (s.sub hon b l e),fun b l e=>by rw [n1]; exact wf1.sup b l (s.sub hon b l e)⟩
   have hmp:MemOk ρ (R j).pre w:=⟨hwfp.lt,fun b k e=>(I.mem.live b k (hsub b k e)).2.2,hwfp.sup,fun b k c l e1 e2 hne=>I.mem.one b k c l (hsub b k e1) (hsub c l e2) hne⟩
   -- the registers that count, and no others
   obtain ⟨r3,hr3⟩:=restrict (rs j) (o'.looksAt ops)
   have hr3o:∀ t,Operand.tmp t∈o'.op.operands→r3.at t=(rs j).at t:=fun t ht=>by
    have hin:t∈o'.looksAt ops:=List.mem_append_left _ (List.mem_filterMap.2 ⟨.tmp t,by simpa using ht,rfl⟩)
    rw [hr3 t,if_pos hin]
   have hrun:doA T call r3 (R j).pre o'.op=some ((R j).v,(R j).post):=by
    rw [←s.run hon]
    unfold doA
    rw [opA_congr T _ hr3o]
   obtain ⟨a3,ha3⟩:=canon_act ρ (N:=N) (r:=r3) (fun t ht=>by rw [hr3 t]; split; exact wf3 t ht; rfl)
   have hsel:∀ cs b,o'.op ≠ .select cs b:=by
    intro cs b he
    unfold doA at hrun
    rw [he] at hrun
    cases hrun
   have hexec:execOp a.eval o'=execOp a3.eval o':=by
    refine execOp_congr o' hsel fun x hx=>?_
    cases x with
    | tmp t =>
      show a.tmps.getD t undef=a3.tmps.getD t undef
      rw [I.ok.at_ t,ha3.at_ t,hops t hx,hr3o t hx]
    | _=>rfl
   have hs3:RSup (fun b=>b<(R j).pre.next) r3:=fun t=>by
    rw [hr3 t,n1]
    split
    ·exact wf2 t
    ·trivial
   have hs3D:RSup (SD R m0 D ops.size) r3:=fun t=>by
    rw [hr3 t]
    split
    ·rename_i ht
     rw [←hlook t ht]; exact I.rsup t
    ·trivial
   refine doA_like H hc hrun ha3 hexec hmp hs3 fun ρ' w' hp hsup=>?_
   obtain ⟨g1,g2⟩:=hsup (SD R m0 D ops.size) hs3D (fun b k e=>(I.mem.live b k (hsub b k e)).2.1)
   have hnx:(R j).pre.next=(ms j).next:=n1
   have hpx:(R j).post.next=(ms (j+1)).next:=n2.symm
   have hfresh:∀ b,SD R m0 D ops.size b→b<(R j).pre.next∨(R j).post.next≤b:=by
    rintro b (h | ⟨i,h1,h2,h3,h4,h5⟩)
    ·left
     have:=X.up H hc (i:=0) (k:=j) (by omega) (by omega)
     rw [hm0] at this
     omega
    ·obtain ⟨oi,si⟩:=X.step i h1
     obtain ⟨k1,k2⟩:=si.next h3
     by_cases hij:i<j
     ·left
      have:=X.up H hc (i:=i+1) (k:=j) (by omega) (by omega)
      omega
     ·have hne:i ≠ j:=by rintro rfl; rw [hn] at h2; cases h2
      right
      have:=X.up H hc (i:=j+1) (k:=i) (by omega) (by omega)
      omega
   have hrho:∀ b,SD R m0 D ops.size b→ρ b=ρ' b:=fun b hb=>(hp.same b (hfresh b hb)).symm
   have hW:∀ b,Wid (SD R m0 D ops.size) (R j).pre (R j).post b→SD R m0 (dset D j) ops.size b:=by
    rintro b (h | ⟨h1,h2⟩)
    ·exact hSD b h
    ·exact .inr ⟨j,hjn,dset_at D j,hon,h1,h2⟩
   have hadd:∀ b,gD R m0 (dset D j) ops.size b=if (R j).touch b=true then (R j).post.blks.get b else gD R m0 D ops.size b:=by
    intro b
    refine (gD_add hn).1 hjn fun i h1 h2 h3 h4 h5=>?_
    obtain ⟨oi,si⟩:=X.step i h2
    have hb:=after i oi h1 si.op h3
    exact (si.free j h1 hb hon (Rec.touch_iff.1 h4).1).1 b h5 h4
   have hmem:GOk ρ' (gD R m0 (dset D j) ops.size) (SD R m0 (dset D j) ops.size) w':=by
    refine (I.mem.frame hmp hsub hp g1 hfresh fun b=>?_).mono hW
    rw [hadd b]
    by_cases ht:(R j).touch b=true
    ·rw [if_pos ht]; exact .inl ⟨(Rec.touch_iff.1 ht).2,rfl⟩
    ·rw [if_neg ht]; exact .inr ⟨fun h=>ht (Rec.touch_iff.2 ⟨hon,h⟩),rfl⟩
   obtain ⟨r2,e1,e2⟩:=putR_any s.put r (R j).v
   refine hK _ _ ρ' r2 ⟨hregs r2 e2,?_,fun t=>?_,hmem,fun b hb=>?_,?_,fun b k e=>?_⟩
   ·refine RegOk.put (r:=r) ⟨I.ok.size,I.ok.none,fun t=>?_⟩ e1
    rw [I.ok.at_ t]
    exact conc_congr hrho _ (I.rsup t)
   ·rw [e2 t]
    split
    ·exact sup_mono hW _ g2
    ·exact sup_mono hSD _ (I.rsup t)
   ·rw [hp.same b ?_]
    ·exact I.same b hb
    ·have u1:=X.up H hc (i:=0) (k:=j) (by omega) (by omega)
     have u2:=X.up H hc (i:=j+1) (k:=ops.size) (by omega) (by omega)
     rw [hm0] at u1
     rw [hmn] at u2
     rcases hb with hb | hb
     ·left; omega
     ·right; omega
   ·refine ⟨Nat.le_trans I.keep.size hp.keep.size,fun x hx hnl=>?_,hp.keep.env.1.trans I.keep.env.1,hp.keep.env.2.1.trans I.keep.env.2.1,hp.keep.env.2.2.trans I.keep.env.2.2⟩
    refine (hp.keep.block x (Nat.lt_of_lt_of_le hx I.keep.size) ?_).trans (I.keep.block x hx hnl)
    rintro ⟨c,l,hcl,rfl⟩
    rcases I.live c l (hsub c l hcl) with h | h
    ·omega
    ·exact hnl h
   ·rw [hadd b] at e
    split at e
    ·rcases hp.live b k e with h | ⟨c,l,hcl,he⟩
     ·exact .inl (Nat.le_trans I.keep.size h)
     ·rw [←he]; exact I.live c l (hsub c l hcl)
    ·rw [←hrho b (I.mem.live b k e).1]; exact I.live b k e

/-- What the whole run leaves, by its steps. -/
theorem Drawn.sums:∀ {k:Nat},k≤ops.size→(∀ b,b∈(ms 0).wr→b∈(ms k).wr)∧(∀ b,b<(ms 0).next→b∉(ms k).wr→(ms k).blks.get b=(ms 0).blks.get b)∧
 (∀ b l,(ms k).blks.get b=some l→b<(ms 0).next→∃ l',(ms 0).blks.get b=some l')∧∀ S,RSup S (rs 0)→MSup S (ms 0)→MSup (Wid S (ms 0) (ms k)) (ms k)∧RSup (Wid S (ms 0) (ms k)) (rs k)
 | 0,_=>⟨fun _ h=>h,fun _ _ _=>rfl,fun _ l e _=>⟨l,e⟩,fun S h1 h2=>⟨h2.mono fun _ h=> .inl h,fun t=>sup_mono (fun _ h=> .inl h) _ (h1 t)⟩⟩
 | k + 1, hk => by
   obtain ⟨i1,i2,i3,i4⟩:=Drawn.sums (k:=k) (by omega)
   obtain ⟨o,s⟩:=X.step k (by omega)
   obtain ⟨w1,w2,w3⟩:=X.wf k (by omega)
   have hup:=X.up H hc (i:=0) (k:=k) (by omega) (by omega)
   have hup1:=X.up H hc (i:=k) (k:=k+1) (by omega) (by omega)
   have hput:∀ S',RSup S' (rs k)→(R k).v.sup S'→RSup S' (rs (k+1)):=fun S' a1 a2=>RSup.put s.put a1 a2
   have hwid:∀ S b,Wid S (ms 0) (ms k) b→Wid S (ms 0) (ms (k+1)) b:=fun S b hb=>by
    rcases hb with hb | hb
    ·exact .inl hb
    ·exact .inr ⟨hb.1,by omega⟩
   cases hon:(R k).on with
   | false =>
     obtain ⟨f1,f2⟩:=s.off hon
     rw [f2] at hwid ⊢
     refine ⟨i1,i2,i3,fun S h1 h2=>?_⟩
     obtain ⟨j1,j2⟩:=i4 S h1 h2
     exact ⟨j1,hput _ j2 (by rw [f1]; trivial)⟩
   | true =>
     obtain ⟨n1,n2⟩:=s.next hon
     have hwf:MWf (R k).pre:=⟨fun b l e=>by rw [n1]; exact w1.lt b l (s.sub hon b l e),fun b l e=>by rw [n1]; exact w1.sup b l (s.sub hon b l e)⟩
     obtain ⟨p1,p2,p3,p4,p5,p6⟩:=doA_pure H hc (s.run hon) hwf (by rw [n1]; exact w2) w3
     have hwr:∀ b,b∈(ms k).wr→b∈(ms (k+1)).wr:=fun b hb=>by rw [s.wrs hon]; exact List.mem_append_right _ hb
     refine ⟨fun b hb=>hwr b (i1 b hb),fun b hb hn=>?_,fun b l e hb=>?_,fun S h1 h2=>?_⟩
     ·rw [s.mem hon,if_neg]
      ·exact i2 b hb fun h=>hn (hwr b h)
      ·rw [Rec.touch_iff]
       rintro ⟨_,h | h⟩
       ·omega
       ·exact hn (by rw [s.wrs hon]; exact List.mem_append_left _ h)
     ·rw [s.mem hon] at e
      split at e
      ·obtain ⟨l',e'⟩:=p5 b l e (by omega)
       exact i3 b l' (s.sub hon b l' e') hb
      ·exact i3 b l e hb
     ·obtain ⟨j1,j2⟩:=i4 S h1 h2
      obtain ⟨q1,q2⟩:=p6 _ j2 (fun b l e=>j1 b l (s.sub hon b l e))
      have hw2:∀ b,Wid (Wid S (ms 0) (ms k)) (R k).pre (R k).post b→Wid S (ms 0) (ms (k+1)) b:=fun b hb=>by
       rcases hb with hb | hb
       ·exact hwid S b hb
       ·exact .inr ⟨by omega,by omega⟩
      refine ⟨fun b l e=>?_,hput _ (fun t=>sup_mono (hwid S) _ (j2 t)) (sup_mono hw2 _ q2)⟩
      rw [s.mem hon] at e
      split at e
      ·exact Blk.sup_mono hw2 (q1 b l e)
      ·exact Blk.sup_mono (hwid S) (j1 b l e)

/-- How many are not done. -/
def cntD (D:Nat→Bool):Nat→Nat
 | 0=>0
 | n+1=>cntD D n+if D n=true then 0 else 1

omit H hc X in
theorem cntD_zero {D:Nat→Bool}:∀ {n:Nat},cntD D n=0→∀ i,i<n→D i=true
 | 0,_,i,hi=>by omega
 | n + 1, h, i, hi => by
   rw [cntD] at h
   by_cases hin:i=n
   ·subst hin
    cases hd:D i with
    | true=>rfl
    | false=>rw [hd] at h; simp at h
   ·exact cntD_zero (D:=D) (n:=n) (by omega) i (by omega)

omit H hc X in
theorem cntD_set {D:Nat→Bool} {j:Nat} (hn:D j=false):∀ {n:Nat},(j<n→cntD (dset D j) n+1=cntD D n)∧(n≤j→cntD (dset D j) n=cntD D n)
 | 0=>⟨fun h=>by omega,fun _=>rfl⟩
 | n + 1 => by
   obtain ⟨h1,h2⟩:=cntD_set hn (n:=n)
   refine ⟨fun h=>?_,fun h=>?_⟩
   ·rw [cntD,cntD]
    by_cases hj:n=j
    ·subst hj
     rw [dset_at,hn,h2 (Nat.le_refl _)]
     simp
    ·rw [dset_ne _ hj]
     have:=h1 (by omega)
     omega
   ·rw [cntD,cntD,dset_ne _ (by omega),h2 (by omega)]

omit H hc X in
theorem cntD_none:∀ n,cntD (fun _=>false) n=n
 | 0=>rfl
 | n+1=>by rw [cntD,cntD_none n]; simp

omit H hc X in
theorem cntD_pos {D:Nat→Bool}:∀ {n:Nat},0<cntD D n→∃ i,i<n∧D i=false∧∀ k,k<i→D k=true
 | 0,h=>by simp [cntD] at h
 | n + 1, h => by
   by_cases h0:0<cntD D n
   ·obtain ⟨i,h1,h2,h3⟩:=cntD_pos h0
    exact ⟨i,by omega,h2,h3⟩
   ·have hz:=cntD_zero (D:=D) (n:=n) (by omega)
    refine ⟨n,by omega,?_,hz⟩
    rw [cntD] at h
    cases hd:D n with
    | false=>rfl
    | true=>rw [hd] at h; simp at h; omega

theorem Drawn.any {r0:Regs} {m0 mn:Mem} (h0:rs 0=r0∧ms 0=m0∧ms ops.size=mn) {ρ0:Rho} {w0:World} {Q:Exit→Act→World→Prop}
 (hQ:∀ ρ' a' w',RegOk ρ' N (rs ops.size) a'→After ρ0 ρ' m0 mn w0 w' r0 (rs ops.size)→Q .normal a' w') :
 ∀ (fuel : Nat) (listed : Array Bool) (a : Act) (w : World) (ρ : Rho) (r : Regs), listed.size = ops.size → cntD (fun i => listed.getD i false) ops.size = fuel → Closed ops (fun i => listed.getD i false) →
   Inv N ops R r0 m0 mn ρ0 w0 (fun i=>listed.getD i false) a w ρ r→wpAny P .any ops Q fuel listed a w
 | 0, listed, a, w, ρ, r, hsz, hcnt, hD, I => by
   have hall:=cntD_zero hcnt
   refine ⟨?_,?_⟩
   ·cases hrd:Region.ready .any ops listed with
    | nil=>rfl
    | cons j l =>
      have hj:j∈Region.ready .any ops listed:=by rw [hrd]; exact List.mem_cons_self
      obtain ⟨h1,o,h2,_⟩:=mem_ready.1 hj
      have hlt:j<ops.size:=(Array.getElem?_eq_some_iff.1 h2).1
      have:=hall j hlt
      simp only [Array.getD_eq_getD_getElem?,Array.getElem?_eq_getElem (show j<listed.size by omega),Option.getD_some] at this h1
      rw [this] at h1; cases h1
   ·obtain ⟨hr0,hm0,hmn⟩:=h0
    obtain ⟨f1,f2⟩:=X.full H hc (k:=ops.size) (Nat.le_refl _) hall
    obtain ⟨s1,s2,s3,s4⟩:=X.sums H hc (k:=ops.size) (Nat.le_refl _)
    obtain ⟨w1,w2,w3⟩:=X.wf ops.size (Nat.le_refl _)
    rw [hr0] at f2
    rw [hm0] at f1 s1 s2 s3
    rw [hr0,hm0] at s4
    rw [hmn] at f1 s1 s2 s3 s4 w1
    refine hQ ρ a w ⟨I.ok.size,I.ok.none,fun t=>?_⟩ ⟨⟨⟨w1.lt,fun b k e=>?_,w1.sup,fun b k c l e1 e2 hne=>?_⟩,I.same,?_,I.keep,fun b k e=>I.live b k (by rw [f1]; exact e),s1,s2,s3⟩,s4⟩
    ·rw [I.ok.at_ t,I.regs t,f2 t]
    ·exact (I.mem.live b k (by rw [f1]; exact e)).2.2
    ·exact I.mem.one b k c l (by rw [f1]; exact e1) (by rw [f1]; exact e2) hne
    ·have:=X.up H hc (i:=0) (k:=ops.size) (by omega) (by omega)
     rw [hm0,hmn] at this
     exact this
 | fuel + 1, listed, a, w, ρ, r, hsz, hcnt, hD, I => by
   refine ⟨fun hnil=>?_,fun j hj=>?_⟩
   ·exfalso
    obtain ⟨i,h1,h2,h3⟩:=cntD_pos (D:=fun i=>listed.getD i false) (n:=ops.size) (by omega)
    have hp:ops[i]? = some ops[i]:=Array.getElem?_eq_getElem h1
    have:i∈Region.ready .any ops listed:=by
     refine mem_ready.2 ⟨?_,_,hp,fun e he hb=>h3 e.on (X.back i _ hp e he hb)⟩
     simp only [Array.getD_eq_getD_getElem?,Array.getElem?_eq_getElem (show i<listed.size by omega),Option.getD_some] at h2 ⊢
     exact h2
    rw [hnil] at this
    cases this
   ·obtain ⟨h1,o,h2,h3⟩:=mem_ready.1 hj
    have hlt:j<ops.size:=(Array.getElem?_eq_some_iff.1 h2).1
    have hn:(fun i=>listed.getD i false) j=false:=by
     simp only [Array.getD_eq_getD_getElem?,Array.getElem?_eq_getElem (show j<listed.size by omega),Option.getD_some] at h1 ⊢
     exact h1
    refine X.exec H hc h0 hD I h2 hn h3 fun a' w' ρ' r' I'=>?_
    have hset:(fun i=>(listed.setIfInBounds j true).getD i false)=dset (fun i=>listed.getD i false) j:=by
     funext i
     unfold dset
     simp only [Array.getD_eq_getD_getElem?,Array.getElem?_setIfInBounds]
     by_cases hij:i=j
     ·subst hij
      simp [show i<listed.size by omega]
     ·rw [if_neg (fun e=>hij e.symm),if_neg hij]
    refine Drawn.any h0 hQ fuel _ a' w' ρ' r' (by simpa using hsz) ?_ ?_ (by rw [hset]; exact I')
    ·rw [hset]
     have:=(cntD_set (D:=fun i=>listed.getD i false) hn (n:=ops.size)).1 hlt
     omega
    ·rw [hset]
     intro i p hp hd e he hb
     by_cases hij:i=j
     ·subst hij
      rw [h2] at hp
      injection hp with hp
      subst hp
      have:=h3 e he hb
      by_cases hej:e.on=i
      ·rw [hej]; exact dset_at _ i
      ·rw [dset_ne _ hej]; exact this
     ·rw [dset_ne _ hij] at hd
      have:=hD i p hp hd e he hb
      by_cases hej:e.on=j
      ·rw [hej]; exact dset_at _ j
      ·rw [dset_ne _ hej]; exact this

omit X in
theorem drawnA_sound {id:Nat} {r r':Regs} {m m':Mem} (hreg:regA ops ops.toList 0 (ancL ops.toList []) [] = true) (h:drawnA T call N ops.toList ops.toList 0 (ancL ops.toList []) [] r m=some (r',m')) (hmix:P.follows .mixedOrders=true)
 {ρ:Rho} {a:Act} {w:World} (hr:RegOk ρ N r a) (hm:MemOk ρ m w) (hs:RSup (fun b=>b<m.next) r) {Q:Exit→Act→World→Prop}
 (hQ:∀ ρ' a' w',RegOk ρ' N r' a'→After ρ ρ' m m' w w' r r'→Q .normal a' w'):(Code.region id ops true).wp P Q a w:=by
 obtain ⟨R,rs,ms,e1,e2,e3,e4,e5,e6⟩:=drawn_trace H hc (A:=ancL ops.toList []) ops.toList 0 _ [] r m h rfl rfl (fun _=>⟨false, .undef,m,m⟩) (fun _=>r) (fun _=>m) rfl rfl
  ⟨fun i hi=>absurd hi (Nat.not_lt_zero i),fun e he=>(by cases he),fun i hi=>absurd hi (Nat.not_lt_zero i),fun i hi=>absurd hi (Nat.not_lt_zero i)⟩ hm.wf hs hr.bd
 simp only [Nat.zero_add,Array.length_toList] at e3 e4 e5 e6
 obtain ⟨z1,z2⟩:=e2 0 (Nat.le_refl _)
 obtain ⟨l1,l2,l3⟩:=ancL_spec ops.toList []
 simp only [List.length_nil,Nat.zero_add] at l1 l3
 have hspec:=regA_spec ops.toList 0 _ [] hreg rfl
 simp only [Nat.zero_add,List.nil_append,Array.getElem?_toList] at hspec l3
 have X:Drawn T call N ops (ancL ops.toList []) R rs ms:=by
  refine ⟨fun i hi=>e5 i (Nat.zero_le _) hi,fun i hi=>e6 i (Nat.zero_le _) hi,fun j o ho=>(hspec j o ho).1,fun i j o p hij hp ho=>(hspec j o ho).2 i p hij hp,fun j o ho i hi=>?_⟩
  rw [l3 j o ho,anc_bit] at hi
  obtain ⟨e,h1,h2,h3⟩:=hi
  have he:e∈o.after:=by simpa using h1
  refine ⟨e,he,h2,?_⟩
  rcases h3 with h3 | h3
  ·exact .inl h3
  ·right
   have hlt:=(hspec j o ho).1 e he h2
   rw [List.getD_eq_getElem?_getD,List.getElem?_take,if_pos hlt,← List.getD_eq_getElem?_getD] at h3
   exact h3
 refine wp_region_any hmix ?_
 have hfalse:(fun i=>(Array.replicate ops.size false).getD i false)=fun _=>false:=by
  funext i
  rw [Array.getD_eq_getD_getElem?]
  by_cases hi:i<ops.size
  ·rw [Array.getElem?_eq_getElem (by simpa using hi)]; simp
  ·rw [Array.getElem?_eq_none (by simpa using hi)]; rfl
 have g0:∀ k b,gD R m (fun _=>false) k b=m.blks.get b:=by
  intro k b
  induction k with
  | zero=>rfl
  | succ k ih=>rw [gD,if_neg (by simp),ih]
 have r00:∀ k t,rD (dstOf ops) R r (fun _=>false) k t=r.at t:=by
  intro k t
  induction k with
  | zero=>rfl
  | succ k ih=>rw [rD,if_neg (by simp),ih]
 refine X.any H hc ⟨z1,z2,e4⟩ (ρ0:=ρ) (w0:=w) (fun ρ' a' w' k1 k2=>by rw [e3] at k1 k2; exact hQ ρ' a' w' k1 k2) ops.size _ a _ ρ r (by simp) (by rw [hfalse,cntD_none]) (by rw [hfalse]; intro j o _ hd; cases hd) ?_
 rw [hfalse]
 refine ⟨fun t=>(r00 _ t).symm,hr,fun t=>sup_mono (fun b hb=> .inl hb) _ (hs t),⟨fun b k e=>?_,fun b k c l e1 e2 hne=>?_⟩,fun _ _=>rfl,⟨Nat.le_refl _,fun _ _ _=>rfl,rfl,rfl,rfl⟩,fun b k e=>?_⟩
 ·rw [g0] at e
  exact ⟨.inl (hm.lt b k e),Blk.sup_mono (fun c hc=> .inl hc) (hm.sup b k e),hm.ok b k e⟩
 ·rw [g0] at e1 e2
  exact hm.one b k c l e1 e2 hne
 ·rw [g0] at e
  exact .inr ⟨b,k,e,rfl⟩

end
end Go.Proofs.YtbdcjhoedhhabaaGreat

