/- Contracts of the functions that the statements reach, part 8. -/
import Derived.Laws.Append
import Derived.Laws.AppendOwn
import Derived.Control
import Derived.Test.YtbdcjhoedhhabaaGreatF7
set_option linter.unusedSimpArgs false
set_option linter.unusedVariables false

/- The executor's builtin functions: append and the others. -/
namespace Go.Proofs.YtbdcjhoedhhabaaGreat
set_option linter.unusedSectionVars false
open Go.RowKit

/-- A slice made anew, or in its old place with a new number: the block that an append leaves. -/
theorem post_grown {ρ:Rho} {m:Mem} {w:World} (h:MemOk ρ m w) (cs:List AV) (hs:sups (fun b=>b<m.next) cs) (el:Nat) (e:TypeId) (post:List Value) (ex:Nat) (hp:ex*el≤post.length) {vs:Array Value} (hv:vs.toList=concs ρ cs ++ post) :
 Post ρ (ρ.put m.next ⟨w.heap.size,0,ex⟩) m (m.new (.cells cs el)) w (w.drew.alloc (.cells vs e)):=by
 refine post_fresh h (.cells cs el) hs ⟨w.heap.size,0,ex⟩ ((Below.refl _ _).drew.alloc (Nat.le_refl _) _) (Nat.le_refl _) ⟨[],post,e,?_,?_,?_⟩
 ·rw [Rho.put_at,concs_congr (put_lt (p:=⟨w.heap.size,0,ex⟩)) cs hs |>.symm,List.nil_append,← hv]
  exact heap_alloc_new w.drew _
 ·rw [Rho.put_at]; rfl
 ·rw [Rho.put_at]; exact hp

/-- A live block that goes on under a new number. -/
theorem post_move {ρ:Rho} {m:Mem} {w w':World} (h:MemOk ρ m w) {b:Nat} {k0:Blk} (hb:m.blks.get b=some k0) (k:Blk) (hs:k.sup (fun b=>b<m.next)) (p:Pl) (hp:p.addr=(ρ b).addr)
 (hw:Keep (fun x=>x=(ρ b).addr) w w') (hk:BlkOk (ρ.put m.next p) w' m.next k):Post ρ (ρ.put m.next p) m ((m.set b none).new k) w w':=by
 have hbn:b ≠ m.next:=by have:=h.lt b k0 hb; omega
 have hg:∀ c l,((m.set b none).new k).blks.get c=some l→(c=m.next∧l=k)∨(c ≠ m.next∧c ≠ b∧m.blks.get c=some l):=by
  intro c l e
  simp only [Mem.new,Mem.set,Tr.get_put] at e
  split at e
  ·rename_i hc; injection e with e; exact .inl ⟨hc,e.symm⟩
  ·rename_i hc
   split at e
   ·cases e
   ·rename_i hcb; exact .inr ⟨hc,hcb,e⟩
 refine ⟨⟨fun c l e=>?_,fun c l e=>?_,fun c l e=>?_,fun c l d l' e e' hne=>?_⟩,fun c hc=>?_,Nat.le_succ _,?_,fun c l e=>?_,fun c hc=>List.mem_cons_of_mem _ hc,fun c hc hn=>?_,fun c l e hc=>?_⟩
 ·show c<m.next+1
  rcases hg c l e with ⟨h1,_⟩ | ⟨_,_,h1⟩
  ·omega
  ·have:=h.lt c l h1; omega
 ·rcases hg c l e with ⟨h1,h2⟩ | ⟨h0,h3,h1⟩
  ·subst h1; subst h2; exact hk
  ·exact (h.ok c l h1).congr (Rho.put_ne ρ p h0).symm put_lt (h.sup c l h1) (hw.block _ (h.ok c l h1).lt (h.one c l b k0 h1 hb h3))
 ·rcases hg c l e with ⟨h1,h2⟩ | ⟨h0,h3,h1⟩
  ·subst h2; exact Blk.sup_mono (fun b hb=>by show b<m.next+1; omega) hs
  ·exact Blk.sup_mono (fun b hb=>by show b<m.next+1; omega) (h.sup c l h1)
 ·rcases hg c l e with ⟨h1,_⟩ | ⟨h0,h3,h1⟩ <;> rcases hg d l' e' with ⟨h1',_⟩ | ⟨h0',h3',h1'⟩
  ·omega
  ·subst h1; rw [Rho.put_at,Rho.put_ne ρ p h0',hp]; exact fun e=>h.one d l' b k0 h1' hb h3' e.symm
  ·subst h1'; rw [Rho.put_at,Rho.put_ne ρ p h0,hp]; exact h.one c l b k0 h1 hb h3
  ·rw [Rho.put_ne ρ p h0,Rho.put_ne ρ p h0']; exact h.one c l d l' h1 h1' hne
 ·refine Rho.put_ne ρ p ?_
  rcases hc with hc | hc
  ·omega
  ·intro e
   have hc:m.next+1≤c:=hc
   omega
 ·exact hw.weak fun x _ e=>⟨b,k0,hb,e.symm⟩
 ·rcases hg c l e with ⟨h1,_⟩ | ⟨h0,h3,h1⟩
  ·subst h1; rw [Rho.put_at,hp]; exact .inr ⟨b,k0,hb,rfl⟩
  ·rw [Rho.put_ne ρ p h0]; exact .inr ⟨c,l,h1,rfl⟩
 ·simp only [Mem.new,Mem.set,Tr.get_put]
  rw [if_neg (by omega),if_neg (fun e=>hn (by rw [e]; exact List.mem_cons_self))]
 ·rcases hg c l e with ⟨h1,_⟩ | ⟨_,_,h1⟩
  ·omega
  ·exact ⟨l,h1⟩

theorem srcA_spec {m:Mem} {size:Nat} {x:AV} {n:Nat} {l:List AV} (h:srcA m size x=some (n,l)) {ρ:Rho} {w:World} (hm:MemOk ρ m w) {P:Program} :
 (Builtin.lenOf (x.conc ρ)).run P w = .ok n w∧(∀ w1:World,w1.heap=w.heap→(Builtin.firstCells size n (x.conc ρ)).run P w1 = .ok (concs ρ l).toArray w1)∧l.length=n*size∧(∀ S,MSup S m→sups S l)∧
 (0<n→∃ a c,x.conc ρ = .slice (some a) n c∧∀ j v,(concs ρ l)[j]? = some v→w.cell? (a.add j)=some v):=by
 unfold srcA at h
 split at h
 ·injection h with h
  injection h with h1 h2
  subst h1; subst h2
  exact ⟨rfl,fun _ _=>rfl,by simp,fun _ _=>trivial,fun h=>absurd h (Nat.lt_irrefl 0)⟩
 ·rename_i b off n' cap op
  simp only [Option.map_eq_some_iff] at h
  obtain ⟨l',hl,h⟩:=h
  injection h with h1 h2
  subst h1; subst h2
  obtain ⟨h1,h2⟩:=cells_read hm hl
  refine ⟨rfl,fun w1 hw=>?_,h1,fun S hS=>cellsAt_sup hS hl,fun _=>⟨_,_,rfl,h2⟩⟩
  refine run_firstCells_some w1 size n' _ n' _ _ (by rw [concs_len]; exact h1) fun j v hj=>?_
  have:=h2 j v hj
  unfold World.cell? at this ⊢
  rw [hw]
  exact this
 ·cases h

section
variable {T:Tabs} {P:Program} (H:TabsOk T P) {ρ:Rho} {N:Nat} {r:Regs} {m:Mem} {a:Act} {w:World} (hr:RegOk ρ N r a) (hm:MemOk ρ m w)
include H hr hm

/-- An append that has room. -/
theorem append_fits_run {t ty e:TypeId} {i:TypeInfo} (ht:P.underlying t=some (.slice e)) (hi:P.info? e=some i) {ad:Addr} {sLen sCap n:Nat} {x:Value} {news:List Value} {w':World}
 (h1:(Builtin.lenOf x).run P w = .ok n w) (h2:(Builtin.firstCells i.size n x).run P w = .ok news.toArray w) (h3:(storeCells (ad.add (sLen*i.size)) news).run P w = .ok () w') (hroom:sLen+n≤sCap) :
 (Builtin.append_ #[t,t] ty #[.slice (some ad) sLen sCap,x]).run P w = .ok (.slice (some ad) (sLen+n) sCap) w':=by
 simp [Builtin.append_,run_underlying ht,sizeOf,typeInfo,hi,h1,hroom,h2,h3]

theorem zeroHas_spec {e n:Nat} {i:TypeInfo} (hi:T.ty.get e=some i) (h:zeroHas T e n=true):∃ z,i.zero=some z∧z.cells.size=n:=by
 unfold zeroHas at h
 split at h
 ·rename_i z hz
  obtain ⟨i',v,hi',hv0,_,hvc⟩:=zero_cells H (ρ:=ρ) hr hm hz
  rw [hi] at hi'
  injection hi' with hi'
  subst hi'
  exact ⟨v,hv0,by rw [hvc]; simp [concs_len]; exact Nat.eq_of_beq_eq_true h⟩
 ·cases h

theorem append_sound {t ty:Nat} {s x:AV} {e:Eff} (hs1:s.sup (fun b=>b<m.next)) (h:appendA T m t s x=some e) (hsup:∀ S,RSup S r→s.sup S) :
 Does ρ r m w ((do pure (.value (←Builtin.append_ #[t,t] ty #[s.conc ρ,x.conc ρ])):Sem Next).run P w) e:=by
 unfold appendA at h
 split at h
 ·cases h
 ·rename_i el size he
  obtain ⟨hu,i',hi',hsz⟩:=elemOf_sound he
  have hu:=H.un hu
  split at h
  ·-- an append to nil
   rename_i i n l hi hsrc
   rw [hi'] at hi
   injection hi with hi
   subst hi
   subst hsz
   obtain ⟨k1,k2,k3,k4,k5⟩:=srcA_spec hsrc hm (P:=P)
   cases hn:Nat.beq n 0 with
   | true =>
     rw [hn] at h
     injection h with h
     subst h
     have hn0:=Nat.eq_of_beq_eq_true hn
     subst hn0
     refine Does.pure hm ?_ fun S _ _=>trivial
     have:(Builtin.append_ #[t,t] ty #[.slice none 0 0,x.conc ρ]).run P w = .ok (.slice none 0 0) w:=by
      simp [Builtin.append_,run_underlying hu,sizeOf,typeInfo,H.ty _ _ hi',k1,k2 w rfl]
     rw [Sem.run_bind,AV.conc,this]
     rfl
   | false =>
     rw [hn] at h
     simp only [cond_false] at h
     cases hb:(Nat.ble (n*i'.bytes) 1000000000 && Nat.ble n 1000000000 && zeroHas T el i'.size) with
     | false=>rw [hb] at h; cases h
     | true =>
       rw [hb] at h
       injection h with h
       subst h
       simp only [Bool.and_eq_true] at hb
       obtain ⟨⟨b1,b2⟩,b3⟩:=hb
       have b1:=Nat.le_of_ble_eq_true b1
       have b2:=Nat.le_of_ble_eq_true b2
       obtain ⟨z,hz,hzs⟩:=zeroHas_spec H hr hm hi' b3
       have hpos:0<n:=Nat.pos_of_ne_zero (Nat.ne_of_beq_eq_false hn)
       obtain ⟨ad,c,hx,hcells⟩:=k5 hpos
       have hrun:=run_append_nil w t ty el i' z hu (H.ty _ _ hi') hz ad n c (concs ρ l) (by rw [concs_len]; exact k3) hcells hpos (by omega) (by omega)
       refine ⟨ρ.put m.next ⟨w.heap.size,0,grownCap w n 0 el - n⟩,_,?_,post_grown hm l (k4 _ hm.sup) i'.size el (Builtin.zeroCells z.cells (grownCap w n 0 el - n)).toList (grownCap w n 0 el - n) (by rw [Array.length_toList,size_zeroCells,hzs]; exact Nat.le_refl _) (vs:=(concs ρ l).toArray ++ Builtin.zeroCells z.cells (grownCap w n 0 el - n)) (by simp),fun S h1 h2=>⟨?_, .inr ⟨Nat.le_refl _,Nat.lt_succ_self _⟩⟩⟩
       ·rw [Sem.run_bind,hx,AV.conc,hrun]
        have:=grownCap_ge w n 0 el
        simp only [Result.andThen_ok,AV.conc,Rho.put_at,cond_true,Sem.run_pure]
        rw [show n+(grownCap w n 0 el - n)=grownCap w n 0 el by omega]
       ·intro b k e
        simp only [Mem.new,Tr.get_put] at e
        split at e
        ·injection e with e
         subst e
         exact sups_mono (fun _ h=> .inl h) l (k4 S h2)
        ·exact Blk.sup_mono (fun _ h=> .inl h) (h2 b k e)
  ·-- an append to a slice
   rename_i i n l b off len cap op hi hsrc
   rw [hi'] at hi
   injection hi with hi
   subst hi
   subst hsz
   obtain ⟨k1,k2,k3,k4,k5⟩:=srcA_spec hsrc hm (P:=P)
   cases hroom:Nat.ble (len+n) cap with
   | true =>
     rw [hroom] at h
     have hroom:=Nat.le_of_ble_eq_true hroom
     simp only [cond_true] at h
     split at h
     ·rename_i cs ell hb
      simp only [Option.map_eq_some_iff] at h
      obtain ⟨cs',hp,rfl⟩:=h
      obtain ⟨w',w1,w2⟩:=storeCells_sound (P:=P) hm hb hp (k4 _ hm.sup)
      refine ⟨ρ,w',?_,w2,fun S h3 h4=>⟨set_sup hr hm h4 hb hp (k4 S h4),sup_mono (fun _ h=> .inl h) (.sl b off len cap op) (hsup S h3)⟩⟩
      rw [show off+len*i'.size+(ρ b).shift=off+(ρ b).shift+len*i'.size by omega,← add_at] at w1
      have:=append_fits_run H hr hm (ty:=ty) hu (H.ty _ _ hi') (sCap:=cap+bif op then (ρ b).extra else 0) k1 (k2 w rfl) w1 (by omega)
      rw [Sem.run_bind,AV.conc,this]
      rfl
     ·cases h
   | false =>
     rw [hroom] at h
     simp only [cond_false] at h
     have hroom:¬ len+n≤cap:=fun hle=>by rw [Nat.ble_eq_true_of_le hle] at hroom; cases hroom
     cases hb:(Nat.ble ((len+n)*i'.bytes) 1000000000 && Nat.ble (len+n) 1000000000 && zeroHas T el i'.size && Nat.ble len cap && l.all AV.one) with
     | false=>rw [hb] at h; cases h
     | true =>
       rw [hb] at h
       simp only [cond_true] at h
       simp only [Bool.and_eq_true] at hb
       obtain ⟨⟨⟨⟨b1,b2⟩,b3⟩,b4⟩,b5⟩:=hb
       have b1:=Nat.le_of_ble_eq_true b1
       have b2:=Nat.le_of_ble_eq_true b2
       have b4:=Nat.le_of_ble_eq_true b4
       obtain ⟨z,hz,hzs⟩:=zeroHas_spec H hr hm hi' b3
       obtain ⟨ad,c,hx,hcells⟩:=k5 (by omega)
       -- the growth, whatever the capacity
       have grow:∀ (old:List AV) (sCap:Nat),cellsAt m b off (len*i'.size)=some old→sCap<len+n→∃ ex w',(Builtin.append_ #[t,t] ty #[.slice (some ⟨(ρ b).addr,off+(ρ b).shift,none⟩) len sCap,x.conc ρ]).run P w = .ok (.slice (some ⟨w.heap.size,0,none⟩) (len+n) (len+n+ex)) w'∧
        ∀ m1,MemOk ρ m1 w→m1.next=m.next→Post ρ (ρ.put m.next ⟨w.heap.size,0,ex⟩) m1 (m1.new (.cells (old ++ l) i'.size)) w w':=by
        intro old sCap hold hcap
        obtain ⟨o1,o2⟩:=cells_read hm hold
        have hrun:=run_append_grow w t ty el i' z hu (H.ty _ _ hi') hz ⟨(ρ b).addr,off+(ρ b).shift,none⟩ len sCap (concs ρ old) (by rw [concs_len]; exact o1) o2 ad n c (concs ρ l) (by rw [concs_len]; exact k3) hcells hcap (by omega) (growslice_fits hcap (by omega))
        have hge:=grownCap_ge w (len+n) sCap el
        refine ⟨grownCap w (len+n) sCap el - (len+n),w.drew.alloc (.cells ((concs ρ old).toArray ++ (concs ρ l).toArray ++ Builtin.zeroCells z.cells (grownCap w (len+n) sCap el - (len+n))) el),?_,fun m1 hm1 hnx=>?_⟩
        ·rw [hx,hrun,show len+n+(grownCap w (len+n) sCap el - (len+n))=grownCap w (len+n) sCap el by omega]
        ·rw [←hnx]
         refine post_grown hm1 (old ++ l) ?_ i'.size el (Builtin.zeroCells z.cells (grownCap w (len+n) sCap el - (len+n))).toList _ (by rw [Array.length_toList,size_zeroCells,hzs]; exact Nat.le_refl _) (by simp [concs_append])
         rw [hnx]
         exact sups_of fun v hv=>by
          rcases List.mem_append.1 hv with hv | hv
          ·exact sups_mem (cellsAt_sup hm.sup hold) v hv
          ·exact sups_mem (k4 _ hm.sup) v hv
       have supNew:∀ (m1:Mem) (S:Nat→Prop) (old:List AV),MSup S m→MSup S m1→m1.next=m.next→cellsAt m b off (len*i'.size)=some old→
        MSup (Wid S m (m1.new (.cells (old ++ l) i'.size))) (m1.new (.cells (old ++ l) i'.size)):=by
        intro m1 S old h2 h3 hnx hold d k e
        simp only [Mem.new,Tr.get_put] at e
        split at e
        ·injection e with e
         subst e
         refine sups_mono (fun _ h=> .inl h) _ (S:=S) (sups_of fun v hv=>?_)
         rcases List.mem_append.1 hv with hv | hv
         ·exact sups_mem (cellsAt_sup h2 hold) v hv
         ·exact sups_mem (k4 S h2) v hv
        ·exact Blk.sup_mono (fun _ h=> .inl h) (h3 d k e)
       split at h
       ·rename_i old hold
        injection h with h
        subst h
        obtain ⟨ex,w',g1,g2⟩:=grow old cap hold (by omega)
        refine ⟨_,w',?_,g2 m hm rfl,fun S h1 h2=>⟨supNew m S old h2 h2 rfl hold, .inr ⟨Nat.le_refl _,Nat.lt_succ_self _⟩⟩⟩
        rw [Sem.run_bind,AV.conc,cond_false,Nat.add_zero,g1]
        simp only [Result.andThen_ok,AV.conc,Rho.put_at,cond_true]
        rfl
       ·rename_i old hold
        split at h
        ·rename_i cs ell hblk
         cases hq:(Nat.beq ell i'.size && Nat.beq (off+cap*i'.size) cs.length) with
         | false=>rw [hq] at h; cases h
         | true =>
           rw [hq] at h
           injection h with h
           subst h
           simp only [Bool.and_eq_true] at hq
           have q1:=Nat.eq_of_beq_eq_true hq.1
           have q2:=Nat.eq_of_beq_eq_true hq.2
           subst q1
           have hkill:Post ρ ρ m (m.set b none) w w:=post_set hm hblk none (fun k' hk'=>by cases hk') ⟨Nat.le_refl _,fun _ _ _=>rfl,rfl,rfl,rfl⟩
           have hks:∀ S,MSup S m→MSup S (m.set b none):=by
            intro S h2 d k e
            simp only [Mem.set,Tr.get_put] at e
            split at e
            ·cases e
            ·exact h2 d k e
           by_cases hin:len+n≤cap+(ρ b).extra
           ·-- in place
            obtain ⟨pre,post,te,hw,hp1,hp2⟩:=hm.ok b _ hblk
            obtain ⟨cs2,el2,hc2,ho1,ho2⟩:=cellsAt_spec hold
            rw [hblk] at hc2
            injection hc2 with hc2
            injection hc2 with hc2 _
            subst hc2
            have hnl:n*i'.size=l.length:=k3.symm
            have e1:(len+n)*i'.size≤(cap+(ρ b).extra)*i'.size:=Nat.mul_le_mul_right _ hin
            have e2:len*i'.size≤cap*i'.size:=Nat.mul_le_mul_right _ b4
            simp only [Nat.add_mul] at e1
            have hlen:(concs ρ cs).length=off+cap*i'.size:=by rw [concs_len]; exact q2.symm
            generalize hcur:pre ++ concs ρ cs ++ post=cur at hw
            have hcl:cur.length=(ρ b).shift+(off+cap*i'.size)+post.length:=by rw [←hcur]; simp only [List.length_append,hlen,hp1]
            have hst:=run_storeCells_at (P:=P) (ρ b).addr (off+(ρ b).shift+len*i'.size) te (concs ρ l) 0 _ w hw (by simp only [concs_len,List.size_toArray,hcl]; omega)
             (fun v hv=>by rw [concs_eq] at hv; obtain ⟨u,hu,rfl⟩:=List.mem_map.1 hv; exact one_conc ρ u (List.all_eq_true.1 b5 u hu))
            obtain ⟨w',hw'⟩:∃ w',w'=w.setRow (ρ b).addr (((cur.toArray).toList.take (off+(ρ b).shift+len*i'.size+0) ++ concs ρ l ++ (cur.toArray).toList.drop (off+(ρ b).shift+len*i'.size+0+(concs ρ l).length)).toArray):=⟨_,rfl⟩
            rw [←hw'] at hst
            have hkeep:Keep (fun x=>x=(ρ b).addr) w w':=by rw [hw']; exact ⟨by simp,fun x _ hx=>setRow_other _ _ _ _ hx,rfl,rfl,rfl⟩
            have hfit:=append_fits_run H hr hm (ty:=ty) hu (H.ty _ _ hi') (ad:=⟨(ρ b).addr,off+(ρ b).shift,none⟩) (sCap:=cap+(ρ b).extra) k1 (k2 w rfl) (by rw [add_at]; exact hst) hin
            have hsnew:sups (fun b=>b<m.next) (old ++ l):=sups_of fun v hv=>by
             rcases List.mem_append.1 hv with hv | hv
             ·exact sups_mem (cellsAt_sup hm.sup hold) v hv
             ·exact sups_mem (k4 _ hm.sup) v hv
            refine ⟨ρ.put m.next ⟨(ρ b).addr,off+(ρ b).shift,(ρ b).extra - (len+n - cap)⟩,w',?_,post_move hm hblk (.cells (old ++ l) i'.size) hsnew _ rfl hkeep ?_,fun S h1 h2=>⟨supNew (m.set b none) S old h2 (hks S h2) rfl hold, .inr ⟨Nat.le_refl _,Nat.lt_succ_self _⟩⟩⟩
            ·rw [Sem.run_bind,AV.conc,cond_true,hfit]
             simp only [Result.andThen_ok,AV.conc,Rho.put_at,cond_true,Nat.zero_add,Sem.run_pure]
             rw [show len+n+((ρ b).extra - (len+n - cap))=cap+(ρ b).extra by omega]
            ·refine ⟨pre ++ (concs ρ cs).take off,cur.drop (off+(ρ b).shift+len*i'.size+l.length),te,?_,?_,?_⟩
             ·rw [Rho.put_at,hw',setRow_heap _ _ _ _ _ _ hw]
              simp only [Nat.add_zero]
              have t1:cur.take (off+(ρ b).shift+len*i'.size)=pre ++ (concs ρ cs).take off ++ concs ρ old:=by
               rw [←hcur,ho1,concs_take,concs_drop,List.append_assoc,List.append_assoc,← List.take_add,show off+(ρ b).shift+len*i'.size=pre.length+(off+len*i'.size) by omega,
                List.take_append,List.take_of_length_le (by omega),Nat.add_sub_cancel_left,List.take_append_of_le_length (by omega)]
              rw [concs_congr (put_lt (p:=⟨(ρ b).addr,off+(ρ b).shift,(ρ b).extra - (len+n - cap)⟩)) (old ++ l) hsnew |>.symm,t1,concs_append]
              simp only [concs_len,List.append_assoc]
             ·rw [Rho.put_at]
              simp only [List.length_append,List.length_take,hlen,hp1]
              omega
             ·rw [Rho.put_at]
              simp only [List.length_drop,hcl]
              have:((ρ b).extra - (len+n - cap))*i'.size=cap*i'.size+(ρ b).extra*i'.size - (len*i'.size+n*i'.size):=by
               rw [show (ρ b).extra - (len+n - cap)=cap+(ρ b).extra - (len+n) by omega,Nat.sub_mul,Nat.add_mul,Nat.add_mul]
              rw [this]
              omega
           ·obtain ⟨ex,w',g1,g2⟩:=grow old (cap+(ρ b).extra) hold (by omega)
            refine ⟨_,w',?_,hkill.trans (g2 (m.set b none) hkill.mem rfl),fun S h1 h2=>⟨supNew (m.set b none) S old h2 (hks S h2) rfl hold, .inr ⟨Nat.le_refl _,Nat.lt_succ_self _⟩⟩⟩
            rw [Sem.run_bind,AV.conc,cond_true,g1]
            simp only [Result.andThen_ok,AV.conc,Rho.put_at,cond_true]
            rfl
        ·cases h
       ·cases h
  ·cases h

end
end Go.Proofs.YtbdcjhoedhhabaaGreat

/- The executor's builtin functions and calls; all operations together. -/
namespace Go.Proofs.YtbdcjhoedhhabaaGreat
set_option linter.unusedSectionVars false
open Go.RowKit

theorem minI_run {P:Program} (k j:IntKind) (a b:Int) (w:World):(Builtin.min2 (.int k a) (.int j b)).run P w = .ok (.int k (minI a b)) w:=by
 unfold minI
 rw [ile_eq]
 show (pure (Value.int k (if b<a then b else a)):Sem Value).run P w=_
 by_cases h:a≤b
 ·rw [if_neg (by omega),decide_eq_true h]; rfl
 ·rw [if_pos (by omega),decide_eq_false h]; rfl

theorem maxI_run {P:Program} (k j:IntKind) (a b:Int) (w:World):(Builtin.max2 (.int k a) (.int j b)).run P w = .ok (.int k (maxI a b)) w:=by
 unfold maxI
 rw [ile_eq]
 show (pure (Value.int k (if b > a then b else a)):Sem Value).run P w=_
 by_cases h:b≤a
 ·rw [if_neg (by omega),decide_eq_true h]; rfl
 ·rw [if_pos (by omega),decide_eq_false h]; rfl

theorem foldI_sound {P:Program} (ρ:Rho) (w:World) {f:Int→Int→Int} {g:Value→Value→Sem Value} (hg:∀ k j a b,(g (.int k a) (.int j b)).run P w = .ok (.int k (f a b)) w) {k:IntKind}:∀ {l:List AV} {a:Int} {v:AV},foldI f k a l=some v→
 ((concs ρ l).foldlM g (.int k a)).run P w = .ok (v.conc ρ) w∧v.flat
 | [],a,v,h=>by injection h with h; subst h; exact ⟨rfl,trivial⟩
 | x :: l, a, v, h => by
   cases x <;> first | cases h | skip
   rename_i j b
   rw [foldI] at h
   cases hk:kindEq k j with
   | false=>rw [hk] at h; cases h
   | true =>
     rw [hk] at h
     rw [concs,List.foldlM_cons,Sem.run_bind,AV.conc,hg]
     exact foldI_sound ρ w hg h

section
variable {T:Tabs} {P:Program} (H:TabsOk T P) {ρ:Rho} {N:Nat} {r:Regs} {m:Mem} {a:Act} {w:World} (hr:RegOk ρ N r a) (hm:MemOk ρ m w) {o:Oper} {e:Eff}
include H hr hm

theorem len_sound {ts:List Nat} {t ty:Nat} {v:AV} {vs:List AV} (h:builtinA T m .len (t :: ts) (v :: vs)=some e) :
 Does ρ r m w ((do pure (.value (←Builtin.len_ (t :: ts).toArray ty (concs ρ (v :: vs)).toArray)):Sem Next).run P w) e:=by
 have key:∀ n:Int,(Builtin.len_ (t :: ts).toArray ty (concs ρ (v :: vs)).toArray).run P w = .ok (.int .i64 n) w→Does ρ r m w ((do pure (.value (←Builtin.len_ (t :: ts).toArray ty (concs ρ (v :: vs)).toArray)):Sem Next).run P w) (.val (.int .i64 n) m):=by
  intro n hn
  refine Does.pure hm ?_ fun S _ _=>trivial
  rw [Sem.run_bind,hn]
  rfl
 simp only [builtinA] at h
 split at h
 ·rename_i s hu
  injection h with h
  subst h
  refine key _ ?_
  simp [Builtin.len_,concs,AV.conc,run_underlying (H.un hu)]
  rfl
 ·rename_i n el hu
  injection h with h
  subst h
  refine key _ ?_
  simp [Builtin.len_,concs,run_underlying (H.un hu)]
  rfl
 ·rename_i el hu
  injection h with h
  subst h
  refine key _ ?_
  simp [Builtin.len_,concs,AV.conc,run_underlying (H.un hu)]
  rfl
 ·rename_i el b off n c op hu
  injection h with h
  subst h
  refine key _ ?_
  simp [Builtin.len_,concs,AV.conc,run_underlying (H.un hu)]
  rfl
 ·rename_i k el hu
  injection h with h
  subst h
  refine key _ ?_
  simp [Builtin.len_,concs,AV.conc,run_underlying (H.un hu)]
  rfl
 ·rename_i k el b hu
  simp only [Option.map_eq_some_iff] at h
  obtain ⟨p,hp,rfl⟩:=h
  refine key _ ?_
  have hb:=getObj_run (P:=P) hm (mapOf_spec hp)
  simp [Builtin.len_,concs,AV.conc,run_underlying (H.un hu),hb]
  rfl
 ·cases h

theorem clear_sound {t ty:Nat} {v:AV} (h:builtinA T m .clear [t] [v] = some e) :
 Does ρ r m w ((do pure (.value (←Builtin.clear_ #[t] ty (concs ρ [v]).toArray)):Sem Next).run P w) e:=by
 simp only [builtinA] at h
 split at h
 ·rename_i p hp
  obtain ⟨el,n⟩:=p
  obtain ⟨hu,_⟩:=elemOf_sound hp
  injection h with h
  subst h
  refine Does.pure hm ?_ fun S _ _=>trivial
  simp [Builtin.clear_,concs,AV.conc,run_underlying (H.un hu)]
 ·rename_i el n b off len c op hp
  obtain ⟨hu,i,hi,hsz⟩:=elemOf_sound hp
  cases h0:(Nat.beq len 0 || Nat.beq n 0) with
  | true=>rw [h0] at h; cases h
  | false =>
    rw [h0] at h
    simp only [cond_false] at h
    simp only [Bool.or_eq_false_iff] at h0
    have hl:=Nat.ne_of_beq_eq_false h0.1
    have hn:=Nat.ne_of_beq_eq_false h0.2
    split at h
    ·rename_i z cs ell hz hb
     simp only [Option.map_eq_some_iff] at h
     obtain ⟨cs',hp',rfl⟩:=h
     obtain ⟨⟨zv,hz1,hz2⟩,hz3⟩:=zerosA_sound H (w:=w) (P:=P) hr hm hz
     obtain ⟨w',w1,w2⟩:=storeCells_sound (P:=P) hm hb hp' (hz3 _)
     refine ⟨ρ,w',?_,w2,fun S h3 h4=>⟨set_sup hr hm h4 hb hp' (hz3 S),trivial⟩⟩
     have hK:=hz1 (fun zv=>storeCells ⟨(ρ b).addr,off+(ρ b).shift,none⟩ ((Array.range (len*n)).map fun i=>zv[i % zv.size]!).toList)
     rw [if_neg (by intro e; rcases Nat.mul_eq_zero.1 e with e | e <;> contradiction),hz2,w1] at hK
     have hz0:∃ z0,T.zero el=some z0∧z0.cells.length=n:=by
      unfold zerosA at hz
      rw [show Nat.beq (len*n) 0=false from by
       cases hq:Nat.beq (len*n) 0 with
       | false=>rfl
       | true=>rcases Nat.mul_eq_zero.1 (Nat.eq_of_beq_eq_true hq) with e | e <;> contradiction] at hz
      simp only [cond_false] at hz
      split at hz
      ·rename_i z0 hz0
       cases hq:Nat.beq z0.cells.length n with
       | false=>rw [hq] at hz; cases hz
       | true=>exact ⟨z0,hz0,Nat.eq_of_beq_eq_true hq⟩
      ·cases hz
     obtain ⟨z0,hz0,hz0l⟩:=hz0
     have hzc:(z0.conc ρ).cells.size=n:=by rw [←Array.length_toList,conc_cells,concs_len,hz0l]
     rw [Sem.run_bind,H.zero_run ρ hz0 w] at hK
     simp only [Result.andThen_ok,Sem.run_bind,Sem.run_pure] at hK
     rw [Sem.run_bind]
     simp only [Builtin.clear_,concs,AV.conc,List.getElem?_toArray,List.getElem?_cons_zero,Sem.run_bind,run_underlying (H.un hu),Result.andThen_ok]
     rw [H.zero_run ρ hz0 w,Result.andThen_ok]
     have hz':Builtin.zeroCells (z0.conc ρ).cells len=(Array.range (len*n)).map fun i=>(z0.conc ρ).cells[i % (z0.conc ρ).cells.size]!:=by
      unfold Builtin.zeroCells
      rw [hzc]
     rw [hz',hK]
     rfl
    ·cases h
 ·cases h

/-- A call of a function that has a body. -/
theorem enter_run {f:Nat} {fn:Func} {c:Code} (hf:T.fn.get f=some fn) (hb:fn.body=some c) (args:Array Value) (w:World):(callFunc f args).run P w = .ok (.enter f args) w:=by
 unfold callFunc
 rw [Sem.run_bind]
 simp only [run_program,Result.andThen_ok,H.fn f fn hf]
 have hn:=H.name f fn hf
 rw [if_neg (by simpa using hn),if_neg (by rw [hb]; simp)]
 rfl

theorem call_sound (hs:RSup (fun b=>b<m.next) r) {c:Call} (ho:o.op = .call c) (h:opA T r m (.call c)=some e) (hcall:∀ f vs,e = .call f vs→∃ fn c,T.fn.get f=some fn∧fn.body=some c):Does ρ r m w ((execOp a.eval o).run P w) e:=by
 simp only [opA,opCall] at h
 split at h
 ·rename_i b vs hc hv
  have hargs:=evs_arr hr hm hv
  simp only [execOp,ho,resolve,hc,hargs,Sem.run_bind,Sem.run_pure,Result.andThen_ok,invoke]
  have hsv:∀ S,RSup S r→sups S vs:=fun S hS=>evL_sup hr hm hS hv
  unfold builtinA at h
  split at h
  ·rename_i t ts v vs hts
   have:=len_sound H hr hm (t:=t) (ts:=ts) (ty:=o.type) (v:=v) (vs:=vs) (e:=e) (by unfold builtinA; exact h)
   rw [←hts] at this
   rw [Array.toArray_toList] at this
   exact this
  ·rename_i t u s x hts
   cases htu:Nat.beq t u with
   | false=>rw [htu] at h; cases h
   | true =>
     rw [htu] at h
     have:=Nat.eq_of_beq_eq_true htu
     subst this
     have:=append_sound H hr hm (ty:=o.type) (hsv _ hs).1 h (fun S hS=>(hsv S hS).1)
     have hts':c.argTypes=#[t,t]:=by apply Array.ext'; rw [hts]
     rw [hts']
     exact this
  ·rename_i t v hts
   have:=clear_sound H hr hm (t:=t) (ty:=o.type) (v:=v) (e:=e) (by unfold builtinA; exact h)
   have hts':c.argTypes=#[t]:=by apply Array.ext'; rw [hts]
   rw [hts']
   exact this
  ·rename_i k a l
   simp only [Option.map_eq_some_iff] at h
   obtain ⟨v,hv',rfl⟩:=h
   obtain ⟨f1,f2⟩:=foldI_sound (P:=P) ρ w (fun k j a b=>maxI_run k j a b w) hv'
   refine Does.pure hm ?_ fun S _ _=>f2.sup S
   show (do pure (.value (←Builtin.max_ c.argTypes o.type (concs ρ (.int k a :: l)).toArray)):Sem Next).run P w=_
   simp only [Builtin.max_,concs,AV.conc,Sem.run_bind]
   rw [f1]
   rfl
  ·rename_i k a l
   simp only [Option.map_eq_some_iff] at h
   obtain ⟨v,hv',rfl⟩:=h
   obtain ⟨f1,f2⟩:=foldI_sound (P:=P) ρ w (fun k j a b=>minI_run k j a b w) hv'
   refine Does.pure hm ?_ fun S _ _=>f2.sup S
   show (do pure (.value (←Builtin.min_ c.argTypes o.type (concs ρ (.int k a :: l)).toArray)):Sem Next).run P w=_
   simp only [Builtin.min_,concs,AV.conc,Sem.run_bind]
   rw [f1]
   rfl
  ·cases h
 ·rename_i f vs hc hv
  split at h
  ·rename_i f' fs cs hf
   injection h with h
   subst h
   obtain ⟨fn,c',hfn,hb⟩:=hcall _ _ rfl
   have hargs:=evs_arr hr hm hv
   refine ⟨?_,fun S h1 _=>?_⟩
   ·simp only [execOp,ho,resolve,hc,hargs,hr.ev hf,AV.conc,Deferred.ofValue,Sem.run_bind,Sem.run_pure,Result.andThen_ok,invoke]
    rw [enter_run H hr hm hfn hb]
    congr 2
    simp [concs_append]
   ·have h2:=evA_sup h1 hf
    have h3:=evL_sup hr hm h1 hv
    exact sups_of fun v hv'=>by
     rcases List.mem_append.1 hv' with hv' | hv'
     ·rcases List.mem_append.1 hv' with hv' | hv'
      ·exact sups_mem h2.1 v hv'
      ·exact sups_mem h3 v hv'
     ·exact sups_mem h2.2 v hv'
  ·cases h
 ·cases h

/-- Every operation does what the executor says. -/
theorem opA_sound (hs:RSup (fun b=>b<m.next) r) (h:opA T r m o.op=some e) (hcall:∀ f vs,e = .call f vs→∃ fn c,T.fn.get f=some fn∧fn.body=some c):Does ρ r m w ((execOp a.eval o).run P w) e:=by
 generalize ho:o.op=op at h
 cases op with
 | move x=>exact move_sound hr hm ho h
 | assign x=>exact assign_sound hr hm ho h
 | pick c x y=>exact pick_sound hr hm ho h
 | alloc t=>exact alloc_sound H hr hm ho h
 | box t x=>exact box_sound hr hm hs ho h
 | build t ps=>exact build_sound H hr hm ho h
 | buildSlice t n ps=>exact buildSlice_sound H hr hm hs ho h
 | load t x=>exact load_sound H hr hm ho h
 | store t x y=>exact store_sound H hr hm hs ho h
 | nilCheck x=>exact nilCheck_sound hr hm ho h
 | binOp op t x y u=>exact binOp_sound H hr hm ho h
 | unOp op t x=>exact unOp_sound hr hm ho h
 | convert s d x=>exact convert_sound H hr hm ho h
 | makeFunc f fs cs =>
   cases f with
   | func f=>exact makeFunc_sound hr hm ho h
   | _=>cases h
 | makeMap t x =>
   cases x with
   | none=>exact makeMap_sound hr hm ho h
   | some x=>cases h
 | makeSlice t l c=>exact makeSlice_sound H hr hm ho h
 | slice t x lo hi mx =>
   cases mx with
   | none=>exact slice_sound H hr hm ho h
   | some mx=>cases h
 | fieldAddr s x f=>exact fieldAddr_sound H hr hm ho h
 | field s x f=>exact field_sound H hr hm ho h
 | indexAddr t x ix=>exact indexAddr_sound H hr hm ho h
 | index t x ix=>exact index_sound H hr hm ho h
 | lookup t x k ok=>exact lookup_sound H hr hm ho h
 | mapUpdate t x k v=>exact mapUpdate_sound H hr hm hs ho h
 | mapEntry t x k=>exact mapEntry_sound H hr hm hs ho h
 | entryStore t x s v=>exact entryStore_sound hr hm hs ho h
 | extract x i=>exact extract_sound hr hm ho h
 | call c=>exact call_sound H hr hm hs ho h hcall
 | _=>cases h

end
end Go.Proofs.YtbdcjhoedhhabaaGreat

/- The executor: operations with their calls, and regions whose order is given. -/
namespace Go.Proofs.YtbdcjhoedhhabaaGreat
set_option linter.unusedSectionVars false
open Go.RowKit

/-- What is known of the registers and the memory behind a piece of a run. -/
def After (ρ ρ':Rho) (m m':Mem) (w w':World) (r r':Regs):Prop:=Post ρ ρ' m m' w w'∧∀ S,RSup S r→MSup S m→MSup (Wid S m m') m'∧RSup (Wid S m m') r'

theorem After.refl {ρ:Rho} {m:Mem} {w:World} {r:Regs} (h:MemOk ρ m w):After ρ ρ m m w w r r:=
 ⟨Post.refl h,fun S h1 h2=>⟨h2.mono fun _ h=> .inl h,fun t=>sup_mono (fun _ h=> .inl h) _ (h1 t)⟩⟩

theorem After.trans {ρ ρ1 ρ2:Rho} {m m1 m2:Mem} {w w1 w2:World} {r r1 r2:Regs} (h:After ρ ρ1 m m1 w w1 r r1) (k:After ρ1 ρ2 m1 m2 w1 w2 r1 r2):After ρ ρ2 m m2 w w2 r r2:=
 ⟨h.1.trans k.1,fun S h1 h2=>by
  obtain ⟨a1,a2⟩:=h.2 S h1 h2
  obtain ⟨b1,b2⟩:=k.2 _ a2 a1
  have:=Wid.trans (S:=S) h.1.next k.1.next
  exact ⟨b1.mono this,fun t=>sup_mono this _ (b2 t)⟩⟩

theorem After.rsup {ρ ρ':Rho} {m m':Mem} {w w':World} {r r':Regs} (h:After ρ ρ' m m' w w' r r') (hs:RSup (fun b=>b<m.next) r) (hm:MemOk ρ m w):RSup (fun b=>b<m'.next) r':=fun t=>by
 refine sup_mono (fun b hb=>?_) _ ((h.2 _ hs hm.sup).2 t)
 rcases hb with hb | hb
 ·have:=h.1.next
  have hb:b<m.next:=hb
  omega
 ·exact hb.2

/-- What a call that the executor has run does. -/
def CallsOk (T:Tabs) (P:Program) (call:CallA):Prop:=
 ∀ f vs m v m', call f vs m = some (v, m') → (∃ fn c, T.fn.get f = some fn ∧ fn.body = some c) ∧ ∀ ρ w, sups (fun b => b < m.next) vs → MemOk ρ m w →
   Calls P f (concs ρ vs).toArray w fun e w'=>∃ ρ',e = .returned (v.conc ρ')∧Post ρ ρ' m m' w w'∧∀ S,sups S vs→MSup S m→MSup (Wid S m m') m'∧v.sup (Wid S m m')

theorem RSup.put {S:Nat→Prop} {N:Nat} {r r':Regs} {dst:Option Nat} {v:AV} (h:putR N r dst v=some r') (hr:RSup S r) (hv:v.sup S):RSup S r':=by
 cases dst with
 | none=>injection h with h; subst h; exact hr
 | some t =>
   unfold putR at h
   simp only at h
   cases hb:Nat.blt t N with
   | false=>rw [hb] at h; cases h
   | true =>
     rw [hb] at h
     injection h with h
     subst h
     intro i
     unfold Regs.at
     rw [Tr.get_put]
     by_cases hi:i=t
     ·rw [if_pos hi]; exact hv
     ·rw [if_neg hi]; exact hr i

section
variable {T:Tabs} {P:Program} (H:TabsOk T P) {call:CallA} (hc:CallsOk T P call)
include H hc

/-- An operation with its call: what it leaves, in whatever state the executor's picture fits. -/
theorem doA_like {r:Regs} {m m':Mem} {o:Oper} {v:AV} (h:doA T call r m o.op=some (v,m')) {ρ:Rho} {N:Nat} {a a0:Act} {w:World} (hr:RegOk ρ N r a0) (ha:execOp a.eval o=execOp a0.eval o) (hm:MemOk ρ m w) (hs:RSup (fun b=>b<m.next) r)
 {K:Act→World→Prop} {Q:Exit→Act→World→Prop}
 (hK:∀ ρ' w',Post ρ ρ' m m' w w'→(∀ S,RSup S r→MSup S m→MSup (Wid S m m') m'∧v.sup (Wid S m m'))→K (a.put o.dst (v.conc ρ')) w'):o.wp P a w K Q:=by
 unfold doA at h
 cases he:opA T r m o.op with
 | none=>rw [he] at h; cases h
 | some e =>
   rw [he] at h
   have hcall:∀ f vs,e = .call f vs→∃ fn c,T.fn.get f=some fn∧fn.body=some c:=by
    rintro f vs rfl
    exact (hc f vs m v m' h).1
   have hd:=opA_sound H hr hm hs he hcall
   unfold Oper.wp
   rw [ha]
   cases e with
   | val u m1 =>
     injection h with h
     injection h with h1 h2
     subst h1; subst h2
     obtain ⟨ρ',w',h1,h2,h3⟩:=hd
     rw [h1]
     exact hK ρ' w' h2 h3
   | skip m1 =>
     injection h with h
     injection h with h1 h2
     subst h1; subst h2
     obtain ⟨ρ',w',h1,h2,h3⟩:=hd
     rw [h1]
     have:=hK ρ' w' h2 fun S a1 a2=>⟨h3 S a1 a2,trivial⟩
     rw [conc_undef] at this
     exact this
   | call f vs =>
     obtain ⟨h1,h2⟩:=hd
     rw [h1,Oper.upon_enter]
     refine Calls.mono ((hc f vs m v m' h).2 ρ w (h2 _ hs hm.sup) hm) fun e w' he=>?_
     obtain ⟨ρ',rfl,k1,k2⟩:=he
     exact hK ρ' w' k1 fun S a1 a2=>k2 S (h2 S a1 a2) a2

theorem doA_sound {r:Regs} {m m':Mem} {o:Oper} {v:AV} (h:doA T call r m o.op=some (v,m')) {ρ:Rho} {N:Nat} {a:Act} {w:World} (hr:RegOk ρ N r a) (hm:MemOk ρ m w) (hs:RSup (fun b=>b<m.next) r)
 {K:Act→World→Prop} {Q:Exit→Act→World→Prop}
 (hK:∀ ρ' w',Post ρ ρ' m m' w w'→(∀ S,RSup S r→MSup S m→MSup (Wid S m m') m'∧v.sup (Wid S m m'))→K (a.put o.dst (v.conc ρ')) w'):o.wp P a w K Q:=doA_like H hc h hr rfl hm hs hK

theorem wantedA_eq {ops:Array Oper} {ρ:Rho} {N:Nat} {r:Regs} {a:Act} (hr:RegOk ρ N r a) (o:Oper):wantedA ops.toList r o=Region.wanted o (yielded ops a.tmps):=by
 unfold wantedA Region.wanted
 cases hg:o.guard with
 | none=>rfl
 | some p =>
   obtain ⟨j,want⟩:=p
   simp only
   unfold yielded
   rw [Array.getElem?_toList]
   cases hj:ops[j]? with
   | none=>simp
   | some q =>
     simp only [Option.bind_some]
     cases hd:q.dst with
     | none=>simp
     | some t =>
       simp only [Option.bind_some]
       have ht:=hr.at_ t
       rw [Array.getD_eq_getD_getElem?] at ht
       cases hx:a.tmps[t]? with
       | none =>
         rw [hx,Option.getD_none] at ht
         cases hv:r.at t <;> rw [hv] at ht <;> simp [AV.conc,undef] at ht ⊢
       | some x =>
         rw [hx,Option.getD_some] at ht
         rw [ht]
         cases hv:r.at t <;> simp [AV.conc]

theorem opsA_sound {ops:Array Oper} {N:Nat} {Q:Exit→Act→World→Prop}:∀ {l:List Oper} {k:Nat},ops.toList.drop k=l→∀ {r r':Regs} {m m':Mem},opsA T call N ops.toList l r m=some (r',m')→
 ∀ {ρ:Rho} {a:Act} {w:World},RegOk ρ N r a→MemOk ρ m w→RSup (fun b=>b<m.next) r→
 (∀ ρ' a' w',RegOk ρ' N r' a'→After ρ ρ' m m' w w' r r'→Q .normal a' w')→wpOps P ops Q (List.range' k l.length) a w
 | [], k, hl, r, r', m, m', h, ρ, a, w, hr, hm, hs, hQ => by
   injection h with h
   injection h with h1 h2
   subst h1; subst h2
   exact hQ ρ a w hr (After.refl hm)
 | o :: l, k, hl, r, r', m, m', h, ρ, a, w, hr, hm, hs, hQ => by
   have hk:ops[k]? = some o:=by
    rw [←Array.getElem?_toList,← List.head?_drop,hl]; rfl
   have hl':ops.toList.drop (k+1)=l:=by rw [←List.tail_drop,hl]; rfl
   rw [List.length_cons,List.range'_succ]
   unfold wpOps
   simp only [hk]
   rw [opsA] at h
   have hwant:=wantedA_eq H hc hr o (ops:=ops)
   cases hw:wantedA ops.toList r o with
   | true =>
     rw [hw] at h hwant
     rw [if_pos hwant.symm]
     simp only [cond_true] at h
     unfold stepA at h
     cases hd:doA T call r m o.op with
     | none=>rw [hd] at h; cases h
     | some p =>
       obtain ⟨v,m1⟩:=p
       rw [hd] at h
       simp only at h
       cases hp:putR N r o.dst v with
       | none=>rw [hp] at h; cases h
       | some r1 =>
         rw [hp] at h
         simp only [Option.map_some] at h
         refine .inl (doA_sound H hc hd hr hm hs fun ρ1 w1 h1 h2=>?_)
         have hr1:RegOk ρ1 N r1 (a.put o.dst (v.conc ρ1)):=by
          refine RegOk.put (r:=r) ⟨hr.size,hr.none,fun t=>?_⟩ hp
          rw [hr.at_ t]
          exact conc_congr (fun b hb=>(h1.same b (.inl hb)).symm) _ (hs t)
         have haft:After ρ ρ1 m m1 w w1 r r1:=⟨h1,fun S s1 s2=>⟨(h2 S s1 s2).1,RSup.put hp (fun t=>sup_mono (fun _ h=> .inl h) _ (s1 t)) (h2 S s1 s2).2⟩⟩
         exact opsA_sound hl' h hr1 h1.mem (haft.rsup hs hm) fun ρ' a' w' k1 k2=>hQ ρ' a' w' k1 (haft.trans k2)
   | false =>
     rw [hw] at h hwant
     rw [if_neg (by rw [←hwant]; simp)]
     simp only [cond_false] at h
     cases hp:putR N r o.dst .undef with
     | none=>rw [hp] at h; cases h
     | some r1 =>
       rw [hp] at h
       simp only [Option.map_some] at h
       have hr1:RegOk ρ N r1 (a.put o.dst undef):=by
        rw [←conc_undef ρ]
        exact RegOk.put hr hp
       have haft:After ρ ρ m m w w r r1:=⟨Post.refl hm,fun S s1 s2=>⟨s2.mono fun _ h=> .inl h,RSup.put hp (fun t=>sup_mono (fun _ h=> .inl h) _ (s1 t)) trivial⟩⟩
       exact opsA_sound hl' h hr1 hm (haft.rsup hs hm) fun ρ' a' w' k1 k2=>hQ ρ' a' w' k1 (haft.trans k2)

end
end Go.Proofs.YtbdcjhoedhhabaaGreat

