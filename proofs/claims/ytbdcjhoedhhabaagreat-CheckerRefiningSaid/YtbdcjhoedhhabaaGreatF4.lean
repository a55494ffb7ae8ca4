/- Contracts of the functions that the statements reach, part 4. -/
import Derived.Laws.Cells
import Derived.Laws.CopyRow
import Derived.ChangeKeysEq
import Derived.Laws.Entries
import Derived.Laws.StructEq
import Derived.IntWalk
import Derived.Test.YtbdcjhoedhhabaaGreatF3
set_option linter.unusedSimpArgs false
set_option linter.unusedVariables false

/- The executor's memory: reading and writing cells. -/
namespace Go.Proofs.YtbdcjhoedhhabaaGreat
open Go.RowKit

theorem putCells_spec:∀ (cs:List AV) (off:Nat) (vs cs':List AV),putCells cs off vs=some cs'→
 cs'=cs.take off ++ vs ++ cs.drop (off+vs.length)∧off+vs.length≤cs.length∧∀ v∈vs,v.one=true
 | cs, 0, [], cs', h => by
   have:cs=cs':=by cases cs <;> (injection h)
   subst this
   simp
 | c :: cs, 0, v :: vs, cs', h => by
   rw [putCells] at h
   cases ho:v.one with
   | false=>rw [ho] at h; cases h
   | true =>
     rw [ho] at h
     simp only [cond_true,Option.map_eq_some_iff] at h
     obtain ⟨r,hr,e⟩:=h
     obtain ⟨h1,h2,h3⟩:=putCells_spec cs 0 vs r hr
     subst e
     refine ⟨?_,by simp only [List.length_cons]; omega,fun x hx=>?_⟩
     ·rw [h1]; simp
     ·rcases List.mem_cons.1 hx with rfl | hx
      ·exact ho
      ·exact h3 x hx
 | c :: cs, n + 1, vs, cs', h => by
   rw [putCells] at h
   simp only [Option.map_eq_some_iff] at h
   obtain ⟨r,hr,e⟩:=h
   obtain ⟨h1,h2,h3⟩:=putCells_spec cs n vs r hr
   subst e
   refine ⟨?_,by simp only [List.length_cons]; omega,h3⟩
   rw [h1,show n+1+vs.length=(n+vs.length)+1 by omega]
   simp
 | [],n+1,vs,cs',h=>by cases vs <;> cases h
 | [],0,v :: vs,cs',h=>by cases h

theorem concs_append (ρ:Rho):∀ (x y:List AV),concs ρ (x ++ y)=concs ρ x ++ concs ρ y:=by simp [concs_eq]

theorem concs_take (ρ:Rho) (x:List AV) (n:Nat):concs ρ (x.take n)=(concs ρ x).take n:=by simp [concs_eq]

theorem concs_drop (ρ:Rho) (x:List AV) (n:Nat):concs ρ (x.drop n)=(concs ρ x).drop n:=by simp [concs_eq]

theorem concs_len (ρ:Rho) (x:List AV):(concs ρ x).length=x.length:=by simp [concs_eq]

theorem add_at (b o n:Nat):(⟨b,o,none⟩:Addr).add n=⟨b,o+n,none⟩:=by
 unfold Addr.add
 split
 ·subst_vars; rfl
 ·rfl

theorem one_conc (ρ:Rho) (v:AV) (h:v.one=true):(v.conc ρ).oneCell'=true:=by
 cases v <;> first | rfl | cases h

theorem cellsAt_spec {m:Mem} {b off n:Nat} {l:List AV} (h:cellsAt m b off n=some l):∃ cs el,m.blks.get b=some (.cells cs el)∧l=(cs.drop off).take n∧l.length=n:=by
 unfold cellsAt at h
 split at h
 ·rename_i cs el hc
  simp only at h
  cases hb:Nat.beq ((cs.drop off).take n).length n with
  | false=>rw [hb] at h; cases h
  | true =>
    rw [hb] at h
    injection h with h
    exact ⟨cs,el,hc,h.symm,by rw [←h]; exact Nat.eq_of_beq_eq_true hb⟩
 ·cases h

theorem cells_read {ρ:Rho} {m:Mem} {w:World} (hm:MemOk ρ m w) {b off n:Nat} {l:List AV} (h:cellsAt m b off n=some l) :
 l.length=n∧∀ j v,(concs ρ l)[j]? = some v→w.cell? ((⟨(ρ b).addr,off+(ρ b).shift,none⟩:Addr).add j)=some v:=by
 obtain ⟨cs,el,hc,hl,hn⟩:=cellsAt_spec h
 obtain ⟨pre,post,e,hw,hp,_⟩:=hm.ok b _ hc
 refine ⟨hn,fun j v hj=>?_⟩
 have hlt:j<n:=by rw [←hn,← concs_len ρ]; exact (List.getElem?_eq_some_iff.1 hj).1
 rw [add_at]
 rw [hl,concs_take,concs_drop,List.getElem?_take,if_pos hlt,List.getElem?_drop] at hj
 have hlt2:=(List.getElem?_eq_some_iff.1 hj).1
 simp only [World.cell?,hw,Option.isSome_none,Bool.false_eq_true,if_false,List.getElem?_toArray]
 rw [List.append_assoc,List.getElem?_append_right (by omega),List.getElem?_append_left (by omega),← hj]
 congr 1
 omega

theorem loadCells_sound {P:Program} {ρ:Rho} {m:Mem} {w:World} (hm:MemOk ρ m w) {b off n:Nat} {l:List AV} (h:cellsAt m b off n=some l) :
 (loadCells ⟨(ρ b).addr,off+(ρ b).shift,none⟩ n).run P w = .ok (concs ρ l).toArray w:=by
 obtain ⟨hn,hr⟩:=cells_read hm h
 have:=run_loadCells_list (P:=P) w ⟨(ρ b).addr,off+(ρ b).shift,none⟩ (concs ρ l) hr
 rwa [concs_len,hn] at this

/-- The place of one block more. -/
def Rho.put (ρ:Rho) (n:Nat) (p:Pl):Rho:=fun b=>if b=n then p else ρ b

theorem Rho.put_at (ρ:Rho) (n:Nat) (p:Pl):ρ.put n p n=p:=if_pos rfl

theorem Rho.put_ne (ρ:Rho) {n b:Nat} (p:Pl) (h:b ≠ n):ρ.put n p b=ρ b:=if_neg h

theorem BlkOk.congr {ρ σ:Rho} {w w':World} {b:Nat} {k:Blk} {S:Nat→Prop} (h:BlkOk ρ w b k) (e:ρ b=σ b) (hS:∀ c,S c→ρ c=σ c) (hk:k.sup S)
 (hw:w'.heap[(ρ b).addr]? = w.heap[(ρ b).addr]?):BlkOk σ w' b k:=by
 cases k with
 | cells cs el =>
   obtain ⟨pre,post,t,h1,h2,h3⟩:=h
   exact ⟨pre,post,t,by rw [←e,hw,h1,concs_congr hS cs hk],by rw [←e]; exact h2,by rw [←e]; exact h3⟩
 | map es c =>
   unfold BlkOk at h ⊢
   rw [←e,hw,h]
   congr 3
   apply List.map_congr_left
   intro x hx
   obtain ⟨h1,h2⟩:=hk x hx
   simp only [entryOf,conc_congr hS _ h1,conc_congr hS _ h2]

theorem put_lt {ρ:Rho} {n:Nat} {p:Pl}:∀ c,c<n→ρ c=ρ.put n p c:=fun c hc=>(Rho.put_ne ρ p (by omega)).symm

/-- A block of the memory at a new place of the world. -/
theorem post_fresh {ρ:Rho} {m:Mem} {w w':World} (h:MemOk ρ m w) (k:Blk) (hs:k.sup (fun b=>b<m.next)) (p:Pl) (hb:Below w.heap.size w w')
 (hp:w.heap.size≤p.addr) (hk:BlkOk (ρ.put m.next p) w' m.next k):Post ρ (ρ.put m.next p) m (m.new k) w w' where
 mem:=by
  have hg:∀ b l,(m.new k).blks.get b=some l→(b=m.next∧l=k)∨(b ≠ m.next∧m.blks.get b=some l):=by
   intro b l e
   simp only [Mem.new,Tr.get_put] at e
   split at e
   ·rename_i hb; injection e with e; exact .inl ⟨hb,e.symm⟩
   ·rename_i hb; exact .inr ⟨hb,e⟩
  refine ⟨fun b l e=>?_,fun b l e=>?_,fun b l e=>?_,fun b l c l' e e' hne=>?_⟩
  ·show b<m.next+1
   rcases hg b l e with ⟨h1,_⟩ | ⟨_,h1⟩
   ·omega
   ·have:=h.lt b l h1; omega
  ·rcases hg b l e with ⟨h1,h2⟩ | ⟨h0,h1⟩
   ·subst h1; subst h2; exact hk
   ·exact (h.ok b l h1).congr (Rho.put_ne ρ p h0).symm put_lt (h.sup b l h1) (hb.block _ (h.ok b l h1).lt)
  ·rcases hg b l e with ⟨h1,h2⟩ | ⟨h0,h1⟩
   ·subst h2; exact Blk.sup_mono (fun b hb=>by show b<m.next+1; omega) hs
   ·exact Blk.sup_mono (fun b hb=>by show b<m.next+1; omega) (h.sup b l h1)
  ·rcases hg b l e with ⟨h1,_⟩ | ⟨h0,h1⟩ <;> rcases hg c l' e' with ⟨h1',_⟩ | ⟨h0',h1'⟩
   ·omega
   ·subst h1; rw [Rho.put_at,Rho.put_ne ρ p h0']; have:=(h.ok c l' h1').lt; omega
   ·subst h1'; rw [Rho.put_at,Rho.put_ne ρ p h0]; have:=(h.ok b l h1).lt; omega
   ·rw [Rho.put_ne ρ p h0,Rho.put_ne ρ p h0']; exact h.one b l c l' h1 h1' hne
 same b hb:=Rho.put_ne ρ p (by simp only [Mem.new] at hb; omega)
 next:=Nat.le_succ _
 keep:=Keep.of_below hb
 live b l e:=by
  simp only [Mem.new,Tr.get_put] at e
  split at e
  ·rename_i hb; subst hb; rw [Rho.put_at]; exact .inl hp
  ·rename_i hb; exact .inr ⟨b,l,e,(congrArg Pl.addr (Rho.put_ne ρ p hb)).symm⟩
 wr b hb:=hb
 old b hb _:=by
  simp only [Mem.new,Tr.get_put]
  rw [if_neg (by omega)]
 was b l e hb:=by
  simp only [Mem.new,Tr.get_put] at e
  rw [if_neg (by omega)] at e
  exact ⟨l,e⟩

theorem post_new {ρ:Rho} {m:Mem} {w:World} (h:MemOk ρ m w) (cs:List AV) (hs:sups (fun b=>b<m.next) cs) (el:Nat) (e:TypeId) :
 Post ρ (ρ.put m.next ⟨w.heap.size,0,0⟩) m (m.new (.cells cs el)) w (w.alloc (.cells (concs ρ cs).toArray e)):=by
 refine post_fresh h (.cells cs el) hs ⟨w.heap.size,0,0⟩ ((Below.refl _ _).alloc (Nat.le_refl _) _) (Nat.le_refl _) ⟨[],[],e,?_,?_,?_⟩
 ·rw [Rho.put_at,heap_alloc_new,concs_congr (put_lt (p:=⟨w.heap.size,0,0⟩)) cs hs]; simp
 ·rw [Rho.put_at]; rfl
 ·rw [Rho.put_at]; simp

/-- A live block written anew, or given up. -/
theorem post_set {ρ:Rho} {m:Mem} {w w':World} (h:MemOk ρ m w) {b:Nat} {k:Blk} (hb:m.blks.get b=some k) (o:Option Blk)
 (ho:∀ k',o=some k'→k'.sup (fun b=>b<m.next)∧BlkOk ρ w' b k') (hw:Keep (fun x=>x=(ρ b).addr) w w'):Post ρ ρ m (m.set b o) w w' where
 mem:=by
  have hg:∀ c l,(m.set b o).blks.get c=some l→(c=b∧o=some l)∨(c ≠ b∧m.blks.get c=some l):=by
   intro c l e
   simp only [Mem.set,Tr.get_put] at e
   split at e
   ·rename_i hc; exact .inl ⟨hc,e⟩
   ·rename_i hc; exact .inr ⟨hc,e⟩
  refine ⟨fun c l e=>?_,fun c l e=>?_,fun c l e=>?_,fun c l d l' e e' hne=>?_⟩
  ·show c<m.next
   rcases hg c l e with ⟨h1,_⟩ | ⟨_,h1⟩
   ·rw [h1]; exact h.lt b k hb
   ·exact h.lt c l h1
  ·rcases hg c l e with ⟨h1,h2⟩ | ⟨h0,h1⟩
   ·subst h1; exact (ho l h2).2
   ·have hlt:=(h.ok c l h1).lt
    exact (h.ok c l h1).congr rfl (fun _ _=>rfl) (h.sup c l h1) (hw.block _ hlt (h.one c l b k h1 hb h0))
  ·rcases hg c l e with ⟨h1,h2⟩ | ⟨h0,h1⟩
   ·exact (ho l h2).1
   ·exact h.sup c l h1
  ·have hl:∀ c l,(m.set b o).blks.get c=some l→∃ l',m.blks.get c=some l':=by
    intro c l e
    rcases hg c l e with ⟨h1,_⟩ | ⟨_,h1⟩
    ·exact ⟨k,by rw [h1]; exact hb⟩
    ·exact ⟨l,h1⟩
   obtain ⟨u,hu⟩:=hl c l e
   obtain ⟨v,hv⟩:=hl d l' e'
   exact h.one c u d v hu hv hne
 same _ _:=rfl
 next:=Nat.le_refl _
 keep:=hw.weak fun x _ e=>⟨b,k,hb,e.symm⟩
 live c l e:=by
  simp only [Mem.set,Tr.get_put] at e
  split at e
  ·rename_i hc; exact .inr ⟨b,k,hb,by rw [hc]⟩
  ·exact .inr ⟨c,l,e,rfl⟩
 wr c hc:=List.mem_cons_of_mem _ hc
 old c _ hn:=by
  simp only [Mem.set,Tr.get_put]
  rw [if_neg (fun e=>hn (by rw [e]; exact List.mem_cons_self))]
 was c l e _:=by
  simp only [Mem.set,Tr.get_put] at e
  split at e
  ·rename_i hc; exact ⟨k,by rw [hc]; exact hb⟩
  ·exact ⟨l,e⟩

theorem sups_of {S:Nat→Prop}:∀ {l:List AV},(∀ v∈l,v.sup S)→sups S l
 | [],_=>trivial
 | v :: l,h=>⟨h v List.mem_cons_self,sups_of fun x hx=>h x (List.mem_cons_of_mem _ hx)⟩

theorem sups_mem {S:Nat→Prop}:∀ {l:List AV},sups S l→∀ v∈l,v.sup S
 | v :: l, h, x, hx => by
   rcases List.mem_cons.1 hx with rfl | hx
   ·exact h.1
   ·exact sups_mem h.2 x hx

theorem sup_cells {S:Nat→Prop} {v:AV} (h:v.sup S):sups S v.cells:=by
 cases v <;> first | exact h | exact ⟨h,trivial⟩ | exact ⟨trivial,trivial⟩

theorem cellsAt_sup {S:Nat→Prop} {m:Mem} (hm:MSup S m) {b off n:Nat} {l:List AV} (h:cellsAt m b off n=some l):sups S l:=by
 obtain ⟨cs,el,hc,hl,_⟩:=cellsAt_spec h
 have hs:sups S cs:=hm b _ hc
 rw [hl]
 exact sups_of fun v hv=>sups_mem hs v (List.mem_of_mem_drop (List.mem_of_mem_take hv))

theorem splice_mid (pre cs post vs:List Value) (off:Nat) (h:off+vs.length≤cs.length) :
 (pre ++ cs ++ post).take (off+pre.length) ++ vs ++ (pre ++ cs ++ post).drop (off+pre.length+vs.length)=pre ++ (cs.take off ++ vs ++ cs.drop (off+vs.length)) ++ post:=by
 have e1:(pre ++ cs ++ post).take (off+pre.length)=pre ++ cs.take off:=by
  rw [List.append_assoc,List.take_append,List.take_of_length_le (by omega),Nat.add_sub_cancel,List.take_append_of_le_length (by omega)]
 have e2:(pre ++ cs ++ post).drop (off+pre.length+vs.length)=cs.drop (off+vs.length) ++ post:=by
  rw [List.append_assoc,List.drop_append,List.drop_of_length_le (by omega),List.nil_append,show off+pre.length+vs.length - pre.length=off+vs.length by omega,List.drop_append_of_le_length (by omega)]
 rw [e1,e2]
 simp

/-- Cells of a live block are written. -/
theorem storeCells_sound {P:Program} {ρ:Rho} {m:Mem} {w:World} (hm:MemOk ρ m w) {b off el:Nat} {cs vs cs':List AV} (hb:m.blks.get b=some (.cells cs el))
 (hp:putCells cs off vs=some cs') (hs:sups (fun b=>b<m.next) vs) :
 ∃ w',(storeCells ⟨(ρ b).addr,off+(ρ b).shift,none⟩ (concs ρ vs)).run P w = .ok () w'∧Post ρ ρ m (m.set b (some (.cells cs' el))) w w':=by
 obtain ⟨h1,h2,h3⟩:=putCells_spec cs off vs cs' hp
 obtain ⟨pre,post,e,hw,hq,hx⟩:=hm.ok b _ hb
 have hlt:=(Array.getElem?_eq_some_iff.1 hw).1
 have hst:=run_storeCells_at (P:=P) (ρ b).addr (off+(ρ b).shift) e (concs ρ vs) 0 _ w hw (by simp only [concs_len,List.size_toArray,List.length_append]; omega)
  (fun v hv=>by rw [concs_eq] at hv; obtain ⟨u,hu,rfl⟩:=List.mem_map.1 hv; exact one_conc ρ u (h3 u hu))
 refine ⟨_,hst,post_set hm hb _ (fun k' hk'=>?_) ⟨by simp,fun x _ hx=>setRow_other _ _ _ _ hx,rfl,rfl,rfl⟩⟩
 injection hk' with hk'
 subst hk'
 refine ⟨?_,pre,post,e,?_,hq,hx⟩
 ·rw [h1]
  have hc:sups (fun b=>b<m.next) cs:=hm.sup b _ hb
  refine sups_of fun v hv=>?_
  rcases List.mem_append.1 hv with hv | hv
  ·rcases List.mem_append.1 hv with hv | hv
   ·exact sups_mem hc v (List.mem_of_mem_take hv)
   ·exact sups_mem hs v hv
  ·exact sups_mem hc v (List.mem_of_mem_drop hv)
 ·rw [setRow_heap _ _ _ _ _ _ hw]
  simp only [Nat.add_zero]
  rw [←hq,splice_mid pre (concs ρ cs) post (concs ρ vs) off (by simp only [concs_len]; omega),h1]
  simp only [concs_append,concs_take,concs_drop,concs_len]

end Go.Proofs.YtbdcjhoedhhabaaGreat

/- The executor's operations, one by one: what the model does. -/
namespace Go.Proofs.YtbdcjhoedhhabaaGreat
set_option linter.unusedSectionVars false
open Go.RowKit

/-- The tables are those of the program. -/
structure TabsOk (T:Tabs) (P:Program):Prop where
 ty:∀ t i,T.ty.get t=some i→P.info? t=some i
 fn:∀ f x,T.fn.get f=some x→P.funcs[f]? = some x
 name : ∀ f x, T.fn.get f = some x → x.name ≠ "runtime.NumGoroutine"
 eqs:∀ t,t∈T.eqs→P.stoodInHeld t=false∧P.eqGuardType P.depth t=false

/-- All blocks that the registers name are of S. -/
def RSup (S:Nat→Prop) (r:Regs):Prop:=∀ t,(r.at t).sup S

/-- What an operation is said to do, it does. -/
def Does (ρ:Rho) (r:Regs) (m:Mem) (w:World) (res:Result Next):Eff→Prop
 | .val v m'=>∃ ρ' w',res = .ok (.value (v.conc ρ')) w'∧Post ρ ρ' m m' w w'∧∀ S,RSup S r→MSup S m→MSup (Wid S m m') m'∧v.sup (Wid S m m')
 | .skip m'=>∃ ρ' w',res = .ok .skip w'∧Post ρ ρ' m m' w w'∧∀ S,RSup S r→MSup S m→MSup (Wid S m m') m'
 | .call f vs=>res = .ok (.enter f (concs ρ vs).toArray) w∧∀ S,RSup S r→MSup S m→sups S vs

theorem Does.pure {ρ:Rho} {r:Regs} {m:Mem} {w:World} {res:Result Next} {v:AV} (hm:MemOk ρ m w) (h:res = .ok (.value (v.conc ρ)) w)
 (hs:∀ S,RSup S r→MSup S m→v.sup S):Does ρ r m w res (.val v m):=
 ⟨ρ,w,h,Post.refl hm,fun S h1 h2=>⟨h2.mono fun _ h=> .inl h,sup_mono (fun _ h=> .inl h) v (hs S h1 h2)⟩⟩

theorem av0_sup (S:Nat→Prop) (v:Value) (x:AV) (h:av0 v=some x):x.sup S:=by
 unfold av0 at h
 split at h <;> first | (injection h with h; subst h; trivial) | cases h

theorem mapM_sup (S:Nat→Prop) {d:Nat} (ih:∀ v x,avOf d v=some x→x.sup S):∀ (l:List Value) (xs:List AV),l.mapM (avOf d)=some xs→sups S xs
 | [],xs,h=>by simp at h; subst h; trivial
 | v :: l, xs, h => by
   simp only [List.mapM_cons,Option.bind_eq_bind,Option.bind_eq_some_iff] at h
   obtain ⟨x,hx,ys,hy,e⟩:=h
   injection e with e
   subst e
   exact ⟨ih v x hx,mapM_sup S ih l ys hy⟩

theorem avOf_sup (S:Nat→Prop):∀ (d:Nat) (v:Value) (x:AV),avOf d v=some x→x.sup S
 | 0,v,x,h=>av0_sup S v x h
 | d + 1, v, x, h => by
   have ih:=mapM_sup S (avOf_sup S d)
   unfold avOf at h
   split at h
   ·simp only [Option.bind_eq_some_iff,Option.map_eq_some_iff] at h
    obtain ⟨fs,h1,cs,h2,e⟩:=h
    subst e
    exact ⟨ih _ _ h1,ih _ _ h2⟩
   ·simp only [Option.map_eq_some_iff] at h
    obtain ⟨cs,h2,e⟩:=h
    subst e
    exact ih _ _ h2
   ·simp only [Option.map_eq_some_iff] at h
    obtain ⟨cs,h2,e⟩:=h
    subst e
    exact ih _ _ h2
   ·exact av0_sup S v x h

theorem evA_sup {S:Nat→Prop} {r:Regs} (hr:RSup S r) {x:Operand} {v:AV} (e:evA r x=some v):v.sup S:=by
 cases x with
 | tmp t=>injection e with e; subst e; exact hr t
 | const c=>exact avOf_sup S 3 c v e
 | global g=>cases e
 | func f=>injection e with e; subst e; exact ⟨trivial,trivial⟩

section
variable {T:Tabs} {P:Program} (H:TabsOk T P)
include H

theorem TabsOk.un {t:Nat} {d:TypeDesc} (h:T.un t=some d):P.underlying t=some d:=by
 unfold Tabs.un at h
 split at h
 ·rename_i i hi
  have e:=H.ty t i hi
  unfold Program.underlying
  rw [e]
  split at h
  ·rename_i n u hd
   simp only [Option.map_eq_some_iff] at h
   obtain ⟨j,hj,e2⟩:=h
   obtain ⟨di,_⟩:=i
   simp only at hd
   subst hd
   simp only [H.ty u j hj,Option.map_some,e2]
  ·rename_i hd
   injection h with h
   subst h
   split
   ·rename_i hx
    injection hx with hx
    subst hx
    exact absurd rfl (hd _ _)
   ·rename_i j _ hx
    injection hx with hx
    subst hx
    rfl
   ·rename_i hx; cases hx
 ·cases h

theorem TabsOk.size {t:Nat} {i:TypeInfo} (h:T.ty.get t=some i) (w:World):(sizeOf t).run P w = .ok i.size w:=by
 unfold sizeOf
 rw [Sem.run_bind,run_typeInfo w (H.ty t i h)]
 rfl

theorem TabsOk.agg {t:Nat} {b:Bool} (h:T.isAgg t=some b) (w:World):(Go.isAgg t).run P w = .ok b w:=by
 unfold Tabs.isAgg at h
 unfold Go.isAgg
 split at h
 ·rename_i hu; injection h with h; subst h; rw [Sem.run_bind,run_underlying (H.un hu)]; rfl
 ·rename_i hu; injection h with h; subst h; rw [Sem.run_bind,run_underlying (H.un hu)]; rfl
 ·rename_i d h1 h2 hu
  injection h with h
  subst h
  rw [Sem.run_bind,run_underlying (H.un hu)]
  cases d <;> first | rfl | exact (h1 _ rfl).elim | exact (h2 _ _ rfl).elim
 ·cases h

theorem TabsOk.zero_run {t:Nat} {z:AV} (ρ:Rho) (h:T.zero t=some z) (w:World):(zeroValue t).run P w = .ok (z.conc ρ) w:=by
 unfold Tabs.zero at h
 simp only [Option.bind_eq_some_iff] at h
 obtain ⟨i,hi,v,hv,e⟩:=h
 unfold zeroValue
 rw [Sem.run_bind,run_typeInfo w (H.ty t i hi)]
 simp only [Result.andThen_ok,hv,avOf_conc ρ 3 v z e]
 rfl

end

section
variable {T:Tabs} {P:Program} (H:TabsOk T P) {ρ:Rho} {N:Nat} {r:Regs} {m:Mem} {a:Act} {w:World} (hr:RegOk ρ N r a) (hm:MemOk ρ m w) {o:Oper} {e:Eff}
include hr hm

theorem move_sound {x:Operand} (ho:o.op = .move x) (h:opA T r m (.move x)=some e):Does ρ r m w ((execOp a.eval o).run P w) e:=by
 simp only [opA,opMove,Option.map_eq_some_iff] at h
 obtain ⟨v,hv,rfl⟩:=h
 refine Does.pure hm ?_ fun S h1 _=>evA_sup h1 hv
 simp only [execOp,ho,hr.ev hv]
 rfl

theorem assign_sound {x:Operand} (ho:o.op = .assign x) (h:opA T r m (.assign x)=some e):Does ρ r m w ((execOp a.eval o).run P w) e:=by
 simp only [opA,opAssign,Option.map_eq_some_iff] at h
 obtain ⟨v,hv,rfl⟩:=h
 refine Does.pure hm ?_ fun S h1 _=>evA_sup h1 hv
 simp only [execOp,ho,hr.ev hv]
 rfl

theorem pick_sound {c x y:Operand} (ho:o.op = .pick c x y) (h:opA T r m (.pick c x y)=some e):Does ρ r m w ((execOp a.eval o).run P w) e:=by
 simp only [opA,opPick] at h
 split at h
 ·rename_i hc
  simp only [Option.map_eq_some_iff] at h
  obtain ⟨v,hv,rfl⟩:=h
  refine Does.pure hm ?_ fun S h1 _=>evA_sup h1 hv
  simp only [execOp,ho,hr.ev hc,AV.conc,hr.ev hv]
  rfl
 ·rename_i hc
  simp only [Option.map_eq_some_iff] at h
  obtain ⟨v,hv,rfl⟩:=h
  refine Does.pure hm ?_ fun S h1 _=>evA_sup h1 hv
  simp only [execOp,ho,hr.ev hc,AV.conc,hr.ev hv]
  rfl
 ·cases h

include H in
theorem loadA_sound {t b off:Nat} {v:AV} (h:loadA T m t b off=some v):(loadVar t ⟨(ρ b).addr,off+(ρ b).shift,none⟩).run P w = .ok (v.conc ρ) w:=by
 unfold loadA at h
 unfold loadVar
 split at h
 ·rename_i i hg hi
  simp only [Option.map_eq_some_iff] at h
  obtain ⟨l,hl,rfl⟩:=h
  rw [Sem.run_bind,H.agg hg]
  simp only [Result.andThen_ok,if_true,Sem.run_bind,H.size hi,loadCells_sound hm hl]
  rfl
 ·rename_i i hg hi
  split at h
  ·rename_i u hl
   injection h with h
   subst h
   obtain ⟨_,hc⟩:=cells_read hm hl
   have h0:=hc 0 (u.conc ρ) rfl
   rw [addr_zero] at h0
   rw [Sem.run_bind,H.agg hg]
   simp only [Result.andThen_ok,Bool.false_eq_true,if_false,run_load,h0]
  ·cases h
 ·cases h

theorem loadA_sup {S:Nat→Prop} (hS:MSup S m) {t b off:Nat} {v:AV} (h:loadA T m t b off=some v):v.sup S:=by
 unfold loadA at h
 split at h
 ·simp only [Option.map_eq_some_iff] at h
  obtain ⟨l,hl,rfl⟩:=h
  exact cellsAt_sup hS hl
 ·split at h
  ·rename_i u hl
   injection h with h
   subst h
   exact (cellsAt_sup hS hl).1
  ·cases h
 ·cases h

include H in
theorem load_sound {t:Nat} {x:Operand} (ho:o.op = .load t x) (h:opA T r m (.load t x)=some e):Does ρ r m w ((execOp a.eval o).run P w) e:=by
 simp only [opA,opLoad] at h
 split at h
 ·rename_i b off hx
  simp only [Option.map_eq_some_iff] at h
  obtain ⟨v,hv,rfl⟩:=h
  refine Does.pure hm ?_ fun S _ h2=>loadA_sup hr hm h2 hv
  simp only [execOp,ho,hr.ev hx,AV.conc,Instr.loadAt,Instr.sureAddr,Sem.run_bind,Sem.run_pure,Result.andThen_ok,loadA_sound H hr hm hv]
 ·cases h

theorem new_does (cs:List AV) (hs:∀ S,RSup S r→MSup S m→sups S cs) (hl:sups (fun b=>b<m.next) cs) {vs:Array Value} (hv:vs.toList=concs ρ cs) {t:TypeId} {res:Result Next}
 (he:res = .ok (.value (.pointer (some ⟨w.heap.size,0,none⟩))) (w.alloc (.cells vs t))):Does ρ r m w res (.val (.ptr m.next 0) (m.new (.cells cs 0))):=by
 have hvs:vs=(concs ρ cs).toArray:=by rw [←hv]
 subst hvs
 refine ⟨ρ.put m.next ⟨w.heap.size,0,0⟩,_,?_,post_new hm cs hl 0 t,fun S h1 h2=>⟨?_, .inr ⟨Nat.le_refl _,Nat.lt_succ_self _⟩⟩⟩
 ·rw [he,AV.conc,Rho.put_at]; rfl
 ·intro b k e
  simp only [Mem.new,Tr.get_put] at e
  split at e
  ·injection e with e
   subst e
   exact sups_mono (fun _ h=> .inl h) cs (hs S h1 h2)
  ·exact Blk.sup_mono (fun _ h=> .inl h) (h2 b k e)

theorem zero_sup {S:Nat→Prop} {t:Nat} {z:AV} (h:T.zero t=some z):z.sup S:=by
 unfold Tabs.zero at h
 simp only [Option.bind_eq_some_iff] at h
 obtain ⟨i,hi,v,hv,e⟩:=h
 exact avOf_sup S 3 v z e

include H in
theorem alloc_sound {t:Nat} (ho:o.op = .alloc t) (h:opA T r m (.alloc t)=some e):Does ρ r m w ((execOp a.eval o).run P w) e:=by
 simp only [opA,opAlloc,Option.map_eq_some_iff] at h
 obtain ⟨z,hz,rfl⟩:=h
 refine new_does (vs:=(z.conc ρ).cells) (t:=t) hr hm z.cells (fun S _ _=>sup_cells (zero_sup hr hm hz)) (sup_cells (zero_sup hr hm hz)) (conc_cells ρ z) ?_
 simp only [execOp,ho,Instr.alloc,Sem.run_bind,H.zero_run ρ hz,Result.andThen_ok,newVar,newRow]
 rfl

theorem box_sound (hs:RSup (fun b=>b<m.next) r) {t:Nat} {x:Operand} (ho:o.op = .box t x) (h:opA T r m (.box t x)=some e):Does ρ r m w ((execOp a.eval o).run P w) e:=by
 simp only [opA,opBox,Option.map_eq_some_iff] at h
 obtain ⟨v,hv,rfl⟩:=h
 refine new_does (vs:=(v.conc ρ).cells) (t:=t) hr hm v.cells (fun S h1 _=>sup_cells (evA_sup h1 hv)) (sup_cells (evA_sup hs hv)) (conc_cells ρ v) ?_
 simp only [execOp,ho,hr.ev hv,Instr.box,newVar,newRow]
 rfl

/-- Cells of a live block are written: the supports. -/
theorem set_sup {S:Nat→Prop} (hS:MSup S m) {b off el:Nat} {cs vs cs':List AV} (hb:m.blks.get b=some (.cells cs el)) (hp:putCells cs off vs=some cs') (hv:sups S vs) :
 MSup (Wid S m (m.set b (some (.cells cs' el)))) (m.set b (some (.cells cs' el))):=by
 obtain ⟨h1,_,_⟩:=putCells_spec cs off vs cs' hp
 intro c k e
 simp only [Mem.set,Tr.get_put] at e
 split at e
 ·injection e with e
  subst e
  have hc:sups S cs:=hS b _ hb
  refine sups_mono (S:=S) (fun _ h=> .inl h) cs' ?_
  rw [h1]
  refine sups_of fun v hx=>?_
  rcases List.mem_append.1 hx with hx | hx
  ·rcases List.mem_append.1 hx with hx | hx
   ·exact sups_mem hc v (List.mem_of_mem_take hx)
   ·exact sups_mem hv v hx
  ·exact sups_mem hc v (List.mem_of_mem_drop hx)
 ·exact Blk.sup_mono (fun _ h=> .inl h) (hS c k e)

include H in
theorem store_sound (hs:RSup (fun b=>b<m.next) r) {t:Nat} {x y:Operand} (ho:o.op = .store t x y) (h:opA T r m (.store t x y)=some e):Does ρ r m w ((execOp a.eval o).run P w) e:=by
 simp only [opA,opStore] at h
 split at h
 ·rename_i b off v hx hy
  simp only [Option.map_eq_some_iff] at h
  obtain ⟨m',h,rfl⟩:=h
  unfold storeA at h
  split at h
  ·rename_i i cs el hi hb
   cases hn:Nat.beq v.cells.length i.size with
   | false=>rw [hn] at h; cases h
   | true =>
     rw [hn] at h
     simp only [cond_true,Option.map_eq_some_iff] at h
     obtain ⟨cs',hp,rfl⟩:=h
     obtain ⟨w',h1,h2⟩:=storeCells_sound (P:=P) hm hb hp (sup_cells (evA_sup hs hy))
     refine ⟨ρ,w',?_,h2,fun S h3 h4=>set_sup hr hm h4 hb hp (sup_cells (evA_sup h3 hy))⟩
     have hz:(v.conc ρ).cells.size=i.size:=by rw [←Array.length_toList,conc_cells,concs_len]; exact Nat.eq_of_beq_eq_true hn
     simp only [execOp,ho,hr.ev hx,hr.ev hy,AV.conc,Instr.storeAt,Instr.sureAddr,Sem.run_bind,Sem.run_pure,Result.andThen_ok,storeVar,H.size hi,hz,ne_eq,not_true_eq_false,if_false,conc_cells,h1]
  ·cases h
 ·cases h

end

end Go.Proofs.YtbdcjhoedhhabaaGreat

/- The executor's arithmetic and comparisons: what the model reckons. -/
namespace Go.Proofs.YtbdcjhoedhhabaaGreat
open Go.RowKit

theorem ieq_eq (a b:Int):ieq a b=(a == b):=by
 cases a with
 | ofNat a => cases b with
   | ofNat b=>rw [Bool.eq_iff_iff]; simp only [ieq,Nat.beq_eq,beq_iff_eq,Int.ofNat_eq_natCast]; omega
   | negSucc b=>rfl
 | negSucc a => cases b with
   | ofNat b=>rfl
   | negSucc b=>rw [Bool.eq_iff_iff]; simp [ieq]

theorem ile_eq (a b:Int):ile a b=decide (a≤b):=by
 rw [Bool.eq_iff_iff,decide_eq_true_iff]
 cases a with
 | ofNat a => cases b with
   | ofNat b=>simp [ile]
   | negSucc b=>simp only [ile,Bool.false_eq_true,false_iff,Int.ofNat_eq_natCast]; omega
 | negSucc a => cases b with
   | ofNat b=>simp only [ile,true_iff,Int.ofNat_eq_natCast]; omega
   | negSucc b=>simp only [ile,Nat.ble_eq]; omega

theorem kindEq_of {j k:IntKind} (h:kindEq j k=true):j=k:=by
 cases j <;> cases k <;> first | rfl | cases h

theorem i64_small (n:Int) (h1 : -9223372036854775808≤n) (h2:n≤9223372036854775807):IntKind.i64.wrap n=n:=by rw [IntKind.wrap_i64]; omega

theorem small_le {a:Nat} (h:small a=true):a≤9223372036854775807:=Nat.le_of_ble_eq_true h

theorem wrapA_eq (k:IntKind) (n:Int):wrapA k n=k.wrap n:=by
 unfold wrapA
 split
 ·rename_i a
  cases h:small a with
  | false=>exact cond_false _ _
  | true =>
    have:=small_le h
    have e:=i64_small (Int.ofNat a) (by simp only [Int.ofNat_eq_natCast]; omega) (by simp only [Int.ofNat_eq_natCast]; omega)
    exact e.symm
 ·rename_i a
  cases h:small a with
  | false=>exact cond_false _ _
  | true =>
    have:=small_le h
    have e:=i64_small (Int.negSucc a) (by rw [Int.negSucc_eq]; omega) (by rw [Int.negSucc_eq]; omega)
    exact e.symm
 ·rfl

/-- A value without addresses. -/
def AV.flat:AV→Prop
 | .bool _ | .int _ _ | .str _=>True
 | _=>False

theorem AV.flat.sup {v:AV} (h:v.flat) (S:Nat→Prop):v.sup S:=by
 cases v <;> first | trivial | exact h.elim

section
variable {P:Program} (ρ:Rho) (w:World)

theorem shiftA_sound {op:BinOp} {k j:IntKind} {a b:Int} {v:AV} (h:shiftA op k a b=some v):(Op.shift op k a j b).run P w = .ok (v.conc ρ) w∧v.flat:=by
 cases b with
 | negSucc b=>cases h
 | ofNat b =>
   have h0:¬ (Int.ofNat b<0):=by simp only [Int.ofNat_eq_natCast]; omega
   have h1:(Int.ofNat b).toNat=b:=rfl
   cases op <;> cases h
   all_goals
    simp only [Op.shift,h0,if_false,h1,wrapA_eq,AV.conc,AV.flat,and_true]
    rfl

theorem arithA_sound {op:BinOp} {k:IntKind} {a b:Int} {v:AV} (h:arithA op k a b=some v) (h1:op ≠ .shl) (h2:op ≠ .shr) (t:TypeId) :
 (binOp op t (.int k a) (.int k b)).run P w = .ok (v.conc ρ) w∧v.flat:=by
 cases op <;> first | exact absurd rfl h1 | exact absurd rfl h2 | skip
 case quo=>
  simp only [arithA,ieq_eq] at h
  cases hb:(b == 0) with
  | true=>rw [hb] at h; cases h
  | false =>
    rw [hb] at h
    injection h with h
    subst h
    simp at hb
    simp only [binOp,ne_eq,not_true_eq_false,if_false,Op.intDiv,hb,wrapA_eq,AV.conc,AV.flat,and_true]
    rfl
 case rem=>
  simp only [arithA,ieq_eq] at h
  cases hb:(b == 0) with
  | true=>rw [hb] at h; cases h
  | false =>
    rw [hb] at h
    injection h with h
    subst h
    simp at hb
    simp only [binOp,ne_eq,not_true_eq_false,if_false,Op.intDiv,hb,AV.conc,AV.flat,and_true]
    rfl
 all_goals cases h
 all_goals
  simp only [binOp,ne_eq,not_true_eq_false,if_false,Op.intArith,Op.intBits,Op.intCmp,wrapA_eq,ieq_eq,ile_eq,AV.conc,AV.flat,and_true]
  first
  | rfl
  | (simp only [Sem.run_pure]
     congr 2
     first
     | rfl
     | (rw [Bool.eq_iff_iff]; simp; try omega))

theorem eqGuard_conc (op:BinOp) (t:TypeId) (x y:Operand) {a b:AV} (h:∀ xs ys,a = .agg xs→b = .agg ys→False):(eqGuard op t x y (a.conc ρ) (b.conc ρ)).run P w = .ok () w:=by
 cases a <;> cases b <;> first | exact (h _ _ rfl rfl).elim | (cases op <;> rfl)

theorem intA_sound {op:BinOp} {k j:IntKind} {a b:Int} {v:AV} (h:intA op k a j b=some v) (t:TypeId):(binOp op t (.int k a) (.int j b)).run P w = .ok (v.conc ρ) w∧v.flat:=by
 unfold intA at h
 split at h
 ·exact shiftA_sound (j:=j) ρ w h
 ·exact shiftA_sound (j:=j) ρ w h
 ·rename_i h1 h2
  cases hk:kindEq k j with
  | false=>rw [hk] at h; cases h
  | true =>
    rw [hk] at h
    have:=kindEq_of hk
    subst this
    exact arithA_sound ρ w h h1 h2 t

theorem toList_bytes (a:ByteArray):a.toList=a.data.toList:=ByteArray.toList_eq a

theorem strA_sound {op:BinOp} {a b:ByteArray} {v:AV} (h:strA op a b=some v) (t:TypeId):(binOp op t (.string a) (.string b)).run P w = .ok (v.conc ρ) w∧v.flat:=by
 cases op <;> cases h
 all_goals
  simp only [binOp,Op.stringOp,toList_bytes,AV.conc,AV.flat,and_true]
  rfl

theorem eqOp_flat {op:BinOp} {b:Bool} {v:AV} (h:eqOp op b=some v):(op = .eql∧v = .bool b)∨(op = .neq∧v = .bool !b):=by
 cases op <;> cases h
 ·exact .inl ⟨rfl,rfl⟩
 ·exact .inr ⟨rfl,rfl⟩

end
end Go.Proofs.YtbdcjhoedhhabaaGreat

