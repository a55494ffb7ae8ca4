/- Contracts of the functions that the statements reach, part 9. -/
import Derived.Test.YtbdcjhoedhhabaaGreatF8
set_option linter.unusedSimpArgs false
set_option linter.unusedVariables false

/- The executor: what holds of its memories in any world; a piece of memory within a greater one. -/
namespace Go.Proofs.YtbdcjhoedhhabaaGreat
set_option linter.unusedSectionVars false
open Go.RowKit

/-- A memory that is well formed: ids below the next one. -/
structure MWf (m:Mem):Prop where
 lt:∀ b k,m.blks.get b=some k→b<m.next
 sup:MSup (fun b=>b<m.next) m

theorem MemOk.wf {ρ:Rho} {m:Mem} {w:World} (h:MemOk ρ m w):MWf m:=⟨h.lt,h.sup⟩

/-- The registers beyond a function's number hold nothing. -/
def RBd (N:Nat) (r:Regs):Prop:=∀ t,N≤t→r.at t = .undef

theorem conc_undef_inv {ρ:Rho} {x:AV} (h:x.conc ρ=undef):x = .undef:=by
 cases x <;> simp [AV.conc,undef] at h
 rename_i l
 cases l with
 | nil=>rfl
 | cons a l=>simp [concs] at h

theorem RegOk.bd {ρ:Rho} {N:Nat} {r:Regs} {a:Act} (h:RegOk ρ N r a):RBd N r:=fun t ht=>by
 have:=h.at_ t
 rw [Array.getD_eq_getD_getElem?,Array.getElem?_eq_none (by rw [h.size]; exact ht)] at this
 exact conc_undef_inv this.symm

theorem RBd.put {N:Nat} {r r':Regs} {dst:Option Nat} {v:AV} (h:RBd N r) (e:putR N r dst v=some r'):RBd N r':=by
 cases dst with
 | none=>injection e with e; subst e; exact h
 | some t =>
   unfold putR at e
   simp only at e
   cases hb:Nat.blt t N with
   | false=>rw [hb] at e; cases e
   | true =>
     rw [hb] at e
     injection e with e
     subst e
     have hlt:t<N:=Nat.le_of_ble_eq_true hb
     intro i hi
     unfold Regs.at
     rw [Tr.get_put,if_neg (by omega)]
     exact h i hi

/-- The plain world of a memory: every block at its own number. -/
def plainObj (ρ:Rho):Option Blk→Obj
 | some (.cells cs _)=> .cells (concs ρ cs).toArray 0
 | some (.map es c)=> .map (es.map (entryOf ρ)).toArray c
 | none=> .cells #[] 0

theorem canon {m:Mem} (h:MWf m):∃ ρ w,MemOk ρ m w:=by
 let ρ:Rho:=fun b=>⟨b,0,0⟩
 let w:World:={ (default:World) with heap:=Array.ofFn (n:=m.next) fun i=>plainObj ρ (m.blks.get i.val) }
 have hw:∀ b,b<m.next→w.heap[b]? = some (plainObj ρ (m.blks.get b)):=by
  intro b hb
  show (Array.ofFn (n:=m.next) fun i=>plainObj ρ (m.blks.get i.val))[b]? = _
  rw [Array.getElem?_ofFn,dif_pos hb]
 refine ⟨ρ,w,h.lt,fun b k e=>?_,h.sup,fun b k c l e1 e2 hne=>hne⟩
 have hb:=h.lt b k e
 cases k with
 | cells cs el=>exact ⟨[],[],0,by rw [hw b hb,e]; simp [plainObj],rfl,by simp [ρ]⟩
 | map es c=>show _=_; rw [hw b hb,e]; rfl

theorem canon_act (ρ:Rho) {N:Nat} {r:Regs} (h:RBd N r):∃ a,RegOk ρ N r a:=by
 refine ⟨⟨Array.ofFn (n:=N) fun i=>(r.at i.val).conc ρ,[]⟩,by simp,rfl,fun t=>?_⟩
 simp only [Array.getD_eq_getD_getElem?,Array.getElem?_ofFn]
 by_cases ht:t<N
 ·rw [dif_pos ht]; rfl
 ·rw [dif_neg ht,h t (by omega),conc_undef]; rfl

theorem Oper.wp_out {P:Program} {o:Oper} {a:Act} {w:World} {F:Prop} (h:o.wp P a w (fun _ _=>F) (fun _ _ _=>False)):F:=by
 unfold Oper.wp at h
 generalize (execOp a.eval o).run P w=res at h
 cases res with
 | ok n w' =>
   cases n <;> simp only [Oper.upon] at h
   case value=>exact h
   case skip=>exact h
   case defer=>exact h
   case enter=>
    obtain ⟨e,w',fr,hR,_⟩:=h []
    cases e with
    | returned v=>exact hR
    | panicked c=>exact hR.elim
    | outgrown=>obtain ⟨_,_,hf⟩:=hR; exact hf.elim
   case row=>obtain ⟨v,w',hR,_⟩:=h default []; exact hR
 | halt x w'=>cases x <;> simp only [Oper.upon] at h

section
variable {T:Tabs} {P:Program} (H:TabsOk T P) {call:CallA} (hc:CallsOk T P call)
include H hc

/-- What an operation does to the executor's memory, world or no world. -/
theorem doA_pure {r:Regs} {m m':Mem} {op:Op} {v:AV} (h:doA T call r m op=some (v,m')) (hm:MWf m) (hs:RSup (fun b=>b<m.next) r) {N:Nat} (hb:RBd N r) :
 m.next≤m'.next∧MWf m'∧(∀ b,b∈m.wr→b∈m'.wr)∧(∀ b,b<m.next→b∉m'.wr→m'.blks.get b=m.blks.get b)∧(∀ b k,m'.blks.get b=some k→b<m.next→∃ l,m.blks.get b=some l)∧
 ∀ S,RSup S r→MSup S m→MSup (Wid S m m') m'∧v.sup (Wid S m m'):=by
 obtain ⟨ρ,w,hok⟩:=canon hm
 obtain ⟨a,hr⟩:=canon_act ρ hb
 refine Oper.wp_out (P:=P) (o:={ (default:Oper) with op:=op }) (a:=a) (w:=w) ?_
 exact doA_sound H hc (o:={ (default:Oper) with op:=op }) h hr hok hs fun ρ' w' h1 h2=>⟨h1.next,h1.mem.wf,h1.wr,h1.old,h1.was,h2⟩

end

/-- Blocks and what they stand for in a world; ids of S. -/
structure GOk (ρ:Rho) (g:Nat→Option Blk) (S:Nat→Prop) (w:World):Prop where
 live:∀ b k,g b=some k→S b∧k.sup S∧BlkOk ρ w b k
 one:∀ b k c l,g b=some k→g c=some l→b ≠ c→(ρ b).addr ≠ (ρ c).addr

/-- A piece of the memory has run on; the whole. -/
theorem GOk.frame {ρ ρ':Rho} {g:Nat→Option Blk} {S:Nat→Prop} {w w':World} (hg:GOk ρ g S w) {pre post:Mem} (hm:MemOk ρ pre w) (hsub:∀ b k,pre.blks.get b=some k→g b=some k)
 (hp:Post ρ ρ' pre post w w') (hsup:MSup (Wid S pre post) post) (hfresh:∀ b,S b→b<pre.next∨post.next≤b) {g':Nat→Option Blk}
 (hg':∀ b,(((pre.next≤b∧b<post.next)∨b∈post.wr)∧g' b=post.blks.get b)∨(¬ ((pre.next≤b∧b<post.next)∨b∈post.wr)∧g' b=g b)):GOk ρ' g' (Wid S pre post) w':=by
 -- a live block of the whole is one of the piece, or lies beside it
 have split:∀ b k,g' b=some k→post.blks.get b=some k∨(g b=some k∧pre.blks.get b=none∧¬ (pre.next≤b∧b<post.next)):=by
  intro b k e
  rcases hg' b with ⟨_,h2⟩ | ⟨h1,h2⟩
  ·rw [h2] at e; exact .inl e
  ·rw [h2] at e
   cases hq:pre.blks.get b with
   | none=>exact .inr ⟨e,rfl,fun hh=>h1 (.inl hh)⟩
   | some l =>
     have h3:=hsub b l hq
     rw [e] at h3
     injection h3 with h3
     subst h3
     left
     rw [hp.old b (hm.lt b _ hq) (fun hh=>h1 (.inr hh))]
     exact hq
 have beside:∀ b k,g b=some k→pre.blks.get b=none→∀ x,Lv ρ pre x→(ρ b).addr ≠ x:=by
  rintro b k e hn x ⟨c,l,hc,rfl⟩
  refine hg.one b k c l e (hsub c l hc) fun h=>?_
  subst h
  rw [hc] at hn
  cases hn
 have rho:∀ b,S b→ρ b=ρ' b:=fun b hb=>(hp.same b (hfresh b hb)).symm
 have side:∀ b k,g b=some k→pre.blks.get b=none→BlkOk ρ' w' b k:=by
  intro b k e hn
  obtain ⟨s1,s2,s3⟩:=hg.live b k e
  exact s3.congr (rho b s1) rho s2 (hp.keep.block _ s3.lt fun hl=>beside b k e hn _ hl rfl)
 refine ⟨fun b k e=>?_,fun b k c l e1 e2 hne=>?_⟩
 ·rcases split b k e with h | ⟨h1,h2,h3⟩
  ·refine ⟨?_,hsup b k h,hp.mem.ok b k h⟩
   have hlt:=hp.mem.lt b k h
   by_cases hb:b<pre.next
   ·obtain ⟨l,hl⟩:=hp.was b k h hb
    exact .inl (hg.live b l (hsub b l hl)).1
   ·exact .inr ⟨by omega,hlt⟩
  ·obtain ⟨s1,s2,_⟩:=hg.live b k h1
   exact ⟨.inl s1,Blk.sup_mono (fun _ h=> .inl h) s2,side b k h1 h2⟩
 ·have cross:∀ b k c l,post.blks.get b=some k→g c=some l→pre.blks.get c=none→(ρ' b).addr ≠ (ρ' c).addr:=by
   intro b k c l h1 h2 h3 heq
   obtain ⟨s1,s2,s3⟩:=hg.live c l h2
   rw [←rho c s1] at heq
   rcases hp.live b k h1 with h4 | h4
   ·have:=s3.lt; omega
   ·exact beside c l h2 h3 _ h4 heq.symm
  rcases split b k e1 with h1 | ⟨h1,h2,_⟩ <;> rcases split c l e2 with h3 | ⟨h3,h4,_⟩
  ·exact hp.mem.one b k c l h1 h3 hne
  ·exact cross b k c l h1 h3 h4
  ·exact fun h=>cross c l b k h3 h1 h2 h.symm
  ·rw [←rho b (hg.live b k h1).1,← rho c (hg.live c l h3).1]
   exact hg.one b k c l h1 h3 hne

/-! ### Operands alone count -/

section
variable {r r':Regs}

theorem evA_congr {x:Operand} (h:∀ t,x = .tmp t→r.at t=r'.at t):evA r x=evA r' x:=by
 cases x with
 | tmp t=>show some _=some _; rw [h t rfl]
 | _=>rfl

theorem evL_congr:∀ {l:List Operand},(∀ t,Operand.tmp t∈l→r.at t=r'.at t)→evL r l=evL r' l
 | [],_=>rfl
 | x :: l, h => by
   rw [evL,evL,evA_congr (x:=x) fun t e=>h t (by rw [e]; exact List.mem_cons_self),evL_congr (l:=l) fun t ht=>h t (List.mem_cons_of_mem _ ht)]

theorem evParts_congr:∀ {l:List (Nat×Operand)},(∀ t,Operand.tmp t∈l.map (·.2)→r.at t=r'.at t)→evParts r l=evParts r' l
 | [],_=>rfl
 | (i, x) :: l, h => by
   rw [evParts,evParts,evA_congr (x:=x) fun t e=>h t (by rw [e]; exact List.mem_cons_self),evParts_congr (l:=l) fun t ht=>h t (List.mem_cons_of_mem _ ht)]

theorem optNat_congr {x:Option Operand} (h:∀ t,x=some (.tmp t)→r.at t=r'.at t):optNat r x=optNat r' x:=by
 cases x with
 | none=>rfl
 | some x=>rw [optNat,optNat,evA_congr (x:=x) fun t e=>h t (by rw [e])]

theorem opA_congr (T:Tabs) (m:Mem) {op:Op} (h:∀ t,Operand.tmp t∈op.operands→r.at t=r'.at t):opA T r m op=opA T r' m op:=by
 have one:∀ x:Operand,x∈op.operands→evA r x=evA r' x:=fun x hx=>evA_congr fun t e=>h t (by rw [←e]; exact hx)
 cases op with
 | move x=>simp only [opA,opMove,one x (by simp [Op.operands])]
 | assign x=>simp only [opA,opAssign,one x (by simp [Op.operands])]
 | pick c x y=>simp only [opA,opPick,one c (by simp [Op.operands]),one x (by simp [Op.operands]),one y (by simp [Op.operands])]
 | alloc t=>rfl
 | box t x=>simp only [opA,opBox,one x (by simp [Op.operands])]
 | build t ps=>simp only [opA,opBuild,evParts_congr (l:=ps.toList) fun t ht=>h t (by simpa [Op.operands] using ht)]
 | buildSlice t n ps=>simp only [opA,opBuildSlice,evParts_congr (l:=ps.toList) fun t ht=>h t (by simpa [Op.operands] using ht)]
 | load t x=>simp only [opA,opLoad,one x (by simp [Op.operands])]
 | store t x y=>simp only [opA,opStore,one x (by simp [Op.operands]),one y (by simp [Op.operands])]
 | nilCheck x=>simp only [opA,opNilCheck,one x (by simp [Op.operands])]
 | binOp op t x y u=>simp only [opA,opBinOp,one x (by simp [Op.operands]),one y (by simp [Op.operands])]
 | unOp op t x=>simp only [opA,opUnOp,one x (by simp [Op.operands])]
 | convert s d x=>simp only [opA,opConvert,one x (by simp [Op.operands])]
 | makeFunc f fs cs =>
   cases f with
   | func f =>
     show opMakeFunc T r m f fs cs=opMakeFunc T r' m f fs cs
     simp only [opMakeFunc,evL_congr (l:=fs.toList) fun t ht=>h t (by simp [Op.operands]; exact .inl (by simpa using ht)),evL_congr (l:=cs.toList) fun t ht=>h t (by simp [Op.operands]; exact .inr (by simpa using ht))]
   | _=>rfl
 | makeMap t x=>cases x <;> rfl
 | makeSlice t l c=>simp only [opA,opMakeSlice,one l (by simp [Op.operands]),one c (by simp [Op.operands])]
 | slice t x lo hi mx =>
   cases mx with
   | none=>simp only [opA,opSlice,one x (by simp [Op.operands]),optNat_congr (x:=lo) fun t e=>h t (by rw [e]; simp [Op.operands]),optNat_congr (x:=hi) fun t e=>h t (by rw [e]; simp [Op.operands])]
   | some mx=>rfl
 | fieldAddr s x f=>simp only [opA,opFieldAddr,one x (by simp [Op.operands])]
 | field s x f=>simp only [opA,opField,one x (by simp [Op.operands])]
 | indexAddr t x ix=>simp only [opA,opIndexAddr,one x (by simp [Op.operands]),one ix (by simp [Op.operands])]
 | index t x ix=>simp only [opA,opIndex,one x (by simp [Op.operands]),one ix (by simp [Op.operands])]
 | lookup t x k ok=>simp only [opA,opLookup,one x (by simp [Op.operands]),one k (by simp [Op.operands])]
 | mapUpdate t x k v=>simp only [opA,opMapUpdate,one x (by simp [Op.operands]),one k (by simp [Op.operands]),one v (by simp [Op.operands])]
 | mapEntry t x k=>simp only [opA,opMapEntry,one x (by simp [Op.operands]),one k (by simp [Op.operands])]
 | entryStore t x s v=>simp only [opA,opEntryStore,one x (by simp [Op.operands]),one s (by simp [Op.operands]),one v (by simp [Op.operands])]
 | extract x i=>simp only [opA,opExtract,one x (by simp [Op.operands])]
 | call c =>
   have e1:evL r c.args.toList=evL r' c.args.toList:=evL_congr fun t ht=>h t (by simp [Op.operands,Call.operands]; exact .inr (by simpa using ht))
   simp only [opA,opCall,e1]
   cases evL r' c.args.toList with
   | none=>cases c.callee <;> rfl
   | some vs =>
     cases hcal:c.callee with
     | value f =>
       show (match evA r f with | some (.fn f fs cs)=>some (Eff.call f (fs ++ vs ++ cs)) | _=>none)=(match evA r' f with | some (.fn f fs cs)=>some (Eff.call f (fs ++ vs ++ cs)) | _=>none)
       rw [one f (by simp [Op.operands,Call.operands,hcal])]
     | _=>rfl
 | _=>rfl

end
end Go.Proofs.YtbdcjhoedhhabaaGreat

/- The executor's drawn regions: the run in the order of the text, step by step. -/
namespace Go.Proofs.YtbdcjhoedhhabaaGreat
set_option linter.unusedSectionVars false
open Go.RowKit

/-- What an operation of the run did. -/
structure Rec where
 on:Bool
 v:AV
 pre:Mem
 post:Mem

def Rec.touch (x:Rec) (b:Nat):Bool:=x.on && ((decide (x.pre.next≤b) && decide (b<x.post.next)) || x.post.wr.contains b)

theorem Rec.touch_iff {x:Rec} {b:Nat}:x.touch b=true↔x.on=true∧((x.pre.next≤b∧b<x.post.next)∨b∈x.post.wr):=by
 simp [Rec.touch]

structure StepOk (T:Tabs) (call:CallA) (N:Nat) (ops:Array Oper) (A:List Nat) (R:Nat→Rec) (rs:Nat→Regs) (ms:Nat→Mem) (i:Nat) (o:Oper):Prop where
 op:ops[i]? = some o
 want:wantedA ops.toList (rs i) o=(R i).on
 put:putR N (rs i) o.dst (R i).v=some (rs (i+1))
 off:(R i).on=false→(R i).v = .undef∧ms (i+1)=ms i
 run:(R i).on=true→doA T call (rs i) (R i).pre o.op=some ((R i).v,(R i).post)
 next:(R i).on=true→(R i).pre.next=(ms i).next∧(ms (i+1)).next=(R i).post.next
 wr0:(R i).on=true→(R i).pre.wr = []
 wrs:(R i).on=true→(ms (i+1)).wr=(R i).post.wr ++ (ms i).wr
 mem:(R i).on=true→∀ b,(ms (i+1)).blks.get b=if (R i).touch b=true then (R i).post.blks.get b else (ms i).blks.get b
 sub:(R i).on=true→∀ b k,(R i).pre.blks.get b=some k→(ms i).blks.get b=some k
 free:∀ j,j<i→Nat.testBit (A.getD i 0) j=false→(R j).on=true→(R i).on=true→(∀ b,(R j).touch b=true→(R i).touch b=true→False)∧(∀ b k,(R i).pre.blks.get b=some k→(R j).touch b=false)∧(∀ b k,(R j).pre.blks.get b=some k→(R i).touch b=false)

/-- An entry of the log tells of a record. -/
structure EntOf (e:Ent) (x:Rec):Prop where
 lo:e.lo=x.pre.next
 hi:e.hi=x.post.next
 wr:e.wr=x.post.wr
 tiny:e.chain=false→x.post.wr = []∧x.post.next≤x.pre.next+1∧∀ b k,x.pre.blks.get b=some k→e.rd=some b

theorem EntOf.touch {e:Ent} {x:Rec} (h:EntOf e x) (hon:x.on=true) (b:Nat):e.touch b=x.touch b:=by
 rw [Bool.eq_iff_iff,Rec.touch_iff]
 unfold Ent.touch
 rw [h.lo,h.hi,h.wr]
 simp only [Bool.or_eq_true,Bool.and_eq_true,Nat.ble_eq,List.any_eq_true,hon,true_and]
 constructor
 ·rintro (⟨h1,h2⟩ | ⟨y,hy,hb⟩)
  ·exact .inl ⟨h1,Nat.le_of_ble_eq_true h2⟩
  ·rw [Nat.eq_of_beq_eq_true hb]; exact .inr hy
 ·rintro (⟨h1,h2⟩ | hy)
  ·exact .inl ⟨h1,Nat.ble_eq_true_of_le h2⟩
  ·exact .inr ⟨b,hy,Nat.beq_refl b⟩

structure LogOk (log:List Ent) (R:Nat→Rec) (m:Mem) (j:Nat):Prop where
 told:∀ i,i<j→(R i).on=true→(∃ e∈log,e.i=i∧EntOf e (R i))∨((∀ b,(R i).touch b=false)∧∀ b,(R i).pre.blks.get b=none)
 hi:∀ e∈log,e.hi≤m.next
 post:∀ i,i<j→(R i).on=true→(R i).post.next≤m.next
 pre:∀ i,i<j→(R i).on=true→∀ b k,(R i).pre.blks.get b=some k→b<m.next

theorem kill_get:∀ (ks:List Nat) (t:Tr Blk) (b:Nat),(killA t ks).get b=if b∈ks then none else t.get b
 | [],t,b=>by simp [killA]
 | k :: ks, t, b => by
   rw [killA,kill_get ks,Tr.get_put]
   by_cases h:b∈ks
   ·simp [h]
   ·by_cases hk:b=k <;> simp [h,hk]

theorem back_get (m:Tr Blk):∀ (ks:List Nat) (t:Tr Blk) (b:Nat),(backA m t ks).get b=if b∈ks then m.get b else t.get b
 | [],t,b=>by simp [backA]
 | k :: ks, t, b => by
   rw [backA,back_get m ks,Tr.get_put]
   by_cases h:b∈ks
   ·simp [h]
   ·by_cases hk:b=k <;> simp [h,hk]

theorem kills_mem {anc b:Nat}:∀ {log:List Ent},b∈killsA anc log↔∃ e∈log,Nat.testBit anc e.i=false∧e.chain=false∧e.lo<e.hi∧b=e.lo
 | []=>by simp [killsA]
 | e :: log => by
   rw [killsA]
   cases hb:(Nat.testBit anc e.i || e.chain || !Nat.blt e.lo e.hi) with
   | true =>
     rw [cond_true,kills_mem (log:=log)]
     simp only [List.mem_cons]
     constructor
     ·rintro ⟨f,h1,h2⟩; exact ⟨f, .inr h1,h2⟩
     ·rintro ⟨f,rfl | h1,h2,h3,h4,h5⟩
      ·have:Nat.blt f.lo f.hi=true:=Nat.ble_eq_true_of_le h4
       rw [h2,h3,this] at hb
       cases hb
      ·exact ⟨f,h1,h2,h3,h4,h5⟩
   | false =>
     rw [cond_false,List.mem_cons,kills_mem (log:=log)]
     simp only [Bool.or_eq_false_iff,Bool.not_eq_false'] at hb
     obtain ⟨⟨h1,h2⟩,h3⟩:=hb
     have h3:e.lo<e.hi:=Nat.le_of_ble_eq_true h3
     simp only [List.mem_cons]
     constructor
     ·rintro (rfl | ⟨f,g1,g2⟩)
      ·exact ⟨e, .inl rfl,h1,h2,h3,rfl⟩
      ·exact ⟨f, .inr g1,g2⟩
     ·rintro ⟨f,rfl | g1,g2,g3,g4,g5⟩
      ·exact .inl g5
      ·exact .inr ⟨f,g1,g2,g3,g4,g5⟩

theorem apart_spec {e f:Ent} (h:e.apart f=true):(e.chain=true→f.chain=true→False)∧(∀ b,e.rd=some b→f.touch b=false)∧(∀ b,f.rd=some b→e.touch b=false)∧(∀ b∈e.wr,f.touch b=false)∧(∀ b∈f.wr,e.touch b=false):=by
 unfold Ent.apart at h
 simp only [Bool.and_eq_true,List.all_eq_true,Bool.not_eq_true',Bool.and_eq_false_iff] at h
 obtain ⟨⟨⟨⟨h1,h2⟩,h3⟩,h4⟩,h5⟩:=h
 refine ⟨fun a b=>?_,fun b hb=>?_,fun b hb=>?_,h4,h5⟩
 ·rcases h1 with h1 | h1
  ·rw [a] at h1; cases h1
  ·rw [b] at h1; cases h1
 ·rw [hb] at h2; simpa using h2
 ·rw [hb] at h3; simpa using h3

section
variable {T:Tabs} {P:Program} (H:TabsOk T P) {call:CallA} (hc:CallsOk T P call)
include H hc

/-- One operation: what it did, said of the memory before and behind it. -/
theorem openA_spec {r:Regs} {m m1:Mem} {j anc:Nat} {log:List Ent} {op:Op} {v:AV} {e:Ent} (h:openA T call r m j anc log op=some (v,m1,e)) (hm:MWf m) (hs:RSup (fun b=>b<m.next) r) {N:Nat} (hb:RBd N r)
 (hchk:(log.all fun f=>Nat.testBit anc f.i || f.apart e)=true) (hhi:∀ f∈log,f.hi≤m.next) :
 ∃ x : Rec, x.on = true ∧ x.v = v ∧ e.i = j ∧ EntOf e x ∧ doA T call r x.pre op = some (v, x.post) ∧ x.pre.next = m.next ∧ m1.next = x.post.next ∧ x.pre.wr = [] ∧ m1.wr = x.post.wr ++ m.wr ∧
   (∀ b,m1.blks.get b=if x.touch b=true then x.post.blks.get b else m.blks.get b)∧(∀ b k,x.pre.blks.get b=some k→m.blks.get b=some k)∧
   (e.chain=true→∀ b,b∈killsA anc log→x.pre.blks.get b=none)∧MWf x.pre∧m.next≤x.post.next:=by
 unfold openA at h
 cases hch:chainOp op with
 | true =>
   rw [hch] at h
   simp only [cond_true] at h
   generalize hks:killsA anc log=ks at h
   generalize hpre:({ blks:=killA m.blks ks,next:=m.next,wr:=[] }:Mem)=pre at h
   have hget:∀ b,pre.blks.get b=if b∈ks then none else m.blks.get b:=by intro b; rw [←hpre]; exact kill_get ks m.blks b
   have hnext:pre.next=m.next:=by rw [←hpre]
   have hwr:pre.wr = []:=by rw [←hpre]
   have hsub:∀ b k,pre.blks.get b=some k→m.blks.get b=some k:=by
    intro b k e
    rw [hget] at e
    split at e
    ·cases e
    ·exact e
   have hwf:MWf pre:=⟨fun b k e=>by rw [hnext]; exact hm.lt b k (hsub b k e),fun b k e=>by rw [hnext]; exact hm.sup b k (hsub b k e)⟩
   cases hd:doA T call r pre op with
   | none=>rw [hd] at h; cases h
   | some q =>
     obtain ⟨v',p⟩:=q
     rw [hd] at h
     injection h with h
     injection h with h1 h2
     injection h2 with h2 h3
     subst h1
     obtain ⟨a1,a2,a3,a4,a5,a6⟩:=doA_pure H hc hd hwf (by rw [hnext]; exact hs) hb
     rw [hnext] at a1
     have he:EntOf e ⟨true,v',pre,p⟩:=by
      rw [←h3]
      exact ⟨hnext.symm,rfl,rfl,fun h=>by cases h⟩
     refine ⟨⟨true,v',pre,p⟩,rfl,rfl,by rw [←h3],he,hd,hnext,by rw [←h2],hwr,by rw [←h2],fun b=>?_,hsub,fun _ b hb=>?_,hwf,a1⟩
     ·rw [←h2]
      simp only
      rw [back_get]
      by_cases hbk:b∈ks
      ·rw [if_pos hbk]
       rw [←hks,kills_mem] at hbk
       obtain ⟨f,f1,f2,f3,f4,f5⟩:=hbk
       have hap:=List.all_eq_true.1 hchk f f1
       rw [f2,Bool.false_or] at hap
       obtain ⟨_,_,_,_,p5⟩:=apart_spec hap
       rw [if_neg]
       rw [Rec.touch_iff]
       rintro ⟨_,h1 | h1⟩
       ·have:=hhi f f1
        simp only [hnext] at h1
        omega
       ·have h1:b∈e.wr:=by rw [he.wr]; exact h1
        have:=p5 b h1
        rw [f5] at this
        unfold Ent.touch at this
        rw [Nat.ble_eq_true_of_le (Nat.le_refl f.lo),show Nat.blt f.lo f.hi=true from Nat.ble_eq_true_of_le f4] at this
        cases this
      ·rw [if_neg hbk]
       split
       ·rfl
       ·rename_i ht
        rw [Rec.touch_iff] at ht
        simp only [true_and,not_or,not_and] at ht
        have hpb:pre.blks.get b=m.blks.get b:=by rw [hget,if_neg hbk]
        by_cases hlt:b<m.next
        ·rw [a4 b (by rw [hnext]; exact hlt) ht.2,hpb]
        ·have h1:=ht.1 (by rw [hnext]; omega)
         have e1:p.blks.get b=none:=by
          cases hq:p.blks.get b with
          | none=>rfl
          | some k=>exact absurd (a2.lt b k hq) h1
         have e2:m.blks.get b=none:=by
          cases hq:m.blks.get b with
          | none=>rfl
          | some k=>exact absurd (hm.lt b k hq) hlt
         rw [e1,e2]
     ·simp only
      rw [hget,if_pos hb]
 | false =>
   rw [hch] at h
   simp only [cond_false] at h
   generalize hrd:readOf r op=rd at h
   generalize hpre:tinyA m rd=pre at h
   have hget:∀ b k,pre.blks.get b=some k→rd=some b∧m.blks.get b=some k:=by
    intro b k e
    rw [←hpre] at e
    unfold tinyA at e
    cases rd with
    | none=>cases e
    | some c =>
      simp only at e
      rw [Tr.get_put] at e
      split at e
      ·rename_i hbc; subst hbc; exact ⟨rfl,e⟩
      ·cases e
   have hnext:pre.next=m.next:=by rw [←hpre]; rfl
   have hwr:pre.wr = []:=by rw [←hpre]; rfl
   have hwf:MWf pre:=⟨fun b k e=>by rw [hnext]; exact hm.lt b k (hget b k e).2,fun b k e=>by rw [hnext]; exact hm.sup b k (hget b k e).2⟩
   cases hd:doA T call r pre op with
   | none=>rw [hd] at h; cases h
   | some q =>
     obtain ⟨v',p⟩:=q
     rw [hd] at h
     simp only at h
     cases hq:((Nat.beq p.next m.next || Nat.beq p.next (m.next+1)) && p.wr.isEmpty) with
     | false=>rw [hq] at h; cases h
     | true =>
       rw [hq] at h
       injection h with h
       injection h with h1 h2
       injection h2 with h2 h3
       subst h1
       simp only [Bool.and_eq_true,Bool.or_eq_true,List.isEmpty_iff] at hq
       obtain ⟨q1,q2⟩:=hq
       obtain ⟨a1,a2,a3,a4,a5,a6⟩:=doA_pure H hc hd hwf (by rw [hnext]; exact hs) hb
       rw [hnext] at a1
       have hle:p.next≤m.next+1:=by
        rcases q1 with q1 | q1 <;> (have:=Nat.eq_of_beq_eq_true q1; omega)
       have he:EntOf e ⟨true,v',pre,p⟩:=by
        rw [←h3]
        exact ⟨hnext.symm,rfl,q2.symm,fun _=>⟨q2,by rw [hnext]; exact hle,fun b k e=>(hget b k e).1⟩⟩
       refine ⟨⟨true,v',pre,p⟩,rfl,rfl,by rw [←h3],he,hd,hnext,by rw [←h2],hwr,by rw [←h2,q2]; rfl,fun b=>?_,fun b k e=>(hget b k e).2,fun hcn=>(by rw [←h3] at hcn; cases hcn),hwf,a1⟩
       rw [←h2]
       simp only
       cases hn:Nat.beq p.next m.next with
       | true =>
         have:=Nat.eq_of_beq_eq_true hn
         rw [cond_true,if_neg]
         rw [Rec.touch_iff]
         simp only [q2,hnext,this]
         rintro ⟨_,h1 | h1⟩
         ·omega
         ·cases h1
       | false =>
         have:=Nat.ne_of_beq_eq_false hn
         rw [cond_false,Tr.get_put]
         by_cases hbn:b=m.next
         ·rw [if_pos hbn,if_pos (by rw [Rec.touch_iff]; exact ⟨rfl, .inl ⟨by rw [hnext]; omega,by simp only; omega⟩⟩),hbn]
         ·rw [if_neg hbn,if_neg]
          rw [Rec.touch_iff]
          simp only [q2,hnext]
          rintro ⟨_,h1 | h1⟩
          ·omega
          ·cases h1

theorem drawn_trace {N:Nat} {ops:Array Oper} {A:List Nat}:∀ (l:List Oper) (j:Nat) (la:List Nat) (log:List Ent) (r:Regs) (m:Mem) {r':Regs} {m':Mem},drawnA T call N ops.toList l j la log r m=some (r',m')→
 ops.toList.drop j=l→A.drop j=la→∀ (R0:Nat→Rec) (rs0:Nat→Regs) (ms0:Nat→Mem),rs0 j=r→ms0 j=m→LogOk log R0 m j→MWf m→RSup (fun b=>b<m.next) r→RBd N r→
 ∃ (R : Nat → Rec) (rs : Nat → Regs) (ms : Nat → Mem), (∀ i, i < j → R i = R0 i) ∧ (∀ i, i ≤ j → rs i = rs0 i ∧ ms i = ms0 i) ∧ rs (j + l.length) = r' ∧ ms (j + l.length) = m' ∧
   (∀ i,j≤i→i<j+l.length→∃ o,StepOk T call N ops A R rs ms i o)∧(∀ i,j≤i→i≤j+l.length→MWf (ms i)∧RSup (fun b=>b<(ms i).next) (rs i)∧RBd N (rs i))
 | [], j, la, log, r, m, r', m', h, hl, hla, R0, rs0, ms0, hr0, hm0, hlog, hm, hs, hb => by
   injection h with h
   injection h with h1 h2
   subst h1; subst h2
   refine ⟨R0,rs0,ms0,fun _ _=>rfl,fun _ _=>⟨rfl,rfl⟩,hr0,hm0,fun i h1 h2=>by simp at h2; omega,fun i h1 h2=>?_⟩
   simp at h2
   have:i=j:=by omega
   subst this
   rw [hr0,hm0]
   exact ⟨hm,hs,hb⟩
 | o :: l,j,[],log,r,m,r',m',h,hl,hla,R0,rs0,ms0,hr0,hm0,hlog,hm,hs,hb=>by cases h
 | o :: l, j, anc :: la, log, r, m, r', m', h, hl, hla, R0, rs0, ms0, hr0, hm0, hlog, hm, hs, hb => by
   have hop:ops[j]? = some o:=by rw [←Array.getElem?_toList,← List.head?_drop,hl]; rfl
   have hl':ops.toList.drop (j+1)=l:=by rw [←List.tail_drop,hl]; rfl
   have hA:A.getD j 0=anc:=by rw [List.getD_eq_getElem?_getD,← List.head?_drop,hla]; rfl
   have hla':A.drop (j+1)=la:=by rw [←List.tail_drop,hla]; rfl
   have hlen:j+(o :: l).length=j+1+l.length:=by rw [List.length_cons]; omega
   rw [drawnA] at h
   -- one step more, then the rest
   have go:∀ (x:Rec) (r1:Regs) (m1:Mem) (log1:List Ent),drawnA T call N ops.toList l (j+1) la log1 r1 m1=some (r',m')→LogOk log1 (fun i=>if i=j then x else R0 i) m1 (j+1)→MWf m1→RSup (fun b=>b<m1.next) r1→RBd N r1→
    (∀ (R:Nat→Rec) (rs:Nat→Regs) (ms:Nat→Mem),(∀ i,i<j→R i=R0 i)→R j=x→rs j=r→ms j=m→rs (j+1)=r1→ms (j+1)=m1→StepOk T call N ops A R rs ms j o)→
    ∃ (R : Nat → Rec) (rs : Nat → Regs) (ms : Nat → Mem), (∀ i, i < j → R i = R0 i) ∧ (∀ i, i ≤ j → rs i = rs0 i ∧ ms i = ms0 i) ∧ rs (j + (o :: l).length) = r' ∧ ms (j + (o :: l).length) = m' ∧
      (∀ i,j≤i→i<j+(o :: l).length→∃ o,StepOk T call N ops A R rs ms i o)∧(∀ i,j≤i→i≤j+(o :: l).length→MWf (ms i)∧RSup (fun b=>b<(ms i).next) (rs i)∧RBd N (rs i)):=by
    intro x r1 m1 log1 h1 hlog1 hm1 hs1 hb1 hstep
    obtain ⟨R,rs,ms,e1,e2,e3,e4,e5,e6⟩:=drawn_trace l (j+1) la log1 r1 m1 h1 hl' hla' (fun i=>if i=j then x else R0 i) (fun i=>if i=j+1 then r1 else rs0 i) (fun i=>if i=j+1 then m1 else ms0 i) (if_pos rfl) (if_pos rfl) hlog1 hm1 hs1 hb1
    have hR:∀ i,i<j→R i=R0 i:=fun i hi=>by
     have:=e1 i (by omega)
     rw [if_neg (by omega)] at this
     exact this
    have hRj:R j=x:=by have:=e1 j (by omega); rw [if_pos rfl] at this; exact this
    have hrm:∀ i,i≤j→rs i=rs0 i∧ms i=ms0 i:=fun i hi=>by
     obtain ⟨a1,a2⟩:=e2 i (by omega)
     rw [if_neg (by omega)] at a1 a2
     exact ⟨a1,a2⟩
    have hj1:rs (j+1)=r1∧ms (j+1)=m1:=by
     obtain ⟨a1,a2⟩:=e2 (j+1) (Nat.le_refl _)
     rw [if_pos rfl] at a1 a2
     exact ⟨a1,a2⟩
    have hrj:=(hrm j (Nat.le_refl _)).1.trans hr0
    have hmj:=(hrm j (Nat.le_refl _)).2.trans hm0
    rw [hlen]
    refine ⟨R,rs,ms,hR,hrm,e3,e4,fun i h1 h2=>?_,fun i h1 h2=>?_⟩
    ·by_cases hi:i=j
     ·subst hi; exact ⟨o,hstep R rs ms hR hRj hrj hmj hj1.1 hj1.2⟩
     ·exact e5 i (by omega) (by omega)
    ·by_cases hi:i=j
     ·subst hi; rw [hrj,hmj]; exact ⟨hm,hs,hb⟩
     ·exact e6 i (by omega) (by omega)
   cases hw:wantedA ops.toList r o with
   | false =>
     rw [hw] at h
     simp only [cond_false] at h
     split at h
     ·rename_i r1 hp
      refine go ⟨false, .undef,m,m⟩ r1 m log h ⟨fun i hi hon=>?_,hlog.hi,fun i hi hon=>?_,fun i hi hon=>?_⟩ hm (RSup.put hp hs trivial) (hb.put hp) fun R rs ms a1 a2 a3 a4 a5 a6=>?_
      ·by_cases hij:i=j
       ·simp only [hij,if_true] at hon; cases hon
       ·simp only [hij,if_false] at hon ⊢; exact hlog.told i (by omega) hon
      ·by_cases hij:i=j
       ·simp only [hij,if_true] at hon; cases hon
       ·simp only [hij,if_false] at hon ⊢; exact hlog.post i (by omega) hon
      ·by_cases hij:i=j
       ·simp only [hij,if_true] at hon; cases hon
       ·simp only [hij,if_false] at hon ⊢; exact hlog.pre i (by omega) hon
      ·refine ⟨hop,by rw [a2,a3]; exact hw,by rw [a2,a3,a5]; exact hp,fun _=>⟨by rw [a2],by rw [a6,a4]⟩,?_,?_,?_,?_,?_,?_,?_⟩ <;> (try intro hon) <;> (try (rw [a2] at hon; cases hon))
       intro _ _ _ hon
       rw [a2] at hon; cases hon
     ·cases h
   | true =>
     rw [hw] at h
     simp only [cond_true] at h
     cases hop':openA T call r m j anc log o.op with
     | none=>rw [hop'] at h; cases h
     | some q =>
       obtain ⟨v,m1,e⟩:=q
       rw [hop'] at h
       simp only at h
       cases hchk:(log.all fun f=>Nat.testBit anc f.i || f.apart e) with
       | false=>rw [hchk] at h; cases h
       | true =>
         rw [hchk] at h
         simp only [cond_true] at h
         split at h
         ·rename_i r1 hp
          obtain ⟨x,x1,x2,x3,x4,x5,x6,x7,x8,x9,x10,x11,x12,x13,x14⟩:=openA_spec H hc hop' hm hs hb hchk hlog.hi
          obtain ⟨p1,p2,p3,p4,p5,p6⟩:=doA_pure H hc x5 x13 (by rw [x6]; exact hs) hb
          have hlive:∀ b k,x.pre.blks.get b=some k→b<m.next:=fun b k hk=>hm.lt b k (x11 b k hk)
          have hle:m.next≤m1.next:=by rw [x7]; exact x14
          have hm1:MWf m1:=by
           refine ⟨fun b k hk=>?_,fun b k hk=>?_⟩
           ·rw [x10] at hk
            split at hk
            ·rw [x7]; exact p2.lt b k hk
            ·have:=hm.lt b k hk; omega
           ·rw [x10] at hk
            split at hk
            ·rw [x7]; exact p2.sup b k hk
            ·exact Blk.sup_mono (fun c hc=>by have hc:c<m.next:=hc; show c<m1.next; omega) (hm.sup b k hk)
          have hv:v.sup (fun b=>b<m1.next):=by
           refine sup_mono (fun b hb=>?_) v (p6 (fun b=>b<m.next) hs (fun b k hk=>hm.sup b k (x11 b k hk))).2
           rcases hb with hb | hb
           ·have hb:b<m.next:=hb
            show b<m1.next
            omega
           ·show b<m1.next
            rw [x7]; exact hb.2
          -- what the log tells of the records before
          have hfree:∀ i,i<j→Nat.testBit anc i=false→(R0 i).on=true→(∀ b,(R0 i).touch b=true→x.touch b=true→False)∧(∀ b k,x.pre.blks.get b=some k→(R0 i).touch b=false)∧(∀ b k,(R0 i).pre.blks.get b=some k→x.touch b=false):=by
           intro i hi hbit hon
           rcases hlog.told i hi hon with ⟨f,f1,f2,f3⟩ | ⟨q1,q2⟩
           ·have hap:=List.all_eq_true.1 hchk f f1
            rw [f2,hbit,Bool.false_or] at hap
            obtain ⟨g1,g2,g3,g4,g5⟩:=apart_spec hap
            have tf:=f3.touch hon
            have te:=x4.touch x1
            have hpo:=hlog.post i hi hon
            refine ⟨fun b t1 t2=>?_,fun b k hk=>?_,fun b k hk=>?_⟩
            ·have t1':=t1
             have t2':=t2
             rw [Rec.touch_iff] at t1' t2'
             rcases t1'.2 with u1 | u1
             ·rcases t2'.2 with u2 | u2
              ·omega
              ·have:=g5 b (by rw [x4.wr]; exact u2)
               rw [tf,t1] at this; cases this
             ·have:=g4 b (by rw [f3.wr]; exact u1)
              rw [te,t2] at this; cases this
            ·cases hec:e.chain with
             | false=>have:=g3 b ((x4.tiny hec).2.2 b k hk); rw [tf] at this; exact this
             | true =>
               have hfc:f.chain=false:=by
                cases hfc:f.chain with
                | false=>rfl
                | true=>exact (g1 hfc hec).elim
               obtain ⟨w1,w2,_⟩:=f3.tiny hfc
               cases ht:(R0 i).touch b with
               | false=>rfl
               | true =>
                 rw [Rec.touch_iff,w1] at ht
                 rcases ht.2 with u | u
                 ·have hkil:b∈killsA anc log:=by
                   rw [kills_mem]
                   exact ⟨f,f1,by rw [f2]; exact hbit,hfc,by rw [f3.lo,f3.hi]; omega,by rw [f3.lo]; omega⟩
                  rw [x12 hec b hkil] at hk
                  cases hk
                 ·cases u
            ·cases hfc:f.chain with
             | false=>have:=g2 b ((f3.tiny hfc).2.2 b k hk); rw [te] at this; exact this
             | true =>
               have hec:e.chain=false:=by
                cases hec:e.chain with
                | false=>rfl
                | true=>exact (g1 hfc hec).elim
               obtain ⟨w1,_,_⟩:=x4.tiny hec
               have hlt:=hlog.pre i hi hon b k hk
               cases ht:x.touch b with
               | false=>rfl
               | true =>
                 rw [Rec.touch_iff,w1] at ht
                 rcases ht.2 with u | u
                 ·omega
                 ·cases u
           ·exact ⟨fun b t1 _=>(by rw [q1 b] at t1; cases t1),fun b _ _=>q1 b,fun b k hk=>(by rw [q2 b] at hk; cases hk)⟩
          have hlog1:LogOk (bif e.loud then e :: log else log) (fun i=>if i=j then x else R0 i) m1 (j+1):=by
           refine ⟨fun i hi hon=>?_,fun f hf=>?_,fun i hi hon=>?_,fun i hi hon=>?_⟩
           ·by_cases hij:i=j
            ·simp only [hij,if_true]
             cases hld:e.loud with
             | true=>left; exact ⟨e,by simp,x3,x4⟩
             | false =>
               right
               unfold Ent.loud at hld
               simp only [Bool.or_eq_false_iff] at hld
               obtain ⟨⟨l1,l2⟩,l3⟩:=hld
               obtain ⟨w1,w2,w3⟩:=x4.tiny l1
               refine ⟨fun b=>?_,fun b=>?_⟩
               ·cases ht:x.touch b with
                | false=>rfl
                | true =>
                  rw [Rec.touch_iff,w1] at ht
                  rcases ht.2 with u | u
                  ·have:Nat.blt e.lo e.hi=true:=Nat.ble_eq_true_of_le (by rw [x4.lo,x4.hi]; omega)
                   rw [this] at l3; cases l3
                  ·cases u
               ·cases hq:x.pre.blks.get b with
                | none=>rfl
                | some k=>have:=w3 b k hq; rw [this] at l2; cases l2
            ·simp only [hij,if_false] at hon ⊢
             rcases hlog.told i (by omega) hon with ⟨f,f1,f2⟩ | q
             ·left
              refine ⟨f,?_,f2⟩
              cases e.loud
              ·exact f1
              ·exact List.mem_cons_of_mem _ f1
             ·exact .inr q
           ·have:f=e∨f∈log:=by
             cases hld:e.loud <;> rw [hld] at hf
             ·exact .inr hf
             ·exact List.mem_cons.1 hf
            rcases this with rfl | hf
            ·rw [x4.hi,x7]; exact Nat.le_refl _
            ·have:=hlog.hi f hf; omega
           ·by_cases hij:i=j
            ·simp only [hij,if_true]; rw [x7]; exact Nat.le_refl _
            ·simp only [hij,if_false] at hon ⊢; have:=hlog.post i (by omega) hon; omega
           ·by_cases hij:i=j
            ·simp only [hij,if_true]; intro b k hk; have:=hlive b k hk; omega
            ·simp only [hij,if_false] at hon ⊢; intro b k hk; have:=hlog.pre i (by omega) hon b k hk; omega
          refine go x r1 m1 _ h hlog1 hm1 (RSup.put hp (fun t=>sup_mono (fun b hb=>by have hb:b<m.next:=hb; show b<m1.next; omega) _ (hs t)) hv) (hb.put hp) fun R rs ms a1 a2 a3 a4 a5 a6=>?_
          refine ⟨hop,by rw [a2,a3,x1]; exact hw,by rw [a2,a3,a5,x2]; exact hp,fun hon=>(by rw [a2,x1] at hon; cases hon),fun _=>(by rw [a2,a3,x2]; exact x5),fun _=>(by rw [a2,a4,a6]; exact ⟨x6,x7⟩),fun _=>(by rw [a2]; exact x8),fun _=>(by rw [a2,a4,a6]; exact x9),fun _=>(by rw [a2,a4,a6]; exact x10),fun _=>(by rw [a2,a4]; exact x11),fun i hi hbit hon _=>?_⟩
          rw [a1 i hi] at hon ⊢
          rw [a2]
          exact hfree i hi (by rw [←hA]; exact hbit) hon
         ·cases h

end
end Go.Proofs.YtbdcjhoedhhabaaGreat

