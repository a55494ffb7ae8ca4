/- Contracts of the functions that the statements reach, part 27. -/
import Derived.Test.YtbdcjhoedhhabaaGreatRows
import Derived.Test.YtbdcjhoedhhabaaGreatF19
import Derived.Test.YtbdcjhoedhhabaaGreatF25
import Derived.Test.YtbdcjhoedhhabaaGreatF26
set_option linter.unusedSimpArgs false
set_option linter.unusedVariables false

/- Lists of fractions that grow by append, or are made. -/
namespace Go.Proofs.YtbdcjhoedhhabaaGreat
open Go.RowKit

def zR4:R4:=⟨false,none,0,0,false,none,0,0⟩
theorem info_rat:(Tryz.prog.info? 213).map (fun i=>(i.zero,i.size,i.bytes))=some (some (.agg #[.bool false, .slice none 0 0, .bool false, .slice none 0 0]),4,64):=by kernel_rfl

/-- A list of fractions that lies in a block of its own, at or above base. -/
def OwnR (w:World) (base:Nat) (v:Value) (rs:List R4):Prop:=w.ownsRow base 213 4 v rs.length (flat rs)

theorem OwnR.nil (w:World) (base:Nat):OwnR w base (.slice none 0 0) []:=World.ownsRow_nil _ _ _ _

theorem r4_one (r:R4):∀ u∈r.cs,u.oneCell'=true:=by
 intro u hu
 simp [R4.cs] at hu
 rcases hu with rfl | rfl | rfl | rfl <;> rfl

section
variable {w w':World} {base k:Nat} {v:Value} {rs:List R4} {X Y:Nat→Prop} {f:Nat→Rat}
theorem OwnR.line {g n:Nat} (h:OwnR w base (.slice (some ⟨g,0,none⟩) n n) rs):Line w g rs∧rs.length=n:=by
 have hl:=h.1
 rw [flat_len] at hl
 rcases h.2 with ⟨h',_⟩ | ⟨g',cap',cur,h',_,hg,_,_,hsz,htake⟩
 ·simp at h'
 ·simp only [Value.slice.injEq,Option.some.injEq,Addr.mk.injEq,and_true,true_and] at h'
  obtain ⟨rfl,hr,rfl⟩:=h'
  refine ⟨?_,hr.symm⟩
  have:cur.toList=flat rs:=by
   rw [←htake,List.take_of_length_le (by simp; omega)]
  unfold Line Loc
  rw [hg,← this]
theorem OwnR.lt (h:OwnR w base v rs) {g:Nat} (hg:v.ownBlock=some g):g<w.heap.size∧base≤g:=by
 rcases h.2 with ⟨h',_⟩ | ⟨g',cap',cur,h',hb,hg',_,_,hsz,htake⟩
 ·rw [h'] at hg; cases hg
 ·rw [h'] at hg; injection hg with hg; subst hg
  exact ⟨(Array.getElem?_eq_some_iff.1 hg').1,hb⟩
theorem OwnR.nums (h:OwnR w base v rs) (hv:ValL k w X rs f) (hY:∀ b,b<w.heap.size→Y b→X b) (hg:∀ g,v.ownBlock=some g→¬ Y g):Nums k w Y v rs.length f:=by
 have hl:=h.1
 rcases h.2 with ⟨rfl,hn⟩ | ⟨g',cap',cur,rfl,_,hg',h1,h2,hsz,htake⟩
 ·rw [hn]; exact Nums.nil k w Y f
 ·refine ⟨rs,_,_,rfl,rfl,h1,h2,fun _=>⟨_,rfl,(Array.getElem?_eq_some_iff.1 hg').1,hg _ rfl,fun i r hr=>?_⟩,hv.weak hY⟩
  obtain ⟨c0,c1,c2,c3⟩:=flat_get rs i r hr
  have hi:=(List.getElem?_eq_some_iff.1 hr).1
  have e:∀ i,(⟨g',0,none⟩:Addr).add i=⟨g',i,none⟩:=fun i=>by simp [Addr.add]; intro h; omega
  have e2:∀ i j,(⟨g',i,none⟩:Addr).add j=⟨g',i+j,none⟩:=fun i j=>by simp [Addr.add]
  rw [e,e2,e2,e2]
  have key:∀ (j:Nat) (u:Value),(flat rs)[j]? = some u→w.cell? ⟨g',j,none⟩=some u:=fun j u hu=>by
   rw [cell_of_row w g' j cur _ (0,0) hg']
   rw [←htake,List.getElem?_take] at hu
   split at hu
   ·simpa using hu
   ·cases hu
  exact ⟨key _ _ c0,key _ _ c1,key _ _ c2,key _ _ c3⟩
theorem OwnR.below (h:OwnR w base v rs) (hb:Below w.heap.size w w'):OwnR w' base v rs:=by
 refine ⟨h.1,?_⟩
 rcases h.2 with ⟨h',hn⟩ | ⟨g',cap',cur,h',h3,hg',h1,h2,hsz,htake⟩
 ·exact .inl ⟨h',hn⟩
 ·exact .inr ⟨g',cap',cur,h',h3,by rw [hb.block g' (Array.getElem?_eq_some_iff.1 hg').1]; exact hg',h1,h2,hsz,htake⟩
theorem OwnR.keep (h:OwnR w base v rs) (hb:Keep X w w') (hX:∀ g,v.ownBlock=some g→¬ X g):OwnR w' base v rs:=by
 refine ⟨h.1,?_⟩
 rcases h.2 with ⟨h',hn⟩ | ⟨g',cap',cur,h',h3,hg',h1,h2,hsz,htake⟩
 ·exact .inl ⟨h',hn⟩
 ·exact .inr ⟨g',cap',cur,h',h3,by rw [hb.block g' (Array.getElem?_eq_some_iff.1 hg').1 (hX g' (by rw [h']; rfl))]; exact hg',h1,h2,hsz,htake⟩
end

theorem zR4L (k:Nat) (w:World) (X:Nat→Prop):RatL k w X zR4.v 0:=
 ⟨false,[],false,[],⟨none,0,none,0,rfl,⟨_,rfl,Words.nil _ _⟩,⟨_,rfl,Words.nil _ _⟩⟩,Nat.zero_le _,Nat.zero_le _,rfl⟩
/-- One fraction appended. -/
theorem wp_pushR {o:Oper} {a:Act} {K:Act→World→Prop} {Q:Exit→Act→World→Prop} (w:World) (s x:Operand) (ho:o.op = .call { callee:= .builtin .append,args:=#[s,x],argTypes:=#[71,71] })
 (base:Nat) (v:Value) (rs:List R4) (hs:a.eval s=v) (hown:OwnR w base v rs) (H:Nat) (r:R4) (hx:a.eval x = .slice (some ⟨H,0,none⟩) 1 1) (hH:w.heap[H]? = some (.cells r.cs.toArray 213 (0,0)))
 (hn:rs.length≤1000) (hbase:base≤w.heap.size)
 (h:∀ g cap w',OwnR w' base (.slice (some ⟨g,0,none⟩) (rs.length+1) cap) (rs ++ [r])→w.grownBy w' v.ownBlock→(v.ownBlock=some g∨g=w.heap.size)→g<w'.heap.size→K (a.put o.dst (.slice (some ⟨g,0,none⟩) (rs.length+1) cap)) w') :
 Oper.wp Tryz.prog o a w K Q:=by
 obtain ⟨i,hi,hz0,hz1,hz2⟩:=info_parts info_rat
 refine wp_append_lies w s x 71 ho base 213 i _ 4 64 Tryz.underlying71 hi hz0 hz1 hz2 rfl (by decide) v rs.length (flat rs) hs hown ⟨H,0,none⟩ 1 1 r.cs hx rfl (fun j u hu=>World.news_of_block hH j u (by simpa using hu)) (r4_one r) (by decide) (by unfold maxLen; omega) (by omega) hbase _ rfl ?_
 intro g cap w' h1 h2 h3 h4
 refine h g cap w' ?_ h2 h3 h4
 unfold OwnR
 rw [List.length_append,flat_app,flat_one]
 exact h1
theorem wpList_pushR {ops:Array Oper} {rest:List Oper} {o:Oper} {a:Act} {Q:Exit→Act→World→Prop} (w:World) (hgd:o.guard=none) (s x:Operand) (ho:o.op = .call { callee:= .builtin .append,args:=#[s,x],argTypes:=#[71,71] })
 (base:Nat) (v:Value) (rs:List R4) (hs:a.eval s=v) (hown:OwnR w base v rs) (H:Nat) (r:R4) (hx:a.eval x = .slice (some ⟨H,0,none⟩) 1 1) (hH:w.heap[H]? = some (.cells r.cs.toArray 213 (0,0)))
 (hn:rs.length≤1000) (hbase:base≤w.heap.size)
 (h:∀ g cap w',OwnR w' base (.slice (some ⟨g,0,none⟩) (rs.length+1) cap) (rs ++ [r])→w.grownBy w' v.ownBlock→(v.ownBlock=some g∨g=w.heap.size)→g<w'.heap.size→wpList Tryz.prog ops Q rest (a.put o.dst (.slice (some ⟨g,0,none⟩) (rs.length+1) cap)) w'):wpList Tryz.prog ops Q (o :: rest) a w:=
 wpList_plain hgd fun _ hK=>wp_pushR w s x ho base v rs hs hown H r hx hH hn hbase fun g cap w' h1 h2 h3 h4=>hK _ _ (h g cap w' h1 h2 h3 h4)
theorem step_pushR {ops:Array Oper} {o:Oper} {a:Act} {K:Act→World→Prop} {Q:Exit→Act→World→Prop} {E:Prop} (w:World) (hgd:o.guard=none) (s x:Operand) (ho:o.op = .call { callee:= .builtin .append,args:=#[s,x],argTypes:=#[71,71] })
 (base:Nat) (v:Value) (rs:List R4) (hs:a.eval s=v) (hown:OwnR w base v rs) (H:Nat) (r:R4) (hx:a.eval x = .slice (some ⟨H,0,none⟩) 1 1) (hH:w.heap[H]? = some (.cells r.cs.toArray 213 (0,0)))
 (hn:rs.length≤1000) (hbase:base≤w.heap.size)
 (h:∀ g cap w',OwnR w' base (.slice (some ⟨g,0,none⟩) (rs.length+1) cap) (rs ++ [r])→w.grownBy w' v.ownBlock→(v.ownBlock=some g∨g=w.heap.size)→g<w'.heap.size→K (a.put o.dst (.slice (some ⟨g,0,none⟩) (rs.length+1) cap)) w') :
 if Region.wanted o (yielded ops a.tmps)=true then Oper.wp Tryz.prog o a w K Q else E:=by
 have hw:Region.wanted o (yielded ops a.tmps)=true:=by simp [Region.wanted,hgd]
 rw [if_pos hw]
 exact wp_pushR w s x ho base v rs hs hown H r hx hH hn hbase h

theorem flat_rep (r:R4):∀ n,flat (List.replicate n r)=(madeCells r.cs.toArray (n*4)).toList
 | 0=>by simp [flat,madeCells]
 | n + 1 => by
   have ih:=flat_rep r n
   apply List.ext_getElem?
   intro j
   have hl:(flat (List.replicate n r)).length=n*4:=by rw [flat_len,List.length_replicate]
   rw [List.replicate_succ',flat_app,flat_one]
   by_cases hj:j<n*4
   ·rw [List.getElem?_append_left (by omega),ih]
    simp [madeCells,hj,show j<(n+1)*4 by omega]
   ·rw [List.getElem?_append_right (by omega),hl]
    by_cases h4:j<(n+1)*4
    ·have e:j % 4=j - n*4:=by omega
     have hj':j - n*4<4:=by omega
     have e2:r.cs.length=4:=rfl
     simp [madeCells,h4,e2,e,hj']
    ·have:r.cs.length=4:=rfl
     rw [List.getElem?_eq_none (by omega),List.getElem?_eq_none (by simp [madeCells]; omega)]

/-- make([]api.Rat, n). -/
theorem wpList_makeR {ops:Array Oper} {rest:List Oper} {o:Oper} {a:Act} {Q:Exit→Act→World→Prop} (w:World) (hgd:o.guard=none) (l c:Operand) (ho:o.op=Op.makeSlice 71 l c) (base:Nat) {kl kc:IntKind} {L C:Int} (n:Nat)
 (hl:a.eval l = .int kl L) (hc:a.eval c = .int kc C) (hL:L=(n:Int)) (hC:C=(n:Int)) (hn:n≤1000) (hbase:base≤w.heap.size)
 (h:∀ w',Line w' w.heap.size (List.replicate n zR4)→w.grownBy w' none→wpList Tryz.prog ops Q rest (a.put o.dst (.slice (some ⟨w.heap.size,0,none⟩) n n)) w'):wpList Tryz.prog ops Q (o :: rest) a w:=by
 obtain ⟨i,hi,hz0,hz1,hz2⟩:=info_parts info_rat
 refine wpList_make_full w hgd l c 71 ho base 213 i _ 4 Tryz.underlying71 hi hz0 hz1 kl kc L C n hl hc hL hC (by rw [hz2]; omega) (by unfold maxLen; omega) hbase fun w' h1 h2=>h w' ?_ h2
 have e:(madeCells (Value.agg #[.bool false, .slice none 0 0, .bool false, .slice none 0 0]).cells (n*4)).toList=flat (List.replicate n zR4):=(flat_rep zR4 n).symm
 rw [e] at h1
 have h2:OwnR w' base (.slice (some ⟨w.heap.size,0,none⟩) n n) (List.replicate n zR4):=by
  unfold OwnR
  rw [List.length_replicate]
  exact h1
 exact h2.line.1
end Go.Proofs.YtbdcjhoedhhabaaGreat

/- column. -/
namespace Go.Proofs.YtbdcjhoedhhabaaGreat
open Go.RowKit
attribute [local go_sem ↓] Go.wp_at_zero Go.wp_at_succ

/- solves, CheckPoint. -/

theorem dot_rsz {k n:Nat} {f q:Nat→Rat} (hf:∀ i,i<n→Rsz k (f i)) (hq:∀ i,i<n→Rsz k (q i)) (hn:n≤200) (hk:k≤2000):Rsz 900000 (sm n (fun i=>f i*q i)):=by
 have:∀ i,i≤n→Rsz ((2*k+2)*i+2) (sm i (fun i=>f i*q i)):=fun i=>by
  induction i with
  | zero=>intro _; exact (rsz_int (z:=0) (by decide) (by decide))
  | succ i ih =>
    intro hi
    rw [sm_succ]
    exact ((ih (by omega)).add ((hf i (by omega)).mul (hq i (by omega)))).mono (by rw [Nat.mul_add]; omega)
 have h2:(2*k+2)*n≤(2*2000+2)*200:=Nat.mul_le_mul (by omega) (by omega)
 exact (this n (Nat.le_refl n)).mono (by omega)

/-- The numbers f are a point. -/
def SV (m n nx:Nat) (F:Nat→Nat→Rat) (f bv:Nat→Rat):Prop:=nx=n∧(∀ j,j<nx→¬ f j<0)∧∀ i,i<m→sm n (fun j=>F i j*f j)=bv i

/- CheckPoint, CheckFarkas, CheckResult of the program. -/

/-- A system that is read. -/
def Sys (k:Nat) (w:World) (v:Value) (m mb:Nat) (N:Nat→Nat) (F:Nat→Nat→Rat) (Bv:Nat→Rat):Prop:=
 ∃ A c B d,v = .agg #[.slice A m c, .slice B mb d]∧Mat k w (fun _=>False) (.slice A m c) m N F∧Nums k w (fun _=>False) (.slice B mb d) mb Bv
theorem Sys.keep {k:Nat} {w w':World} {v:Value} {m mb:Nat} {N:Nat→Nat} {F:Nat→Nat→Rat} {Bv:Nat→Rat} (h:Sys k w v m mb N F Bv) (hk:Keep (fun _=>False) w w'):Sys k w' v m mb N F Bv:=by
 obtain ⟨A,c,B,d,rfl,h1,h2⟩:=h
 exact ⟨A,c,B,d,rfl,h1.keep hk,h2.keep hk⟩
/-- A point of a system. -/
def PT (m mb:Nat) (N:Nat→Nat) (F:Nat→Nat→Rat) (Bv:Nat→Rat) (nx:Nat) (f:Nat→Rat):Prop:=VS m mb N∧SV m (N 0) nx F f Bv
/-- A Farkas vector of a system. -/
def FK (m mb:Nat) (N:Nat→Nat) (F:Nat→Nat→Rat) (Bv:Nat→Rat) (ny:Nat) (y:Nat→Rat):Prop:=VS m mb N∧ny=m∧sm m (fun i=>y i*Bv i)<0∧∀ j,j<N 0→¬ sm m (fun i=>y i*F i j)<0

section
variable {m mb nx ny k:Nat} {N:Nat→Nat} {F:Nat→Nat→Rat} {f y Bv:Nat→Rat}

end

/- CheckResult and CheckOptimum of the program. -/

/-- A result that proves itself. -/
def RS (feas:Bool) (m mb:Nat) (N:Nat→Nat) (F:Nat→Nat→Rat) (Bv:Nat→Rat) (nx:Nat) (f:Nat→Rat) (ny:Nat) (y:Nat→Rat):Prop:=
 (feas=true∧ny=0∧PT m mb N F Bv nx f)∨(feas=false∧nx=0∧FK m mb N F Bv ny y)
/-- An optimum that proves itself: the three kinds. -/
def OP0 (m mb:Nat) (N:Nat→Nat) (F:Nat→Nat→Rat) (Bv:Nat→Rat) (nx ny:Nat) (y:Nat→Rat) (nr:Nat) (val:Rat):Prop:=FK m mb N F Bv ny y∧nx=0∧nr=0∧val=0
def OP1 (m mb:Nat) (N:Nat→Nat) (F:Nat→Nat→Rat) (Bv kc:Nat→Rat) (nx:Nat) (f:Nat→Rat) (ny nr:Nat) (r:Nat→Rat) (val:Rat):Prop:=
 PT m mb N F Bv nx f∧SV m (N 0) nr F r (fun _=>0)∧sm (N 0) (fun j=>kc j*r j)<0∧ny=0∧val=0
def OP2 (m mb:Nat) (N:Nat→Nat) (F:Nat→Nat→Rat) (Bv kc:Nat→Rat) (nx:Nat) (f:Nat→Rat) (ny:Nat) (y:Nat→Rat) (nr:Nat) (val:Rat):Prop:=
 PT m mb N F Bv nx f∧(ny=m∧∀ j,j<N 0→¬ kc j<sm m (fun i=>y i*F i j))∧nr=0∧sm (N 0) (fun j=>kc j*f j)=val∧sm m (fun i=>y i*Bv i)=val
def OP (kind:Int) (m mb:Nat) (N:Nat→Nat) (F:Nat→Nat→Rat) (Bv:Nat→Rat) (nc:Nat) (kc:Nat→Rat) (nx:Nat) (f:Nat→Rat) (ny:Nat) (y:Nat→Rat) (nr:Nat) (r:Nat→Rat) (val:Rat):Prop:=
 VS m mb N∧nc=N 0∧((kind=0∧OP0 m mb N F Bv nx ny y nr val)∨(kind=1∧OP1 m mb N F Bv kc nx f ny nr r val)∨(kind=2∧OP2 m mb N F Bv kc nx f ny y nr val))

section
variable {m mb nx ny nr nc k:Nat} {N:Nat→Nat} {F:Nat→Nat→Rat} {f y r Bv kc:Nat→Rat} {val:Rat}

end
end Go.Proofs.YtbdcjhoedhhabaaGreat

/- The plain laws of linear systems: certificates exclude each other, the kinds and values of optima are one. -/
namespace Go.Proofs.YtbdcjhoedhhabaaGreat

section
variable {m n:Nat} {F:Nat→Nat→Rat} {f y Bv kc:Nat→Rat}
/-- A vector times the equations. -/
theorem times_rows (y f:Nat→Rat) (h:∀ i,i<m→sm n (fun j=>F i j*f j)=Bv i):sm m (fun i=>y i*Bv i)=sm n (fun j=>f j*sm m (fun i=>y i*F i j)):=by
 rw [sm_congr (g:=fun i=>sm n (fun j=>f j*(y i*F i j))) (fun i hi=>by
  rw [←h i hi,← sm_mul]
  exact sm_congr (fun j _=>by grind)),sm_swap]
 exact sm_congr (fun j _=>by rw [sm_mul])
theorem sm_mono {f g:Nat→Rat} {m:Nat} (h:∀ i,i<m→f i≤g i):sm m f≤sm m g:=by
 have h1:0≤sm m (fun i=>g i - f i):=sm_nonneg (fun i hi=>by have:=h i hi; grind)
 rw [sm_sub] at h1
 grind
/-- Weak duality. -/
theorem weak (hf:∀ j,j<n→¬ f j<0) (h:∀ i,i<m→sm n (fun j=>F i j*f j)=Bv i) (hy:∀ j,j<n→¬ kc j<sm m (fun i=>y i*F i j)):sm m (fun i=>y i*Bv i)≤sm n (fun j=>kc j*f j):=by
 rw [times_rows y f h]
 refine sm_mono (fun j hj=>?_)
 have h1:=hf j hj
 have h2:=hy j hj
 rw [Rat.mul_comm (kc j)]
 exact Rat.mul_le_mul_of_nonneg_left (by grind) (by grind)
end

section
variable {m nx ny nr nc nx' ny' nr':Nat} {N N':Nat→Nat} {F F':Nat→Nat→Rat} {f y r Bv Bv' kc f' y' r':Nat→Rat} {val val':Rat} {k k':Int}
/-- No system has both a point and a Farkas vector. -/
theorem not_both (hp:PT m m N F Bv nx f) (hk:FK m m N F Bv ny y):False:=by
 obtain ⟨-,e,hf,hs⟩:=hp
 obtain ⟨-, -,hn,hy⟩:=hk
 rw [e] at hf
 have h:=weak (kc:=fun _=>0) (y:=fun i=> -y i) hf hs (fun j hj=>by
  have:=hy j hj
  rw [sm_congr (g:=fun i=> -(y i*F i j)) (fun i _=>by grind),sm_neg]; grind)
 rw [sm_congr (f:=fun i=> -y i*Bv i) (g:=fun i=> -(y i*Bv i)) (fun i _=>by grind),sm_neg,sm_zero (f:=fun j=>0*f j) (fun j _=>by grind)] at h
 grind
theorem no_ray (hr:SV m (N 0) nr F r (fun _=>0)) (hc:sm (N 0) (fun j=>kc j*r j)<0) (hy:∀ j,j<N 0→¬ kc j<sm m (fun i=>y i*F i j)):False:=by
 obtain ⟨e,hf,hs⟩:=hr
 rw [e] at hf
 have h:=weak hf hs hy
 rw [sm_zero (f:=fun i=>y i*0) (fun i _=>by grind)] at h
 grind
theorem val_le (hp:PT m m N F Bv nx f) (hy:∀ j,j<N 0→¬ kc j<sm m (fun i=>y i*F i j)):sm m (fun i=>y i*Bv i)≤sm (N 0) (fun j=>kc j*f j):=by
 obtain ⟨-,e,hf,hs⟩:=hp
 rw [e] at hf
 exact weak hf hs hy
/-- The kind and the value of an optimum are one. -/
theorem OP.uniq (h:OP k m m N F Bv nc kc nx f ny y nr r val) (h':OP k' m m N F Bv nc kc nx' f' ny' y' nr' r' val'):k=k'∧val=val':=by
 obtain ⟨-, -,h⟩:=h
 obtain ⟨-, -,h'⟩:=h'
 rcases h with ⟨rfl,h⟩ | ⟨rfl,h⟩ | ⟨rfl,h⟩ <;> rcases h' with ⟨rfl,h'⟩ | ⟨rfl,h'⟩ | ⟨rfl,h'⟩
 ·exact ⟨rfl,by rw [h.2.2.2,h'.2.2.2]⟩
 ·exact (not_both h'.1 h.1).elim
 ·exact (not_both h'.1 h.1).elim
 ·exact (not_both h.1 h'.1).elim
 ·exact ⟨rfl,by rw [h.2.2.2.2,h'.2.2.2.2]⟩
 ·exact (no_ray h.2.1 h.2.2.1 h'.2.1.2).elim
 ·exact (not_both h.1 h'.1).elim
 ·exact (no_ray h'.2.1 h'.2.2.1 h.2.1.2).elim
 ·refine ⟨rfl,?_⟩
  have h1:=val_le h.1 h'.2.1.2
  have h2:=val_le h'.1 h.2.1.2
  rw [h'.2.2.2.2,h.2.2.2.1] at h1
  rw [h.2.2.2.2,h'.2.2.2.1] at h2
  grind

/-- One equation more. -/
structure Ext (m:Nat) (N N':Nat→Nat) (F F':Nat→Nat→Rat) (Bv Bv':Nat→Rat):Prop where
 vs:VS (m+1) (m+1) N'
 n0:N' 0=N 0
 row:∀ i,i<m→∀ j,j<N 0→F' i j=F i j
 rhs:∀ i,i<m→Bv' i=Bv i
def ex (m:Nat) (y:Nat→Rat):Nat→Rat:=fun i=>if i<m then y i else 0
theorem ex_sum (y g:Nat→Rat):sm (m+1) (fun i=>ex m y i*g i)=sm m (fun i=>y i*g i):=by
 rw [sm_succ,sm_congr (g:=fun i=>y i*g i) (fun i hi=>by unfold ex; rw [if_pos hi])]
 unfold ex
 rw [if_neg (by omega)]; grind
theorem Ext.fk (e:Ext m N N' F F' Bv Bv') (h:FK m m N F Bv ny y):FK (m+1) (m+1) N' F' Bv' (m+1) (ex m y):=by
 refine ⟨e.vs,rfl,?_,fun j hj=>?_⟩
 ·rw [ex_sum,sm_congr (g:=fun i=>y i*Bv i) (fun i hi=>by rw [e.rhs i hi])]; exact h.2.2.1
 ·rw [e.n0] at hj
  rw [ex_sum,sm_congr (g:=fun i=>y i*F i j) (fun i hi=>by rw [e.row i hi j hj])]; exact h.2.2.2 j hj
theorem Ext.du (e:Ext m N N' F F' Bv Bv') (hy:∀ j,j<N 0→¬ kc j<sm m (fun i=>y i*F i j)):∀ j,j<N' 0→¬ kc j<sm (m+1) (fun i=>ex m y i*F' i j):=fun j hj=>by
 rw [e.n0] at hj
 rw [ex_sum,sm_congr (g:=fun i=>y i*F i j) (fun i hi=>by rw [e.row i hi j hj])]; exact hy j hj
/-- A solution of the system with the equation more. -/
theorem Ext.sv (e:Ext m N N' F F' Bv Bv') {b b':Nat→Rat} (hb:∀ i,i<m→b' i=b i) (h:SV (m+1) (N' 0) nx F' f b'):SV m (N 0) nx F f b:=by
 obtain ⟨h1,h2,h3⟩:=h
 rw [e.n0] at h1 h3
 refine ⟨h1,h2,fun i hi=>?_⟩
 rw [←hb i hi,← h3 i (by omega)]
 exact sm_congr (fun j hj=>by rw [e.row i hi j hj])
theorem Ext.sv' (e:Ext m N N' F F' Bv Bv') {b b':Nat→Rat} (hb:∀ i,i<m→b' i=b i) (h:SV m (N 0) nx F f b) (hl:sm (N 0) (fun j=>F' m j*f j)=b' m):SV (m+1) (N' 0) nx F' f b':=by
 obtain ⟨h1,h2,h3⟩:=h
 refine ⟨by rw [e.n0]; exact h1,h2,fun i hi=>?_⟩
 rw [e.n0]
 by_cases him:i<m
 ·rw [hb i him,← h3 i him]
  exact sm_congr (fun j hj=>by rw [e.row i him j hj])
 ·rw [show i=m by omega]; exact hl
/-- An equation that is a combination of two others changes nothing. -/
theorem Ext.same (e:Ext m N N' F F' Bv Bv') {a c:Nat} {t:Rat} (ha:a<m) (hc:c<m) (hrow:∀ j,j<N 0→F' m j=F a j+t*F c j) (hrhs:Bv' m=Bv a+t*Bv c)
 (h:OP k m m N F Bv nc kc nx f ny y nr r val) (h':OP k' (m+1) (m+1) N' F' Bv' nc kc nx' f' ny' y' nr' r' val'):k=k'∧val=val':=by
 have comb:∀ {g b b':Nat→Rat} {ng:Nat},SV m (N 0) ng F g b→b' m=b a+t*b c→sm (N 0) (fun j=>F' m j*g j)=b' m:=fun {g b b' ng} hs hb=>by
  rw [sm_congr (g:=fun j=>F a j*g j+t*(F c j*g j)) (fun j hj=>by rw [hrow j hj]; grind),sm_add,sm_mul,hs.2.2 a ha,hs.2.2 c hc,hb]
 have hpt:∀ {g:Nat→Rat} {ng:Nat},PT m m N F Bv ng g→PT (m+1) (m+1) N' F' Bv' ng g:=fun hp=>⟨e.vs,e.sv' e.rhs hp.2 (comb hp.2 hrhs)⟩
 have h0:∃ ny2 y2,OP k (m+1) (m+1) N' F' Bv' nc kc nx f ny2 y2 nr r val:=by
  obtain ⟨-,hn,h⟩:=h
  rcases h with ⟨rfl,h⟩ | ⟨rfl,h⟩ | ⟨rfl,h⟩
  ·exact ⟨_,_,e.vs,by rw [e.n0]; exact hn, .inl ⟨rfl,e.fk h.1,h.2⟩⟩
  ·refine ⟨ny,y,e.vs,by rw [e.n0]; exact hn, .inr (.inl ⟨rfl,hpt h.1,e.sv' (b':=fun _=>0) (fun _ _=>rfl) h.2.1 (comb (b':=fun _=>0) h.2.1 (by show (0:Rat)=0+t*0; grind)),by rw [e.n0]; exact h.2.2.1,h.2.2.2⟩)⟩
  ·refine ⟨_,ex m y,e.vs,by rw [e.n0]; exact hn, .inr (.inr ⟨rfl,hpt h.1,⟨rfl,e.du h.2.1.2⟩,h.2.2.1,by rw [e.n0]; exact h.2.2.2.1,?_⟩)⟩
   rw [ex_sum,sm_congr (g:=fun i=>y i*Bv i) (fun i hi=>by rw [e.rhs i hi])]; exact h.2.2.2.2
 obtain ⟨ny2,y2,h0⟩:=h0
 exact h0.uniq h'
/-- With one equation more the least cost does not fall. -/
theorem Ext.less (e:Ext m N N' F F' Bv Bv') (h:OP k m m N F Bv nc kc nx f ny y nr r val) (h':OP k' (m+1) (m+1) N' F' Bv' nc kc nx' f' ny' y' nr' r' val') :
 (k=0→k'=0)∧(k=2→k' ≠ 1)∧(k=2→k'=2→val≤val'):=by
 obtain ⟨-, -,h⟩:=h
 obtain ⟨-, -,h'⟩:=h'
 refine ⟨fun h0=>?_,fun h2 h1=>?_,fun h2 h3=>?_⟩
 ·subst h0
  rcases h with ⟨-,h⟩ | ⟨h, -⟩ | ⟨h, -⟩
  ·rcases h' with ⟨h', -⟩ | ⟨-,h'⟩ | ⟨-,h'⟩
   ·exact h'
   ·exact (not_both h'.1 (e.fk h.1)).elim
   ·exact (not_both h'.1 (e.fk h.1)).elim
  ·exact absurd h (by decide)
  ·exact absurd h (by decide)
 ·subst h2
  subst h1
  rcases h with ⟨h, -⟩ | ⟨h, -⟩ | ⟨-,h⟩
  ·exact absurd h (by decide)
  ·exact absurd h (by decide)
  rcases h' with ⟨h', -⟩ | ⟨-,h'⟩ | ⟨h', -⟩
  ·exact absurd h' (by decide)
  ·exact no_ray h'.2.1 h'.2.2.1 (e.du h.2.1.2)
  ·exact absurd h' (by decide)
 ·subst h2
  subst h3
  rcases h with ⟨h, -⟩ | ⟨h, -⟩ | ⟨-,h⟩
  ·exact absurd h (by decide)
  ·exact absurd h (by decide)
  rcases h' with ⟨h', -⟩ | ⟨h', -⟩ | ⟨-,h'⟩
  ·exact absurd h' (by decide)
  ·exact absurd h' (by decide)
  have hp:PT m m N F Bv nx' f':=⟨h.1.1,e.sv e.rhs h'.1.2⟩
  have h1:=val_le hp h.2.1.2
  rw [h.2.2.2.2,← e.n0,h'.2.2.2.1] at h1
  exact h1
end

/- Refinement of channels, plainly: witnesses, gain functions, the two exclude each other, a Farkas vector gives a gain function. -/

/-- The greatest of K numbers and 0. -/
def best:Nat→(Nat→Rat)→Rat
 | 0,_=>0
 | K+1,f=>if best K f<f K then f K else best K f
theorem le_best (f:Nat→Rat):∀ K w,w<K→f w≤best K f
 | 0,w,h=>absurd h (by omega)
 | K + 1, w, h => by
   unfold best
   by_cases e:w=K
   ·subst e; split <;> grind
   ·have:=le_best f K w (by omega)
    split <;> grind
theorem best_mul_le {f:Nat→Rat} {p R:Rat} (hR:0≤R):∀ K,(∀ w,w<K→p*f w≤R)→p*best K f≤R
 | 0,_=>by unfold best; grind
 | K + 1, h => by
   have h1:=best_mul_le hR K (fun w hw=>h w (by omega))
   have h2:=h K (by omega)
   unfold best
   split
   ·exact h2
   ·exact h1
/-- The greatest gain of an action, over the columns. -/
def worthV (n K m:Nat) (C:Nat→Nat→Rat) (g:Nat→Nat→Rat):Rat:=sm n (fun y=>best K (fun w=>sm m (fun x=>C x y*g w x)))
structure Chan (m n:Nat) (C:Nat→Nat→Rat) (p:Rat):Prop where
 m1:1≤m
 n1:1≤n
 non:∀ x,x<m→∀ y,y<n→0≤C x y
 row:∀ x,x<m→sm n (C x)=p
 pos:0<p
/-- W post-processes C to D. -/
structure Wit (m n k:Nat) (C:Nat→Nat→Rat) (p:Rat) (D:Nat→Nat→Rat) (q:Rat) (W:Nat→Nat→Rat):Prop where
 non:∀ y,y<n→∀ z,z<k→0≤W y z
 one:∀ y,y<n→sm k (W y)=1
 eq:∀ x,x<m→∀ z,z<k→q*sm n (fun y=>C x y*W y z)=p*D x z
section
variable {m n k K:Nat} {C D W g:Nat→Nat→Rat} {p q:Rat}
theorem sm_mul_right (f:Nat→Rat) (c:Rat):∀ m,sm m (fun i=>f i*c)=sm m f*c
 | 0=>by unfold sm; grind
 | m+1=>by unfold sm; rw [sm_mul_right f c m]; grind
/-- A Farkas vector of the system gives a separating gain function. -/
theorem farkas_gain {u:Nat→Nat→Rat} {v most:Nat→Rat} (hC:Chan m n C p) (hD:Chan m k D q) (hm:∀ x,x<m→∀ z,z<k→u x z≤most x)
 (hneg:sm m (fun x=>sm k (fun z=>u x z*(p*D x z)))+sm n v<0) (hcol:∀ y,y<n→∀ z,z<k→0≤sm m (fun x=>u x z*(q*C x y))+v y) :
 q*worthV n k m C (fun z x=>most x - u x z)<p*worthV k k m D (fun z x=>most x - u x z):=by
 have hq:=hD.pos
 have hp:=hC.pos
 have e2:∀ z x,x<m→z<k→0≤most x - u x z:=fun z x hx hz=>by have:=hm x hx z hz; grind
 obtain ⟨T,hT⟩:∃ T,sm m most=T:=⟨_,rfl⟩
 have cy:∀ y,y<n→∀ z,z<k→q*sm m (fun x=>C x y*(most x - u x z))≤q*sm m (fun x=>C x y*most x)+v y:=fun y hy z hz=>by
  have h1:=hcol y hy z hz
  have e:sm m (fun x=>C x y*(most x - u x z))=sm m (fun x=>C x y*most x) - sm m (fun x=>C x y*u x z):=by
   rw [←sm_sub]; exact sm_congr (fun x _=>by grind)
  have e3:sm m (fun x=>u x z*(q*C x y))=q*sm m (fun x=>C x y*u x z):=by
   rw [←sm_mul]; exact sm_congr (fun x _=>by grind)
  rw [e3] at h1
  rw [e]; grind
 have up:q*worthV n k m C (fun z x=>most x - u x z)≤q*(p*T)+sm n v:=by
  have h1:q*worthV n k m C (fun z x=>most x - u x z)≤sm n (fun y=>q*sm m (fun x=>C x y*most x)+v y):=by
   unfold worthV
   rw [←sm_mul]
   refine sm_mono (fun y hy=>?_)
   have h0:0≤q*sm m (fun x=>C x y*most x)+v y:=by
    have a1:=cy y hy 0 (by have:=hD.n1; omega)
    have a2:0≤sm m (fun x=>C x y*(most x - u x 0)):=sm_nonneg (fun x hx=>Rat.mul_nonneg (hC.non x hx y hy) (e2 0 x hx (by have:=hD.n1; omega)))
    have a3:=Rat.mul_nonneg (show (0:Rat)≤q by grind) a2
    grind
   exact best_mul_le h0 k (fun z hz=>cy y hy z hz)
  have h2:sm n (fun y=>q*sm m (fun x=>C x y*most x)+v y)=q*(p*T)+sm n v:=by
   rw [sm_add,sm_mul,sm_swap,sm_congr (g:=fun x=>p*most x) (fun x hx=>by rw [sm_mul_right,hC.row x hx]),sm_mul,hT]
  rw [h2] at h1; exact h1
 have lo:p*(q*T) - sm m (fun x=>sm k (fun z=>u x z*(p*D x z)))≤p*worthV k k m D (fun z x=>most x - u x z):=by
  have h1:sm k (fun z=>p*sm m (fun x=>D x z*(most x - u x z)))≤p*worthV k k m D (fun z x=>most x - u x z):=by
   unfold worthV
   rw [←sm_mul]
   exact sm_mono (fun z hz=>Rat.mul_le_mul_of_nonneg_left (le_best (fun w=>sm m (fun x=>D x z*(most x - u x w))) k z hz) (by grind))
  have h2:sm k (fun z=>p*sm m (fun x=>D x z*(most x - u x z)))=p*(q*T) - sm m (fun x=>sm k (fun z=>u x z*(p*D x z))):=by
   rw [sm_mul,sm_swap,sm_congr (g:=fun x=>q*most x - sm k (fun z=>D x z*u x z)) (fun x hx=>by
    rw [sm_congr (g:=fun z=>D x z*most x - D x z*u x z) (fun z _=>by grind),sm_sub,sm_mul_right,hD.row x hx]),sm_sub,sm_mul,hT,
    sm_congr (f:=fun x=>sm k (fun z=>u x z*(p*D x z))) (g:=fun x=>p*sm k (fun z=>D x z*u x z)) (fun x _=>by rw [←sm_mul]; exact sm_congr (fun z _=>by grind)),sm_mul]
   grind
  rw [h2] at h1; exact h1
 grind
end

/- The system of a witness, plainly: its points are the witnesses, its Farkas vectors give gain functions. -/

def sysF (m k:Nat) (C:Nat→Nat→Rat) (q:Rat):Nat→Nat→Rat:=fun l j=>if l<m*k then (if j % k=l % k then q*C (l / k) (j / k) else 0) else (if j / k=l - m*k then 1 else 0)
def sysB (m k:Nat) (D:Nat→Nat→Rat) (p:Rat):Nat→Rat:=fun l=>if l<m*k then p*D (l / k) (l % k) else 1
section
variable {m n k:Nat} {C D W:Nat→Nat→Rat} {p q:Rat} {f:Nat→Rat}
theorem sm_prod (h:Nat→Rat) (k:Nat):∀ n,sm (n*k) h=sm n (fun y=>sm k (fun z=>h (y*k+z)))
 | 0=>by rw [Nat.zero_mul]; rfl
 | n+1=>by rw [Nat.succ_mul,sm_split,sm_prod h k n,sm_succ]
theorem div_at {x z k:Nat} (hz:z<k):(x*k+z) / k=x:=by
 rw [Nat.mul_comm,Nat.mul_add_div (by omega),Nat.div_eq_of_lt hz]; omega
theorem mod_at {x z k:Nat} (hz:z<k):(x*k+z) % k=z:=by
 rw [Nat.mul_comm,Nat.mul_add_mod,Nat.mod_eq_of_lt hz]
theorem at_lt {x z m k:Nat} (hx:x<m) (hz:z<k):x*k+z<m*k:=by
 have:(x+1)*k≤m*k:=Nat.mul_le_mul_right k (by omega)
 rw [Nat.succ_mul] at this
 omega
theorem sysF_top {x z y u:Nat} (hx:x<m) (hz:z<k) (hu:u<k):sysF m k C q (x*k+z) (y*k+u)=if u=z then q*C x y else 0:=by
 unfold sysF
 rw [if_pos (at_lt hx hz),div_at hz,mod_at hz,div_at hu,mod_at hu]
theorem sysF_low {r y u:Nat} (hu:u<k):sysF m k C q (m*k+r) (y*k+u)=if y=r then 1 else 0:=by
 unfold sysF
 rw [if_neg (by omega),div_at hu,show m*k+r - m*k=r by omega]
theorem sysB_top {x z:Nat} (hx:x<m) (hz:z<k):sysB m k D p (x*k+z)=p*D x z:=by
 unfold sysB
 rw [if_pos (at_lt hx hz),div_at hz,mod_at hz]
theorem sysB_low {r:Nat}:sysB m k D p (m*k+r)=1:=by
 unfold sysB
 rw [if_neg (by omega)]
theorem row_top {x z:Nat} (hx:x<m) (hz:z<k):sm (n*k) (fun j=>sysF m k C q (x*k+z) j*f j)=q*sm n (fun y=>C x y*f (y*k+z)):=by
 rw [sm_prod,← sm_mul]
 refine sm_congr (fun y hy=>?_)
 rw [sm_one _ z hz (fun u hu hne=>by rw [sysF_top hx hz hu,if_neg hne]; grind),sysF_top hx hz hz,if_pos rfl]; grind
theorem row_low {r:Nat} (hr:r<n):sm (n*k) (fun j=>sysF m k C q (m*k+r) j*f j)=sm k (fun z=>f (r*k+z)):=by
 rw [sm_prod,sm_one _ r hr (fun y hy hne=>sm_zero (fun u hu=>by rw [sysF_low hu,if_neg hne]; grind))]
 exact sm_congr (fun u hu=>by rw [sysF_low hu,if_pos rfl]; grind)
/-- The points of the system are the witnesses. -/
theorem wit_of_sv (h:SV (m*k+n) (n*k) (n*k) (sysF m k C q) f (sysB m k D p)):Wit m n k C p D q (fun y z=>f (y*k+z)):=by
 obtain ⟨-,h1,h2⟩:=h
 refine ⟨fun y hy z hz=>?_,fun y hy=>?_,fun x hx z hz=>?_⟩
 ·have:=h1 _ (at_lt hy hz)
  grind
 ·rw [←row_low (m:=m) (C:=C) (q:=q) hy,h2 (m*k+y) (by omega),sysB_low]
 ·rw [←row_top hx hz,h2 _ (by have:=at_lt hx hz; omega),sysB_top hx hz]
theorem col_sum {y:Nat→Rat} {y0 z0:Nat} (hy:y0<n) (hz:z0<k):sm (m*k+n) (fun i=>y i*sysF m k C q i (y0*k+z0))=sm m (fun x=>y (x*k+z0)*(q*C x y0))+y (m*k+y0):=by
 rw [sm_split,sm_prod]
 congr 1
 ·refine sm_congr (fun x hx=>?_)
  rw [sm_one _ z0 hz (fun u hu hne=>by rw [sysF_top hx hu hz,if_neg (fun e=>hne e.symm)]; grind),sysF_top hx hz hz,if_pos rfl]
 ·rw [sm_one _ y0 hy (fun r hr hne=>by rw [sysF_low hz,if_neg (fun e=>hne e.symm)]; grind),sysF_low hz,if_pos rfl]; grind
theorem rhs_sum {y:Nat→Rat}:sm (m*k+n) (fun i=>y i*sysB m k D p i)=sm m (fun x=>sm k (fun z=>y (x*k+z)*(p*D x z)))+sm n (fun r=>y (m*k+r)):=by
 rw [sm_split,sm_prod]
 congr 1
 ·exact sm_congr (fun x hx=>sm_congr (fun z hz=>by rw [sysB_top hx hz]))
 ·exact sm_congr (fun r _=>by rw [sysB_low]; grind)
/-- A Farkas vector of the system separates. -/
theorem gain_of_fk {y most:Nat→Rat} (hC:Chan m n C p) (hD:Chan m k D q) (h1:sm (m*k+n) (fun i=>y i*sysB m k D p i)<0) (h2:∀ j,j<n*k→¬ sm (m*k+n) (fun i=>y i*sysF m k C q i j)<0) (hm:∀ x,x<m→∀ z,z<k→y (x*k+z)≤most x) :
 q*worthV n k m C (fun z x=>most x - y (x*k+z))<p*worthV k k m D (fun z x=>most x - y (x*k+z)):=by
 rw [rhs_sum] at h1
 refine farkas_gain (u:=fun x z=>y (x*k+z)) (v:=fun r=>y (m*k+r)) hC hD hm h1 (fun y0 hy z0 hz=>?_)
 have:=h2 _ (at_lt hy hz)
 rw [col_sum hy hz] at this
 grind
/-- The product of two witnesses is a witness. -/
theorem Wit.chain {j:Nat} {E V:Nat→Nat→Rat} {r:Rat} (h:Wit m n k C p D q W) (h':Wit m k j D q E r V) (hq:0<q):Wit m n j C p E r (fun y z=>sm k (fun u=>W y u*V u z)):=by
 refine ⟨fun y hy z hz=>sm_nonneg (fun u hu=>Rat.mul_nonneg (h.non y hy u hu) (h'.non u hu z hz)),fun y hy=>?_,fun x hx z hz=>?_⟩
 ·rw [sm_swap,sm_congr (g:=fun u=>W y u) (fun u hu=>by rw [sm_mul,h'.one u hu]; grind)]
  exact h.one y hy
 ·have e1:sm n (fun y=>C x y*sm k (fun u=>W y u*V u z))=sm k (fun u=>sm n (fun y=>C x y*W y u)*V u z):=by
   rw [sm_congr (g:=fun y=>sm k (fun u=>C x y*W y u*V u z)) (fun y _=>by rw [←sm_mul]; exact sm_congr (fun u _=>by grind)),sm_swap]
   exact sm_congr (fun u _=>by rw [sm_mul_right])
  have e2:q*sm k (fun u=>sm n (fun y=>C x y*W y u)*V u z)=p*sm k (fun u=>D x u*V u z):=by
   rw [←sm_mul,← sm_mul]
   refine sm_congr (fun u hu=>?_)
   have:=h.eq x hx u hu
   grind
  have e3:=h'.eq x hx z hz
  rw [e1]
  have hq0:q ≠ 0:=by grind
  have:q*(r*sm k (fun u=>sm n (fun y=>C x y*W y u)*V u z))=q*(p*E x z):=by
   rw [show q*(r*sm k (fun u=>sm n (fun y=>C x y*W y u)*V u z))=r*(q*sm k (fun u=>sm n (fun y=>C x y*W y u)*V u z)) by grind,e2]
   rw [show r*(p*sm k (fun u=>D x u*V u z))=p*(r*sm k (fun u=>D x u*V u z)) by grind,e3]
   grind
  grind
/-- Every channel refines itself. -/
theorem Wit.refl (hC:Chan m n C p):Wit m n n C p C p (fun y z=>if y=z then 1 else 0):=by
 refine ⟨fun y _ z _=>by split <;> grind,fun y hy=>?_,fun x hx z hz=>?_⟩
 ·rw [sm_one _ y hy (fun z hz hne=>by rw [if_neg (fun e=>hne e.symm)]),if_pos rfl]
 ·rw [sm_one _ z hz (fun y hy hne=>by rw [if_neg hne]; grind),if_pos rfl]; grind
end
end Go.Proofs.YtbdcjhoedhhabaaGreat

/- Lists of integers in memory; channels, plainly. -/
namespace Go.Proofs.YtbdcjhoedhhabaaGreat
open Go.RowKit

/-- A list of integers that is read. -/
def IntsV (w:World) (v:Value) (zs:List Int):Prop:=
 ∃ A cap,v = .slice A zs.length cap∧zs.length≤cap∧cap≤maxLen∧(zs.length ≠ 0→∃ a,A=some a∧a.block<w.heap.size∧∀ i z,zs[i]? = some z→w.cell? (a.add i)=some (.int .i64 z))∧∀ z∈zs, -9223372036854775808≤z∧z≤9223372036854775807
/-- A list of lists of integers that is read. -/
def IMat (w:World) (v:Value) (L:List (List Int)):Prop:=
 ∃ A cap,v = .slice A L.length cap∧L.length≤cap∧cap≤maxLen∧(L.length ≠ 0→∃ a,A=some a∧a.block<w.heap.size∧∀ i l,L[i]? = some l→∃ B c,w.cell? (a.add i)=some (.slice B l.length c)∧IntsV w (.slice B l.length c) l)
section
variable {w w':World} {v:Value} {zs:List Int} {L:List (List Int)}
theorem IntsV.keep (h:IntsV w v zs) (hk:Keep (fun _=>False) w w'):IntsV w' v zs:=by
 obtain ⟨A,cap,hv,h1,h2,h3,h4⟩:=h
 refine ⟨A,cap,hv,h1,h2,fun hn=>?_,h4⟩
 obtain ⟨a,ha,hb,hc⟩:=h3 hn
 exact ⟨a,ha,Nat.lt_of_lt_of_le hb hk.size,fun i z hz=>cell_keep (hc i z hz) (by rw [add_block]; exact hb) id hk⟩
theorem IntsV.op (h:IntsV w v zs):∃ (A:Option Addr) (cap:Nat),v = .slice A zs.length cap∧IntsV w (.slice A zs.length cap) zs∧zs.length≤cap∧cap≤maxLen:=by
 have h0:=h
 obtain ⟨A,cap,rfl,h1,h2, -⟩:=h
 exact ⟨A,cap,rfl,h0,h1,h2⟩
theorem IntsV.at {A:Option Addr} {n cap:Nat} (h:IntsV w (.slice A n cap) zs) {i:Nat} {z:Int} (hz:zs[i]? = some z):∃ a:Addr,A=some a∧a.block<w.heap.size∧w.cell? (a.add i)=some (.int .i64 z)∧ -9223372036854775808≤z∧z≤9223372036854775807:=by
 obtain ⟨A',cap',hv,h1,h2,h3,h4⟩:=h
 injection hv with e1 e2 e3
 subst e1
 obtain ⟨a,ha,hb,hc⟩:=h3 (by have:=(List.getElem?_eq_some_iff.1 hz).1; omega)
 exact ⟨a,ha,hb,hc i z hz,h4 z (List.mem_of_getElem? hz)⟩
theorem IMat.keep (h:IMat w v L) (hk:Keep (fun _=>False) w w'):IMat w' v L:=by
 obtain ⟨A,cap,hv,h1,h2,h3⟩:=h
 refine ⟨A,cap,hv,h1,h2,fun hn=>?_⟩
 obtain ⟨a,ha,hb,hc⟩:=h3 hn
 refine ⟨a,ha,Nat.lt_of_lt_of_le hb hk.size,fun i l hl=>?_⟩
 obtain ⟨B,c,h4,h5⟩:=hc i l hl
 exact ⟨B,c,cell_keep h4 (by rw [add_block]; exact hb) id hk,h5.keep hk⟩
theorem IMat.op (h:IMat w v L):∃ (A:Option Addr) (cap:Nat),v = .slice A L.length cap∧IMat w (.slice A L.length cap) L∧L.length≤cap∧cap≤maxLen:=by
 have h0:=h
 obtain ⟨A,cap,rfl,h1,h2, -⟩:=h
 exact ⟨A,cap,rfl,h0,h1,h2⟩
theorem IMat.at {A:Option Addr} {n cap:Nat} (h:IMat w (.slice A n cap) L) {i:Nat} {l:List Int} (he:L[i]? = some l):∃ (a:Addr) (B:Option Addr) (c:Nat),A=some a∧a.block<w.heap.size∧w.cell? (a.add i)=some (.slice B l.length c)∧IntsV w (.slice B l.length c) l∧l.length≤c∧c≤maxLen:=by
 obtain ⟨A',cap',hv,h1,h2,h3⟩:=h
 injection hv with e1 e2 e3
 subst e1
 obtain ⟨a,ha,hb,hc⟩:=h3 (by have:=(List.getElem?_eq_some_iff.1 he).1; omega)
 obtain ⟨B,c,h4,h5⟩:=hc i l he
 obtain ⟨A2,c2,h6, -,h7,h8⟩:=h5.op
 injection h6 with e1 e2 e3
 subst e1 e3
 exact ⟨a,B,c,ha,hb,h4,h5,h7,h8⟩
end

/-- The sum of numbers from 0 on, of at most 1048576, behind t; else -1. -/
def rsumA (t:Int):List Int→Int
 | []=>t
 | z :: l=>if z<0∨1048576 - t<z then -1 else rsumA (t+z) l
def isum:List Int→Int
 | []=>0
 | z :: l=>z+isum l
theorem rsumA_ok:∀ (l:List Int) (t:Int),0≤t→t≤1048576→rsumA t l ≠ -1→(∀ z∈l,0≤z)∧rsumA t l=t+isum l∧t+isum l≤1048576
 | [],t,h0,h1,_=>⟨fun z hz=>by simp at hz,by simp [rsumA,isum],by simp [isum]; exact h1⟩
 | z :: l, t, h0, h1, h => by
   unfold rsumA at h ⊢
   by_cases hc:z<0∨1048576 - t<z
   ·rw [if_pos hc] at h; exact absurd rfl h
   ·rw [if_neg hc] at h ⊢
    obtain ⟨a,b,c⟩:=rsumA_ok l (t+z) (by omega) (by omega) h
    refine ⟨fun y hy=>?_,by rw [b]; simp only [isum]; omega,by simp only [isum]; omega⟩
    rcases List.mem_cons.1 hy with rfl | hy
    ·omega
    ·exact a y hy
theorem rsumA_range:∀ (l:List Int) (t:Int),0≤t→t≤1048576→ -1≤rsumA t l∧rsumA t l≤1048576
 | [],t,h0,h1=>by unfold rsumA; omega
 | z :: l, t, h0, h1 => by
   unfold rsumA
   split
   ·omega
   ·exact rsumA_range l (t+z) (by omega) (by omega)
/-- A valid channel. -/
def VC (L:List (List Int)):Prop:=1≤L.length∧L.length≤256∧1≤(L.getD 0 []).length∧(L.getD 0 []).length≤256∧1≤rsumA 0 (L.getD 0 [])∧∀ l∈L,l.length=(L.getD 0 []).length∧rsumA 0 l=rsumA 0 (L.getD 0 [])
/-- A channel's entries, as fractions. -/
def ce (L:List (List Int)):Nat→Nat→Rat:=fun x y=>(((L.getD x []).getD y 0:Int):Rat)
theorem isum_sm:∀ (l:List Int),((isum l:Int):Rat)=sm l.length (fun i=>((l.getD i 0:Int):Rat)):=by
 have key:∀ (l:List Int) (n:Nat),n≤l.length→((isum (l.take n):Int):Rat)=sm n (fun i=>((l.getD i 0:Int):Rat)):=by
  intro l n
  induction n with
  | zero=>intro _; simp [isum,sm]
  | succ n ih =>
    intro hn
    have e:∀ (a b:List Int),isum (a ++ b)=isum a+isum b:=by
     intro a b
     induction a with
     | nil=>simp [isum]
     | cons z a ih=>simp only [List.cons_append,isum,ih]; omega
    have hg:=List.getElem?_eq_getElem (l:=l) (i:=n) (by omega)
    rw [List.take_add_one,e,hg,sm_succ,← ih (by omega),List.getD_eq_getElem?_getD,hg]
    simp only [Option.toList_some,isum,Option.getD_some,Int.add_zero]
    rw [Rat.intCast_add]
 intro l
 have:=key l l.length (Nat.le_refl _)
 rwa [List.take_length] at this
theorem getD_mem {α:Type} {l:List α} {d:α} {y:Nat} (h:y<l.length):l.getD y d∈l:=by
 rw [List.getD_eq_getElem?_getD,List.getElem?_eq_getElem h]
 exact List.getElem_mem h
theorem VC.chan {L:List (List Int)} (h:VC L):Chan L.length (L.getD 0 []).length (ce L) ((rsumA 0 (L.getD 0 []):Int):Rat):=by
 obtain ⟨h1,h2,h3,h4,h5,h6⟩:=h
 have key:∀ x,x<L.length→(L.getD x [])∈L:=fun x hx=>getD_mem hx
 refine ⟨h1,h3,fun x hx y hy=>?_,fun x hx=>?_,?_⟩
 ·obtain ⟨a,b⟩:=h6 _ (key x hx)
  obtain ⟨c, -, -⟩:=rsumA_ok (L.getD x []) 0 (by decide) (by decide) (by rw [b]; omega)
  have hy2:y<(L.getD x []).length:=by rw [a]; exact hy
  have:=c ((L.getD x []).getD y 0) (getD_mem hy2)
  unfold ce
  exact Rat.intCast_nonneg.2 this
 ·obtain ⟨a,b⟩:=h6 _ (key x hx)
  obtain ⟨-,c, -⟩:=rsumA_ok (L.getD x []) 0 (by decide) (by decide) (by rw [b]; omega)
  rw [←b,c,Int.zero_add,isum_sm,a]
  rfl
 ·have:(0:Int)<rsumA 0 (L.getD 0 []):=by omega
  exact Rat.intCast_pos.2 this
end Go.Proofs.YtbdcjhoedhhabaaGreat

