/- Contracts of the functions that the statements reach, part 3. -/
import Derived.WalkKit
import Derived.WalkSpells
import Derived.WalkLawsBesides
import Derived.Lib.Hide
import Derived.Deep.AppendLies
import Derived.Deep.Draws
import Derived.Test.YtbdcjhoedhhabaaGreatF2
set_option linter.unusedSimpArgs false
set_option linter.unusedVariables false

/- Plain words for memory: a slice that reads as a list of cells, apart from the excluded blocks X; how it is kept while the world changes. No program in sight. -/
namespace Go.Proofs.YtbdcjhoedhhabaaGreat
open Go.RowKit

theorem addr_block (a:Addr) (n:Nat):(a.add n).block=a.block:=by unfold Addr.add; split <;> rfl
theorem addr_add_add (a:Addr) (i j:Nat):(a.add i).add j=a.add (i+j):=by
 unfold Addr.add
 by_cases hi:i=0 <;> by_cases hj:j=0 <;> simp [hi,hj,Nat.add_assoc]
theorem addr_zero (a:Addr):a.add 0=a:=by simp [Addr.add]

/-- w' is w with new blocks, and with changes in the blocks X alone. -/
structure Keep (X:Nat→Prop) (w w':World):Prop where
 size:w.heap.size≤w'.heap.size
 block:∀ b,b<w.heap.size→¬ X b→w'.heap[b]? = w.heap[b]?
 env:w'.os=w.os∧w'.tape=w.tape∧w'.output=w.output

section
variable {X Y:Nat→Prop} {w w' w'':World}
theorem Keep.refl (X:Nat→Prop) (w:World):Keep X w w:=⟨Nat.le_refl _,fun _ _ _=>rfl,rfl,rfl,rfl⟩
theorem Keep.trans (h:Keep X w w') (k:Keep X w' w''):Keep X w w'':=
 ⟨Nat.le_trans h.size k.size,fun b hb hx=>(k.block b (Nat.lt_of_lt_of_le hb h.size) hx).trans (h.block b hb hx),k.env.1.trans h.env.1,k.env.2.1.trans h.env.2.1,k.env.2.2.trans h.env.2.2⟩
theorem Keep.of_below (h:Below w.heap.size w w'):Keep X w w':=⟨h.size,fun b hb _=>h.block b hb,h.os,h.tape,h.output⟩
theorem Keep.low {B:Nat} (h:Keep X w w') (hB:B≤w.heap.size) (hX:∀ b,b<B→¬ X b):Below B w w':=⟨h.env.1,h.env.2.1,h.env.2.2,h.size,fun b hb=>h.block b (Nat.lt_of_lt_of_le hb hB) (hX b hb)⟩
theorem Keep.below (k:Keep X w w') (h:Below w'.heap.size w' w''):Keep X w w'':=k.trans (.of_below h)
theorem Keep.alloc (k:Keep X w w') (o:Obj):Keep X w (w'.alloc o):=k.below ((Below.refl _ _).alloc (Nat.le_refl _) o)
theorem Keep.drew (k:Keep X w w'):Keep X w w'.drew:=⟨k.size,k.block,k.env⟩
theorem Keep.set (k:Keep X w w') {p:Addr} (hp:X p.block∨w.heap.size≤p.block) (u:Value):Keep X w (w'.setCell p u):=
 ⟨by simpa [World.setCell] using k.size,fun b hb hx=>(Below.heap_setCell w' p u b (by rintro rfl; rcases hp with h | h; exact hx h; omega)).trans (k.block b hb hx),k.env⟩
theorem Keep.grown (k:Keep X w w') {row:Option Nat} (hg:w'.grownBy w'' row) (hr:∀ g,row=some g→X g∨w.heap.size≤g):Keep X w w'':=
 ⟨Nat.le_trans k.size hg.size,fun b hb hx=>(hg.block b (Nat.lt_of_lt_of_le hb k.size) (fun e=>by
  rcases hr b e.symm with h | h
  ·exact hx h
  ·omega)).trans (k.block b hb hx),hg.os.trans k.env.1,hg.tape.trans k.env.2.1,hg.output.trans k.env.2.2⟩
theorem Keep.weak (h:Keep X w w') (hY:∀ b,b<w.heap.size→X b→Y b):Keep Y w w':=⟨h.size,fun b hb hy=>h.block b hb (fun hx=>hy (hY b hb hx)),h.env⟩
end

/-- The slice value v has n elements of sz cells each; its cells read as cs; they lie in no block of X. -/
def Sl (w:World) (X:Nat→Prop) (sz:Nat) (v:Value) (n:Nat) (cs:List Value):Prop:=
 ∃ A c, v = .slice A n c ∧ n ≤ c ∧ c ≤ maxLen ∧ cs.length = n * sz ∧
   (0<n→∃ a,A=some a∧a.block<w.heap.size∧¬ X a.block∧∀ j u,cs[j]? = some u→w.cell? (a.add j)=some u)

section
variable {X Y:Nat→Prop} {w w':World} {sz n:Nat} {v:Value} {cs:List Value}

theorem Sl.keep (h:Sl w X sz v n cs) (hk:Keep X w w'):Sl w' X sz v n cs:=by
 obtain ⟨A,c,hv,h1,h2,h3,h4⟩:=h
 refine ⟨A,c,hv,h1,h2,h3,fun hn=>?_⟩
 obtain ⟨a,hA,hlt,hx,hc⟩:=h4 hn
 exact ⟨a,hA,Nat.lt_of_lt_of_le hlt hk.size,hx,fun j u hu=>(World.cell?_of_block (by rw [addr_block]; exact hk.block _ hlt hx)).trans (hc j u hu)⟩

theorem Sl.below (h:Sl w X sz v n cs) (hb:Below w.heap.size w w'):Sl w' X sz v n cs:=h.keep (.of_below hb)

theorem Sl.weak (h:Sl w X sz v n cs) (hY:∀ b,b<w.heap.size→Y b→X b):Sl w Y sz v n cs:=by
 obtain ⟨A,c,hv,h1,h2,h3,h4⟩:=h
 refine ⟨A,c,hv,h1,h2,h3,fun hn=>?_⟩
 obtain ⟨a,hA,hlt,hx,hc⟩:=h4 hn
 exact ⟨a,hA,hlt,fun hy=>hx (hY _ hlt hy),hc⟩

theorem Sl.of_own {base:Nat} {e:TypeId} (h:w.ownsRow base e sz v n cs) (hX:∀ b,base≤b→b<w.heap.size→v.ownBlock=some b→¬ X b):Sl w X sz v n cs:=by
 have hl:=h.1
 rcases h.2 with ⟨rfl,rfl⟩ | ⟨g,cap,cur,rfl,hbg,hg,hnc,hcm,_⟩
 ·exact ⟨none,0,rfl,Nat.le_refl _,by unfold maxLen; omega,hl,fun h=>absurd h (by omega)⟩
 ·exact ⟨some ⟨g,0,none⟩,cap,rfl,hnc,hcm,hl,fun _=>⟨_,rfl,(Array.getElem?_eq_some_iff.1 hg).1,hX g hbg (Array.getElem?_eq_some_iff.1 hg).1 rfl,h.cells rfl⟩⟩

theorem Sl.nil (w:World) (X:Nat→Prop) (sz:Nat):Sl w X sz (.slice none 0 0) 0 []:=⟨none,0,rfl,Nat.le_refl _,by unfold maxLen; omega,by simp,fun h=>absurd h (by omega)⟩

theorem Sl.take {A:Option Addr} {c:Nat} (h:Sl w X sz (.slice A n c) n cs) {k:Nat} (hk:k≤n):Sl w X sz (.slice A k c) k (cs.take (k*sz)):=by
 obtain ⟨A',c',hv,h1,h2,h3,h4⟩:=h
 injection hv with e1 e2 e3
 subst e1 e3
 refine ⟨A,c,rfl,by omega,h2,?_,fun hn=>?_⟩
 ·rw [List.length_take,h3]
  exact Nat.min_eq_left (Nat.mul_le_mul_right _ hk)
 ·obtain ⟨a,hA,hlt,hx,hc⟩:=h4 (by omega)
  refine ⟨a,hA,hlt,hx,fun j u hu=>hc j u ?_⟩
  rw [List.getElem?_take] at hu
  split at hu
  ·exact hu
  ·cases hu

theorem Sl.drop {A:Option Addr} {c:Nat} (h:Sl w X sz (.slice A n c) n cs) {k:Nat} (hk:k≤n) :
 Sl w X sz (.slice (if c=k then A else A.map (·.add (k*sz))) (n - k) (c - k)) (n - k) (cs.drop (k*sz)):=by
 obtain ⟨A',c',hv,h1,h2,h3,h4⟩:=h
 injection hv with e1 e2 e3
 subst e1 e3
 refine ⟨_,_,rfl,by omega,by omega,?_,fun hn=>?_⟩
 ·rw [List.length_drop,h3,Nat.sub_mul]
 ·obtain ⟨a,hA,hlt,hx,hc⟩:=h4 (by omega)
  subst hA
  rw [if_neg (by omega)]
  refine ⟨_,rfl,by rw [addr_block]; exact hlt,by rw [addr_block]; exact hx,fun j u hu=>?_⟩
  rw [addr_add_add]
  exact hc _ u (by rw [←hu,List.getElem?_drop])

theorem Sl.open_ (h:Sl w X sz v n cs):∃ A c,v = .slice A n c∧n≤c∧c≤maxLen∧Sl w X sz (.slice A n c) n cs:=by
 obtain ⟨A,c,hv,h1,h2,h3,h4⟩:=h
 exact ⟨A,c,hv,h1,h2,A,c,rfl,h1,h2,h3,h4⟩

/-- Cells of a slice. -/
theorem Sl.at_ {A:Option Addr} {c:Nat} (h:Sl w X sz (.slice A n c) n cs) (hn:0<n):∃ a,A=some a∧a.block<w.heap.size∧¬ X a.block∧∀ j,j<n*sz→w.cell? (a.add j)=cs[j]?:=by
 obtain ⟨A',c',hv,h1,h2,h3,h4⟩:=h
 injection hv with e1 e2 e3
 subst e1 e3
 obtain ⟨a,hA,hlt,hx,hc⟩:=h4 hn
 refine ⟨a,hA,hlt,hx,fun j hj=>?_⟩
 have hl:j<cs.length:=by omega
 rw [List.getElem?_eq_getElem hl]
 exact hc j _ (List.getElem?_eq_getElem hl)
end

/-- The cells of numbers of one kind. -/
def nums (k:IntKind) (xs:List Nat):List Value:=xs.map fun x:Nat=>Value.int k (x:Int)

@[simp] theorem nums_nil (k:IntKind):nums k [] = []:=rfl
@[simp] theorem nums_length (k:IntKind) (xs:List Nat):(nums k xs).length=xs.length:=by simp [nums]
theorem nums_get {k:IntKind} {xs:List Nat} {i:Nat} (h:i<xs.length):(nums k xs)[i]? = some (.int k ((xs[i]:Nat):Int)):=by simp [nums,h]
theorem nums_take (k:IntKind) (xs:List Nat) (n:Nat):(nums k xs).take n=nums k (xs.take n):=by simp [nums,List.map_take]
theorem nums_drop (k:IntKind) (xs:List Nat) (n:Nat):(nums k xs).drop n=nums k (xs.drop n):=by simp [nums,List.map_drop]
theorem nums_set (k:IntKind) (xs:List Nat) (i:Nat) (y:Nat):(nums k xs).set i (.int k (y:Int))=nums k (xs.set i y):=by simp [nums,List.map_set]
theorem nums_zeros (k:IntKind) (n:Nat):List.replicate n (Value.int k 0)=nums k (List.replicate n 0):=by simp [nums]
theorem nums_snoc (k:IntKind) (xs:List Nat) (y:Nat):nums k xs ++ [.int k (y:Int)] = nums k (xs ++ [y]):=by simp [nums]
theorem nums_snoc' (k:IntKind) (xs:List Nat) (z:Int) (y:Nat) (h:z=(y:Int)):nums k xs ++ [.int k z] = nums k (xs ++ [y]):=by rw [h,nums_snoc]
theorem nums_one (k:IntKind) (xs:List Nat):∀ u∈nums k xs,u.oneCell'=true:=by
 intro u hu
 obtain ⟨_,_,rfl⟩:=List.mem_map.1 hu
 rfl

/-- A []uint32 that reads as the list xs. -/
def Words (w:World) (X:Nat→Prop) (v:Value) (xs:List Nat):Prop:=Sl w X 1 v xs.length (nums .u32 xs)∧∀ x∈xs,x<4294967296

/-- What was made behind w: in no block that w has. -/
def Old (w:World):Nat→Prop:=fun b=>b<w.heap.size

section
variable {X Y:Nat→Prop} {w w':World} {v:Value} {xs:List Nat}
theorem Words.keep (h:Words w X v xs) (hk:Keep X w w'):Words w' X v xs:=⟨h.1.keep hk,h.2⟩
theorem Words.below (h:Words w X v xs) (hb:Below w.heap.size w w'):Words w' X v xs:=⟨h.1.below hb,h.2⟩
theorem Words.weak (h:Words w X v xs) (hY:∀ b,b<w.heap.size→Y b→X b):Words w Y v xs:=⟨h.1.weak hY,h.2⟩
theorem Words.drewN (h:Words w X v xs) (n:Nat):Words (w.drewN n) X v xs:=h
theorem Words.drew (h:Words w X v xs):Words w.drew X v xs:=h
theorem Words.open_ (h:Words w X v xs):∃ A c,v = .slice A xs.length c∧xs.length≤c∧c≤maxLen∧Words w X (.slice A xs.length c) xs:=by
 obtain ⟨A,c,hv,h1,h2,h3⟩:=h.1.open_
 exact ⟨A,c,hv,h1,h2,h3,h.2⟩
theorem Words.nil (w:World) (X:Nat→Prop):Words w X (.slice none 0 0) []:=⟨by simpa [nums] using Sl.nil w X 1,by simp⟩
theorem Words.at_ {A:Option Addr} {n c:Nat} (h:Words w X (.slice A n c) xs) {k:Nat} (hk:k<xs.length) :
 ∃ a,A=some a∧a.block<w.heap.size∧¬ X a.block∧w.cell? (a.add k)=some (.int .u32 ((xs[k]:Nat):Int)):=by
 obtain ⟨A',c',hv,_,_,H⟩:=h.open_
 injection hv with e1 e2 e3
 subst e1 e2 e3
 obtain ⟨a,hA,hlt,hx,hc⟩:=H.1.at_ (by omega)
 exact ⟨a,hA,hlt,hx,(hc k (by omega)).trans (nums_get hk)⟩
theorem Words.take {A:Option Addr} {c:Nat} (h:Words w X (.slice A xs.length c) xs) {k:Nat} (hk:k≤xs.length):Words w X (.slice A k c) (xs.take k):=by
 have e:(xs.take k).length=k:=by rw [List.length_take]; omega
 refine ⟨?_,fun x hx=>h.2 x (List.mem_of_mem_take hx)⟩
 have:=h.1.take hk
 rw [Nat.mul_one,nums_take] at this
 rw [e]
 exact this
theorem Words.drop {A:Option Addr} {c:Nat} (h:Words w X (.slice A xs.length c) xs) {k:Nat} (hk:k≤xs.length):Words w X (.slice (if c=k then A else A.map (·.add k)) (xs.length - k) (c - k)) (xs.drop k):=by
 have e:(xs.drop k).length=xs.length - k:=List.length_drop
 refine ⟨?_,fun x hx=>h.2 x (List.mem_of_mem_drop hx)⟩
 have:=h.1.drop hk
 simp only [Nat.mul_one,nums_drop] at this
 rw [e]
 exact this
theorem Words.of_own {base:Nat} {e:TypeId} (h:w.ownsRow base e 1 v xs.length (nums .u32 xs)) (hx:∀ x∈xs,x<4294967296) (hX:∀ b,base≤b→b<w.heap.size→v.ownBlock=some b→¬ X b):Words w X v xs:=⟨Sl.of_own h hX,hx⟩
theorem Words.news {a:Addr} {n c:Nat} (h:Words w X (.slice (some a) n c) xs):∀ j u,(nums .u32 xs)[j]? = some u→w.cell? (a.add j)=some u:=by
 intro j u hu
 have hj:j<xs.length:=by have:=(List.getElem?_eq_some_iff.1 hu).1; simpa using this
 obtain ⟨a',e,_,_,hc⟩:=h.at_ hj
 injection e with e
 subst e
 rw [nums_get hj] at hu
 rw [hc]
 exact hu
theorem Words.lt_max (h:Words w X v xs):xs.length≤9223372036854775807:=by
 obtain ⟨_,_,_,h1,h2,_⟩:=h.1
 unfold maxLen at h2
 omega
theorem Words.lt (h:Words w X v xs) {i:Nat} (hi:i<xs.length):xs[i] < 4294967296:=h.2 _ (List.getElem_mem hi)
end

/-- Block g is just the cells cs. -/
def Loc (w:World) (g:Nat) (t:TypeId) (cs:Array Value):Prop:=w.heap[g]? = some (.cells cs t (0,0))
section
variable {w w':World} {g:Nat} {t:TypeId} {cs:Array Value}
theorem Loc.cell (h:Loc w g t cs):∀ i,w.cell? ⟨g,i,none⟩=cs[i]?:=fun i=>cell_of_row w g i cs t (0,0) h
theorem Loc.frz (h:Loc w g t cs):∀ i,w.frozen? ⟨g,i,none⟩=false:=fun i=>frozen_of_row w g i cs t h
theorem Loc.lt (h:Loc w g t cs):g<w.heap.size:=(Array.getElem?_eq_some_iff.1 h).1
theorem Loc.below (h:Loc w g t cs) (hb:Below w.heap.size w w'):Loc w' g t cs:=(hb.block g h.lt).trans h
theorem Loc.below' {B:Nat} (h:Loc w g t cs) (hb:Below B w w') (hg:g<B):Loc w' g t cs:=(hb.block g hg).trans h
theorem Loc.keep {X:Nat→Prop} (h:Loc w g t cs) (hb:Keep X w w') (hx:¬ X g):Loc w' g t cs:=(hb.block g h.lt hx).trans h
theorem Loc.new (w:World) (cs:Array Value) (t:TypeId):Loc (w.alloc (.cells cs t)) w.heap.size t cs:=heap_alloc_new w _
theorem Loc.alloc (h:Loc w g t cs) (o:Obj):Loc (w.alloc o) g t cs:=h.below ((Below.refl _ _).alloc (Nat.le_refl _) o)
theorem Loc.drew (h:Loc w g t cs):Loc w.drew g t cs:=h
theorem Loc.set (h:Loc w g t cs) (i:Nat) (u:Value):Loc (w.setCell ⟨g,i,none⟩ u) g t (cs.setIfInBounds i u):=by
 unfold Loc at h ⊢
 simp [World.setCell,Array.getElem?_modify,h]
theorem Loc.far (h:Loc w g t cs) {p:Addr} (hp:g ≠ p.block) (u:Value):Loc (w.setCell p u) g t cs:=(Below.heap_setCell w p u g hp).trans h
end

/-! ### Laws of the walk for rows of one-cell elements, said with few words -/
section
variable {P:Program} {ops:Array Oper} {rest:List Oper} {o:Oper} {a:Act} {Q:Exit→Act→World→Prop} {t e:TypeId} {z:Value} {bytes:Nat}

/-- append(out, u), out nil or the call's own, u laid in block H. -/
theorem wpList_push (w:World) (hgd:o.guard=none) (s x:Operand) (ho:o.op = .call { callee:= .builtin .append,args:=#[s,x],argTypes:=#[t,t] })
 (ht:P.underlying t=some (.slice e)) (hE:(P.info? e).map (fun i=>(i.zero,i.size,i.bytes))=some (some z,1,bytes)) (hzs:z.cells.size=1)
 (base:Nat) (v:Value) (n:Nat) (xs:List Value) (hs:a.eval s=v) (hown:w.ownsRow base e 1 v n xs)
 (H:Nat) (u:Value) (hx:a.eval x = .slice (some ⟨H,0,none⟩) 1 1) (hH:w.heap[H]? = some (.cells #[u] e (0,0))) (hu:u.oneCell'=true)
 (hn:(n+1)*bytes≤140737488355328) (hm:n+1≤maxLen) (hbase:base≤w.heap.size)
 (h:∀ v' w',w'.ownsRow base e 1 v' (n+1) (xs ++ [u])→w.grownBy w' v.ownBlock→(v'.ownBlock=v.ownBlock∨v'.ownBlock=some w.heap.size)→wpList P ops Q rest (a.put o.dst v') w'):wpList P ops Q (o :: rest) a w:=by
 obtain ⟨i,hi,hz0,hz1,hz2⟩:=info_parts hE
 refine wpList_append_lies w hgd s x t ho base e i z 1 bytes ht hi hz0 hz1 hz2 hzs (by omega) v n xs hs hown ⟨H,0,none⟩ 1 1 [u] hx (by simp) (fun j u' hu'=>World.news_of_block hH j u' (by simpa using hu')) (by simpa using hu) (by omega) hm hn hbase _ rfl ?_
 intro g cap w' h1 h2 h3 h4
 refine h _ w' h1 h2 ?_
 rcases h3 with h3 | h3
 ·exact .inl (by rw [h3]; rfl)
 ·exact .inr (by rw [←h3]; rfl)

/-- make([]T, n): n zero elements. -/
theorem wpList_makeN (w:World) (hgd:o.guard=none) (l c:Operand) (ho:o.op=Op.makeSlice t l c)
 (ht:P.underlying t=some (.slice e)) (hE:(P.info? e).map (fun i=>(i.zero,i.size,i.bytes))=some (some z,1,bytes)) (hzs:z.cells=#[z])
 (base:Nat) {kl kc:IntKind} {L C:Int} (n:Nat) (hl:a.eval l = .int kl L) (hc:a.eval c = .int kc C) (hL:L=(n:Int)) (hC:C=(n:Int)) (hb:bytes*n≤281474976710656) (hm:n≤maxLen) (hbase:base≤w.heap.size)
 (h:∀ w',w'.ownsRow base e 1 (.slice (some ⟨w.heap.size,0,none⟩) n n) n (List.replicate n z)→w.grownBy w' none→wpList P ops Q rest (a.put o.dst (.slice (some ⟨w.heap.size,0,none⟩) n n)) w'):wpList P ops Q (o :: rest) a w:=by
 obtain ⟨i,hi,hz0,hz1,hz2⟩:=info_parts hE
 refine wpList_make_full w hgd l c t ho base e i z 1 ht hi hz0 hz1 kl kc L C n hl hc hL hC (by rw [hz2]; exact hb) hm hbase fun w' h1 h2=>h w' ?_ h2
 rw [hzs,toList_madeCells_one,Nat.mul_one] at h1
 exact h1

/-- make([]T, 0, n). -/
theorem wpList_make0 (w:World) (hgd:o.guard=none) (l c:Operand) (ho:o.op=Op.makeSlice t l c)
 (ht:P.underlying t=some (.slice e)) (hE:(P.info? e).map (fun i=>(i.zero,i.size,i.bytes))=some (some z,1,bytes))
 (base:Nat) {kl kc:IntKind} {C:Int} (n:Nat) (hl:a.eval l = .int kl 0) (hc:a.eval c = .int kc C) (hC:C=(n:Int)) (hb:bytes*n≤281474976710656) (hm:n≤maxLen) (hbase:base≤w.heap.size)
 (h:∀ w',w'.ownsRow base e 1 (.slice (some ⟨w.heap.size,0,none⟩) 0 n) 0 []→w.grownBy w' none→wpList P ops Q rest (a.put o.dst (.slice (some ⟨w.heap.size,0,none⟩) 0 n)) w'):wpList P ops Q (o :: rest) a w:=by
 obtain ⟨i,hi,hz0,hz1,hz2⟩:=info_parts hE
 exact wpList_make_own w hgd l c t ho base e i z 1 ht hi hz0 hz1 kl kc C n hl hc hC (by rw [hz2]; exact hb) hm hbase h
end

theorem grown_set {w wr:World} {g:Nat} (h:w.grownBy wr (some g)) (i:Nat) (u:Value):w.grownBy (wr.setCell ⟨g,i,none⟩ u) (some g):=
 ⟨h.os,h.tape,h.output,by simpa [World.setCell] using h.size,fun k hk hne=>(Below.heap_setCell wr ⟨g,i,none⟩ u k (by rintro rfl; exact hne rfl)).trans (h.block k hk hne)⟩
theorem grown_drewN {w wr:World} {row:Option Nat} (h:w.grownBy wr row) (n:Nat):w.grownBy (wr.drewN n) row:=⟨h.os,h.tape,h.output,h.size,h.block⟩
theorem below_own {B base sz n:Nat} {w0 w w':World} {e:TypeId} {v:Value} {xs:List Value} (h:Below B w0 w) (hown:w.ownsRow base e sz v n xs) (hg:w.grownBy w' v.ownBlock) (hB:B≤base) (hw:B≤w.heap.size):Below B w0 w':=
 h.grown hg hw fun k hk=>Nat.le_trans hB (hown.lt k hk).1
theorem below_drewN {B:Nat} {a w:World} (h:Below B a w) (n:Nat):Below B a (w.drewN n):=⟨h.os,h.tape,h.output,h.size,h.block⟩
theorem below_none {B:Nat} {w0 w w':World} (h:Below B w0 w) (hg:w.grownBy w' none) (hw:B≤w.heap.size):Below B w0 w':=h.grown hg hw (by simp)

/-- A literal of numbers in a block of its own. -/
theorem Words.lit {W:World} {X:Nat→Prop} {g:Nat} {t:TypeId} (xs:List Nat) (h:Loc W g t (nums .u32 xs).toArray) (hw:∀ x∈xs,x<4294967296) (hX:¬ X g) (hl:xs.length≤maxLen):Words W X (.slice (some ⟨g,0,none⟩) xs.length xs.length) xs:=by
 refine ⟨⟨_,_,rfl,Nat.le_refl _,hl,by simp,fun _=>⟨_,rfl,h.lt,hX,fun j u hu=>?_⟩⟩,hw⟩
 have hadd:(⟨g,0,none⟩:Addr).add j=⟨g,j,none⟩:=by unfold Addr.add; split <;> simp_all
 rw [hadd,h.cell j]
 simpa using hu

/-- What lies apart from an owned row still does when the row is pushed onto. -/
theorem Words.push {w w':World} {o:Obj} {v v' s:Value} {xs:List Nat} (h:Words w (fun b=>v.ownBlock=some b) s xs) (hg:(w.alloc o).grownBy w' v.ownBlock)
 (hat:v'.ownBlock=v.ownBlock∨v'.ownBlock=some (w.alloc o).heap.size):Words w' (fun b=>v'.ownBlock=some b) s xs:=by
 have k:Keep (fun b=>v.ownBlock=some b) w w':=((Keep.refl _ w).alloc o).grown hg (fun g hg=> .inl hg)
 have h1:Words w (fun b=>v'.ownBlock=some b) s xs:=h.weak fun b hb hv=>by
  rcases hat with e | e
  ·rw [←e]; exact hv
  ·rw [e] at hv
   simp only [Option.some.injEq] at hv
   have:w.heap.size<(w.alloc o).heap.size:=by simp
   omega
 have h2:=h.keep k
 refine ⟨?_,h.2⟩
 obtain ⟨A,c,e,q1,q2,q3,q4⟩:=h1.1
 obtain ⟨A',c',e',_,_,_,q4'⟩:=h2.1
 rw [e] at e'
 injection e' with e1 e2 e3
 subst e1 e3
 refine ⟨A,c,e,q1,q2,q3,fun hn=>?_⟩
 obtain ⟨a,ha,_,hx,_⟩:=q4 hn
 obtain ⟨a',ha',hlt',_,hc'⟩:=q4' hn
 rw [ha] at ha'
 injection ha' with ha'
 subst ha'
 exact ⟨a,ha,hlt',hx,hc'⟩

/-! ### The boxes that a call lays at its head, behind the first callee -/
theorem below_undrew {w w2:World} (h:Below w.drew.heap.size w.drew w2):Below w.heap.size w w2:=⟨h.os,h.tape,h.output,h.size,h.block⟩
theorem below_undrewN {w w2:World} {n:Nat} (h:Below (w.drewN n).heap.size (w.drewN n) w2):Below w.heap.size w w2:=⟨h.os,h.tape,h.output,h.size,h.block⟩
section
variable {w w2:World} {c1 c2 c3 c4:Array Value} {t1 t2 t3 t4:TypeId}
theorem locs1 (h:Below (w.alloc (.cells c1 t1)).heap.size (w.alloc (.cells c1 t1)) w2) :
 Loc w2 w.heap.size t1 c1∧Below w.heap.size w w2∧w.heap.size+1≤w2.heap.size:=
 ⟨(Loc.new _ _ _).below h,((Below.refl _ _).alloc (Nat.le_refl _) _).trans (h.mono (by simp)),by have:=h.size; simpa using this⟩
theorem locs2 (h:Below ((w.alloc (.cells c1 t1)).alloc (.cells c2 t2)).heap.size ((w.alloc (.cells c1 t1)).alloc (.cells c2 t2)) w2) :
 Loc w2 w.heap.size t1 c1∧Loc w2 (w.heap.size+1) t2 c2∧Below w.heap.size w w2∧w.heap.size+2≤w2.heap.size:=by
 obtain ⟨h2,h3,h4⟩:=locs1 h
 obtain ⟨g1,g2,g3⟩:=locs1 h3
 exact ⟨g1,by simpa using h2,g2,by simp at h4; omega⟩
theorem locs3 (h:Below (((w.alloc (.cells c1 t1)).alloc (.cells c2 t2)).alloc (.cells c3 t3)).heap.size (((w.alloc (.cells c1 t1)).alloc (.cells c2 t2)).alloc (.cells c3 t3)) w2) :
 Loc w2 w.heap.size t1 c1∧Loc w2 (w.heap.size+1) t2 c2∧Loc w2 (w.heap.size+1+1) t3 c3∧Below w.heap.size w w2∧w.heap.size+3≤w2.heap.size:=by
 obtain ⟨h2,h3,h4⟩:=locs1 h
 obtain ⟨g1,g2,g3,g4⟩:=locs2 h3
 exact ⟨g1,g2,by simpa using h2,g3,by simp at h4; omega⟩
theorem locs4 (h:Below ((((w.alloc (.cells c1 t1)).alloc (.cells c2 t2)).alloc (.cells c3 t3)).alloc (.cells c4 t4)).heap.size ((((w.alloc (.cells c1 t1)).alloc (.cells c2 t2)).alloc (.cells c3 t3)).alloc (.cells c4 t4)) w2) :
 Loc w2 w.heap.size t1 c1∧Loc w2 (w.heap.size+1) t2 c2∧Loc w2 (w.heap.size+1+1) t3 c3∧Loc w2 (w.heap.size+1+1+1) t4 c4∧Below w.heap.size w w2∧w.heap.size+4≤w2.heap.size:=by
 obtain ⟨h2,h3,h4⟩:=locs1 h
 obtain ⟨g1,g2,g3,g4,g5⟩:=locs3 h3
 exact ⟨g1,g2,g3,by simpa using h2,g4,by simp at h4; omega⟩
end
/-- The boxes of two parameters, ahead of a result's. -/
theorem boxes3 (w:World) (c1 c2 c3:Array Value) (t1 t2 t3:TypeId) :
 Hid (∀ W,Below (w.heap.size+1+1) (((w.alloc (.cells c1 t1)).alloc (.cells c2 t2)).alloc (.cells c3 t3)) W→Loc W w.heap.size t1 c1∧Loc W (w.heap.size+1) t2 c2):=fun W h=>by
 refine ⟨Loc.below' ?_ h (by omega),Loc.below' ?_ h (by omega)⟩
 ·exact ((Loc.new _ _ _).alloc _).alloc _
 ·have:=(Loc.new (w.alloc (.cells c1 t1)) c2 t2).alloc (.cells c3 t3)
  simpa using this
theorem below1 (w:World) (o:Obj):Below w.heap.size w (w.alloc o):=(Below.refl _ _).alloc (Nat.le_refl _) _
theorem below2 (w:World) (o o':Obj):Below w.heap.size w ((w.alloc o).alloc o'):=(below1 w o).alloc (by simp) _
theorem below3 (w:World) (o o' o2:Obj):Below w.heap.size w (((w.alloc o).alloc o').alloc o2):=(below2 w o o').alloc (by simp only [World.size_alloc]; omega) _
theorem below4 (w:World) (o o' o2 o3:Obj):Below w.heap.size w ((((w.alloc o).alloc o').alloc o2).alloc o3):=(below3 w o o' o2).alloc (by simp only [World.size_alloc]; omega) _

theorem ret_eq {a b:Value} (h:a=b):Ending.returned a = .returned b:=by rw [h]
theorem int_eq {k:IntKind} {a b:Int} (h:a=b):Value.int k a = .int k b:=by rw [h]

/- What an abstract value and an abstract memory stand for. -/

/-- Where a block lies: its number, the first of its cells, and by how many elements its capacity passes what is known. -/
structure Pl where
 addr:Nat
 shift:Nat
 extra:Nat

abbrev Rho:=Nat→Pl

mutual
def AV.conc (ρ:Rho):AV→Value
 | .bool b=> .bool b
 | .int k n=> .int k n
 | .str s=> .string s
 | .nilPtr=> .pointer none
 | .ptr b off=> .pointer (some ⟨(ρ b).addr,off+(ρ b).shift,none⟩)
 | .nilSl=> .slice none 0 0
 | .sl b off len cap op=> .slice (some ⟨(ρ b).addr,off+(ρ b).shift,none⟩) len (cap+bif op then (ρ b).extra else 0)
 | .nilMap=> .map none
 | .mp b=> .map (some (ρ b).addr)
 | .nilFn=> .nilFunc
 | .fn f fs cs=> .func (.func f) (concs ρ fs).toArray (concs ρ cs).toArray
 | .agg cs=> .agg (concs ρ cs).toArray
 | .tup cs=> .tuple (concs ρ cs).toArray
def concs (ρ:Rho):List AV→List Value
 | []=>[]
 | c :: cs=>c.conc ρ :: concs ρ cs
end

theorem concs_eq (ρ:Rho):∀ cs,concs ρ cs=cs.map (AV.conc ρ)
 | []=>rfl
 | c :: cs=>by rw [concs,concs_eq ρ cs]; rfl

theorem conc_undef (ρ:Rho):AV.undef.conc ρ=undef:=by simp [AV.undef,AV.conc,concs,undef]

theorem conc_cells (ρ:Rho) (v:AV):(v.conc ρ).cells.toList=concs ρ v.cells:=by
 cases v <;> simp [AV.conc,Value.cells,AV.cells,concs]

theorem mapM_conc (ρ:Rho) {d:Nat} (ih:∀ v x,avOf d v=some x→x.conc ρ=v):∀ (l:List Value) (xs:List AV),l.mapM (avOf d)=some xs→concs ρ xs=l
 | [],xs,h=>by simp at h; subst h; rfl
 | v :: l, xs, h => by
   simp only [List.mapM_cons,Option.bind_eq_bind,Option.bind_eq_some_iff] at h
   obtain ⟨x,hx,ys,hy,e⟩:=h
   injection e with e
   subst e
   rw [concs,ih v x hx,mapM_conc ρ ih l ys hy]

theorem av0_conc (ρ:Rho) (v:Value) (x:AV) (h:av0 v=some x):x.conc ρ=v:=by
 unfold av0 at h
 split at h <;> first | (injection h with h; subst h; rfl) | cases h

theorem avOf_conc (ρ:Rho):∀ (d:Nat) (v:Value) (x:AV),avOf d v=some x→x.conc ρ=v
 | 0,v,x,h=>av0_conc ρ v x h
 | d + 1, v, x, h => by
   have ih:=mapM_conc ρ (avOf_conc ρ d)
   unfold avOf at h
   split at h
   ·simp only [Option.bind_eq_some_iff,Option.map_eq_some_iff] at h
    obtain ⟨fs,h1,cs,h2,e⟩:=h
    subst e
    rw [AV.conc,ih _ _ h1,ih _ _ h2]
   ·simp only [Option.map_eq_some_iff] at h
    obtain ⟨cs,h2,e⟩:=h
    subst e
    rw [AV.conc,ih _ _ h2]
   ·simp only [Option.map_eq_some_iff] at h
    obtain ⟨cs,h2,e⟩:=h
    subst e
    rw [AV.conc,ih _ _ h2]
   ·exact av0_conc ρ v x h

mutual
/-- All blocks that a value names are of S. -/
def AV.sup (S:Nat→Prop):AV→Prop
 | .ptr b _=>S b
 | .sl b _ _ _ _=>S b
 | .mp b=>S b
 | .fn _ fs cs=>sups S fs∧sups S cs
 | .agg cs=>sups S cs
 | .tup cs=>sups S cs
 | .bool _ | .int _ _ | .str _ | .nilPtr | .nilSl | .nilMap | .nilFn=>True
def sups (S:Nat→Prop):List AV→Prop
 | []=>True
 | c :: cs=>c.sup S∧sups S cs
end

mutual
theorem conc_congr {ρ σ:Rho} {S:Nat→Prop} (h:∀ b,S b→ρ b=σ b):∀ v:AV,v.sup S→v.conc ρ=v.conc σ
 | .ptr b off,hs=>by rw [AV.sup] at hs; rw [AV.conc,AV.conc,h b hs]
 | .sl b off n c o,hs=>by rw [AV.sup] at hs; rw [AV.conc,AV.conc,h b hs]
 | .mp b,hs=>by rw [AV.sup] at hs; rw [AV.conc,AV.conc,h b hs]
 | .fn f fs cs,hs=>by rw [AV.sup] at hs; rw [AV.conc,AV.conc,concs_congr h fs hs.1,concs_congr h cs hs.2]
 | .agg cs,hs=>by rw [AV.sup] at hs; rw [AV.conc,AV.conc,concs_congr h cs hs]
 | .tup cs,hs=>by rw [AV.sup] at hs; rw [AV.conc,AV.conc,concs_congr h cs hs]
 | .bool _,_=>rfl
 | .int _ _,_=>rfl
 | .str _,_=>rfl
 | .nilPtr,_=>rfl
 | .nilSl,_=>rfl
 | .nilMap,_=>rfl
 | .nilFn,_=>rfl
theorem concs_congr {ρ σ:Rho} {S:Nat→Prop} (h:∀ b,S b→ρ b=σ b):∀ vs:List AV,sups S vs→concs ρ vs=concs σ vs
 | [],_=>rfl
 | v :: vs,hs=>by rw [sups] at hs; rw [concs,concs,conc_congr h v hs.1,concs_congr h vs hs.2]
end

mutual
theorem sup_mono {S S':Nat→Prop} (h:∀ b,S b→S' b):∀ v:AV,v.sup S→v.sup S'
 | .ptr b off,hs=>by rw [AV.sup] at hs ⊢; exact h b hs
 | .sl b off n c o,hs=>by rw [AV.sup] at hs ⊢; exact h b hs
 | .mp b,hs=>by rw [AV.sup] at hs ⊢; exact h b hs
 | .fn f fs cs,hs=>by rw [AV.sup] at hs ⊢; exact ⟨sups_mono h fs hs.1,sups_mono h cs hs.2⟩
 | .agg cs,hs=>by rw [AV.sup] at hs ⊢; exact sups_mono h cs hs
 | .tup cs,hs=>by rw [AV.sup] at hs ⊢; exact sups_mono h cs hs
 | .bool _,_=>trivial
 | .int _ _,_=>trivial
 | .str _,_=>trivial
 | .nilPtr,_=>trivial
 | .nilSl,_=>trivial
 | .nilMap,_=>trivial
 | .nilFn,_=>trivial
theorem sups_mono {S S':Nat→Prop} (h:∀ b,S b→S' b):∀ vs:List AV,sups S vs→sups S' vs
 | [],_=>trivial
 | v :: vs,hs=>by rw [sups] at hs ⊢; exact ⟨sup_mono h v hs.1,sups_mono h vs hs.2⟩
end

def entryOf (ρ:Rho) (e:AV×AV×Nat):MapEntry:={ key:=e.1.conc ρ,val:=e.2.1.conc ρ,born:=e.2.2 }

/-- What a block of the memory says of the world. -/
def BlkOk (ρ:Rho) (w:World) (b:Nat):Blk→Prop
 | .cells cs el=>∃ pre post e,w.heap[(ρ b).addr]? = some (.cells (pre ++ concs ρ cs ++ post).toArray e (0,0))∧pre.length=(ρ b).shift∧(ρ b).extra*el≤post.length
 | .map es c=>w.heap[(ρ b).addr]? = some (.map (es.map (entryOf ρ)).toArray c)

/-- All blocks that a block's cells name are of S. -/
def Blk.sup (S:Nat→Prop):Blk→Prop
 | .cells cs _=>sups S cs
 | .map es _=>∀ e∈es,e.1.sup S∧e.2.1.sup S

def MSup (S:Nat→Prop) (m:Mem):Prop:=∀ b k,m.blks.get b=some k→k.sup S

structure MemOk (ρ:Rho) (m:Mem) (w:World):Prop where
 lt:∀ b k,m.blks.get b=some k→b<m.next
 ok:∀ b k,m.blks.get b=some k→BlkOk ρ w b k
 sup:MSup (fun b=>b<m.next) m
 one:∀ b k c l,m.blks.get b=some k→m.blks.get c=some l→b ≠ c→(ρ b).addr ≠ (ρ c).addr

structure RegOk (ρ:Rho) (N:Nat) (r:Regs) (a:Act):Prop where
 size:a.tmps.size=N
 none:a.defers = []
 at_:∀ t,a.tmps.getD t undef=(r.at t).conc ρ

theorem RegOk.ev {ρ:Rho} {N:Nat} {r:Regs} {a:Act} (h:RegOk ρ N r a) {x:Operand} {v:AV} (e:evA r x=some v):a.eval x=v.conc ρ:=by
 cases x with
 | tmp t=>injection e with e; subst e; exact h.at_ t
 | const c=>exact (avOf_conc ρ 3 c v e).symm
 | global g=>cases e
 | func f=>injection e with e; subst e; rfl

theorem RegOk.evs {ρ:Rho} {N:Nat} {r:Regs} {a:Act} (h:RegOk ρ N r a):∀ {l:List Operand} {vs:List AV},evL r l=some vs→l.map a.eval=concs ρ vs
 | [],vs,e=>by injection e with e; subst e; rfl
 | x :: l, vs, e => by
   unfold evL at e
   split at e
   ·rename_i v hv
    split at e
    ·rename_i us hu
     injection e with e
     subst e
     rw [List.map_cons,h.ev hv,h.evs hu,concs]
    ·cases e
   ·cases e

theorem RegOk.put {ρ:Rho} {N:Nat} {r r':Regs} {a:Act} (h:RegOk ρ N r a) {dst:Option Nat} {v:AV} (e:putR N r dst v=some r'):RegOk ρ N r' (a.put dst (v.conc ρ)):=by
 cases dst with
 | none=>injection e with e; subst e; exact h
 | some t =>
   unfold putR at e
   simp only at e
   cases hb:Nat.blt t N with
   | false=>rw [hb] at e; cases e
   | true =>
     rw [hb] at e
     injection e with e
     subst e
     have ht:t<a.tmps.size:=by rw [h.size]; exact Nat.le_of_ble_eq_true hb
     refine ⟨by simp [Act.put,h.size],h.none,fun i=>?_⟩
     unfold Regs.at
     rw [Tr.get_put]
     by_cases hi:i=t
     ·subst hi; simp [Act.put,ht]
     ·rw [if_neg hi]
      have:=h.at_ i
      unfold Regs.at at this
      rw [←this]
      simp only [Act.put,Array.getD_eq_getD_getElem?,Array.getElem?_setIfInBounds]
      rw [if_neg (fun e=>hi e.symm)]

/-- The addresses of the live blocks. -/
def Lv (ρ:Rho) (m:Mem) (x:Nat):Prop:=∃ b k,m.blks.get b=some k∧(ρ b).addr=x

/-- The ids of S, and those that are new. -/
def Wid (S:Nat→Prop) (m m':Mem) (b:Nat):Prop:=S b∨(m.next≤b∧b<m'.next)

/-- How a piece of a run leaves the memory. -/
structure Post (ρ ρ':Rho) (m m':Mem) (w w':World):Prop where
 mem:MemOk ρ' m' w'
 same:∀ b,b<m.next∨m'.next≤b→ρ' b=ρ b
 next:m.next≤m'.next
 keep:Keep (Lv ρ m) w w'
 live:∀ b k,m'.blks.get b=some k→w.heap.size≤(ρ' b).addr∨Lv ρ m (ρ' b).addr
 wr:∀ b,b∈m.wr→b∈m'.wr
 old:∀ b,b<m.next→b∉m'.wr→m'.blks.get b=m.blks.get b
 was:∀ b k,m'.blks.get b=some k→b<m.next→∃ l,m.blks.get b=some l

theorem BlkOk.lt {ρ:Rho} {w:World} {b:Nat} {k:Blk} (h:BlkOk ρ w b k):(ρ b).addr<w.heap.size:=by
 cases k with
 | cells cs el=>obtain ⟨pre,post,e,hw,_⟩:=h; exact (Array.getElem?_eq_some_iff.1 hw).1
 | map es c=>exact (Array.getElem?_eq_some_iff.1 h).1

theorem Blk.sup_mono {S S':Nat→Prop} (h:∀ b,S b→S' b) {k:Blk} (hk:k.sup S):k.sup S':=by
 cases k with
 | cells cs el=>exact sups_mono h cs hk
 | map es c=>exact fun e he=>⟨_root_.Go.Proofs.YtbdcjhoedhhabaaGreat.sup_mono h _ (hk e he).1,_root_.Go.Proofs.YtbdcjhoedhhabaaGreat.sup_mono h _ (hk e he).2⟩

theorem MSup.mono {S S':Nat→Prop} (h:∀ b,S b→S' b) {m:Mem} (hm:MSup S m):MSup S' m:=fun b k e=>Blk.sup_mono h (hm b k e)

theorem Post.refl {ρ:Rho} {m:Mem} {w:World} (h:MemOk ρ m w):Post ρ ρ m m w w:=
 ⟨h,fun _ _=>rfl,Nat.le_refl _,Keep.refl _ _,fun b k e=> .inr ⟨b,k,e,rfl⟩,fun _ h=>h,fun _ _ _=>rfl,fun _ k e _=>⟨k,e⟩⟩

theorem Post.trans {ρ ρ1 ρ2:Rho} {m m1 m2:Mem} {w w1 w2:World} (h:Post ρ ρ1 m m1 w w1) (k:Post ρ1 ρ2 m1 m2 w1 w2):Post ρ ρ2 m m2 w w2 where
 mem:=k.mem
 same b hb:=(k.same b (by have:=h.next; have:=k.next; omega)).trans (h.same b (by have:=h.next; have:=k.next; omega))
 next:=Nat.le_trans h.next k.next
 keep:=⟨Nat.le_trans h.keep.size k.keep.size,fun x hx hn=>(k.keep.block x (Nat.lt_of_lt_of_le hx h.keep.size) (fun ⟨b,l,hb,e⟩=>by
  subst e
  rcases h.live b l hb with h1 | h1
  ·omega
  ·exact hn h1)).trans (h.keep.block x hx hn),k.keep.env.1.trans h.keep.env.1,k.keep.env.2.1.trans h.keep.env.2.1,k.keep.env.2.2.trans h.keep.env.2.2⟩
 live b l hb:=by
  rcases k.live b l hb with h1 | ⟨c,l',hc,e⟩
  ·exact .inl (Nat.le_trans h.keep.size h1)
  ·rw [←e]; exact h.live c l' hc
 wr b hb:=k.wr b (h.wr b hb)
 old b hb hn:=(k.old b (Nat.lt_of_lt_of_le hb h.next) hn).trans (h.old b hb (fun h1=>hn (k.wr b h1)))
 was b l e hb:=by
  obtain ⟨l1,e1⟩:=k.was b l e (Nat.lt_of_lt_of_le hb h.next)
  exact h.was b l1 e1 hb

theorem Wid.trans {S:Nat→Prop} {m m1 m2:Mem} (h:m.next≤m1.next) (k:m1.next≤m2.next):∀ b,Wid (Wid S m m1) m1 m2 b→Wid S m m2 b:=by
 intro b hb
 rcases hb with (hb | hb) | hb
 ·exact .inl hb
 ·exact .inr ⟨hb.1,by omega⟩
 ·exact .inr ⟨by omega,hb.2⟩

end Go.Proofs.YtbdcjhoedhhabaaGreat

