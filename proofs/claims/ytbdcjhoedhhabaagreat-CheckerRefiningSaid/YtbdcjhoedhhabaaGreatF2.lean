/- Contracts of the functions that the statements reach, part 2. -/
import Derived.Test.YtbdcjhoedhhabaaGreatRows
import Derived.Deep.RegionHeld3
import Derived.Test.YtbdcjhoedhhabaaGreatF1
set_option linter.unusedSimpArgs false
set_option linter.unusedVariables false

/- The executor's tables: what is put is got. -/
namespace Go.Proofs.YtbdcjhoedhhabaaGreat
namespace Tr
variable {α:Type}

theorem get_nil (n:Nat):(Tr.nil:Tr α).get n=none:=rfl

/-- A case distinction on a number, by its parity. -/
theorem rec_odd {β:Type} (a c:β) (b:Nat→β→β) {n:Nat} (h:n % 2=1):Nat.rec (motive:=fun _=>β) a (fun _ _=>c) (Nat.mod n 2)=c:=by
 rw [show Nat.mod n 2=1 from h]; rfl

theorem rec_even {β:Type} (a c:β) {n:Nat} (h:n % 2=0):Nat.rec (motive:=fun _=>β) a (fun _ _=>c) (Nat.mod n 2)=a:=by
 rw [show Nat.mod n 2=0 from h]; rfl

theorem rec_pos {β:Type} (a c:β) {n:Nat} (h:n ≠ 0):Nat.rec (motive:=fun _=>β) a (fun _ _=>c) n=c:=by
 cases n with
 | zero=>exact absurd rfl h
 | succ n=>rfl

theorem get_odd (l:Tr α) (v:Option α) (r:Tr α) {n:Nat} (h:n % 2=1):(Tr.node l v r).get n=l.get (n / 2):=by
 show Nat.rec (motive:=fun _=>Option α) v (fun _ _=>Nat.rec (motive:=fun _=>Option α) (r.get (Nat.pred (Nat.div n 2))) (fun _ _=>l.get (Nat.div n 2)) (Nat.mod n 2)) n=_
 rw [rec_pos _ _ (by omega),rec_odd _ _ (fun _ x=>x) h]
 rfl

theorem get_even (l:Tr α) (v:Option α) (r:Tr α) {n:Nat} (h0:n ≠ 0) (h:n % 2=0):(Tr.node l v r).get n=r.get (n / 2 - 1):=by
 show Nat.rec (motive:=fun _=>Option α) v (fun _ _=>Nat.rec (motive:=fun _=>Option α) (r.get (Nat.pred (Nat.div n 2))) (fun _ _=>l.get (Nat.div n 2)) (Nat.mod n 2)) n=_
 rw [rec_pos _ _ h0,rec_even _ _ h]
 rfl

theorem sing_zero (k:Nat) (o:Option α):sing (k+1) 0 o = .node .nil o .nil:=rfl

theorem sing_odd (k:Nat) (o:Option α) {n:Nat} (h:n % 2=1):sing (k+1) n o = .node (sing k (n / 2) o) none .nil:=by
 show Nat.rec (motive:=fun _=>Tr α) (.node .nil o .nil) (fun _ _=>Nat.rec (motive:=fun _=>Tr α) (.node .nil none (sing k (Nat.pred (Nat.div n 2)) o)) (fun _ _=> .node (sing k (Nat.div n 2) o) none .nil) (Nat.mod n 2)) n=_
 rw [rec_pos _ _ (by omega),rec_odd _ _ (fun _ x=>x) h]
 rfl

theorem sing_even (k:Nat) (o:Option α) {n:Nat} (h0:n ≠ 0) (h:n % 2=0):sing (k+1) n o = .node .nil none (sing k (n / 2 - 1) o):=by
 show Nat.rec (motive:=fun _=>Tr α) (.node .nil o .nil) (fun _ _=>Nat.rec (motive:=fun _=>Tr α) (.node .nil none (sing k (Nat.pred (Nat.div n 2)) o)) (fun _ _=> .node (sing k (Nat.div n 2) o) none .nil) (Nat.mod n 2)) n=_
 rw [rec_pos _ _ h0,rec_even _ _ h]
 rfl

theorem put_zero (k:Nat) (l:Tr α) (v:Option α) (r:Tr α) (o:Option α):putF k (.node l v r) 0 o = .node l o r:=rfl

theorem put_odd (k:Nat) (l:Tr α) (v:Option α) (r:Tr α) (o:Option α) {n:Nat} (h:n % 2=1):putF k (.node l v r) n o = .node (putF k l (n / 2) o) v r:=by
 show Nat.rec (motive:=fun _=>Tr α) (.node l o r) (fun _ _=>Nat.rec (motive:=fun _=>Tr α) (.node l v (putF k r (Nat.pred (Nat.div n 2)) o)) (fun _ _=> .node (putF k l (Nat.div n 2) o) v r) (Nat.mod n 2)) n=_
 rw [rec_pos _ _ (by omega),rec_odd _ _ (fun _ x=>x) h]
 rfl

theorem put_even (k:Nat) (l:Tr α) (v:Option α) (r:Tr α) (o:Option α) {n:Nat} (h0:n ≠ 0) (h:n % 2=0):putF k (.node l v r) n o = .node l v (putF k r (n / 2 - 1) o):=by
 show Nat.rec (motive:=fun _=>Tr α) (.node l o r) (fun _ _=>Nat.rec (motive:=fun _=>Tr α) (.node l v (putF k r (Nat.pred (Nat.div n 2)) o)) (fun _ _=> .node (putF k l (Nat.div n 2) o) v r) (Nat.mod n 2)) n=_
 rw [rec_pos _ _ h0,rec_even _ _ h]
 rfl

theorem get_sing:∀ (k n:Nat) (o:Option α) (i:Nat),n<k→(sing k n o).get i=if i=n then o else none
 | 0,_,_,_,h=>by omega
 | k + 1, n, o, i, h => by
   rcases Nat.eq_zero_or_pos n with h0 | h0
   ·subst h0
    rw [sing_zero]
    by_cases hi:i=0
    ·rw [if_pos hi,hi]; rfl
    ·rw [if_neg hi]
     rcases Nat.mod_two_eq_zero_or_one i with h2 | h2
     ·rw [get_even _ _ _ hi h2,get_nil]
     ·rw [get_odd _ _ _ h2,get_nil]
   ·rcases Nat.mod_two_eq_zero_or_one n with hn | hn
    ·rw [sing_even k o (by omega) hn]
     by_cases hi:i=0
     ·subst hi; rw [if_neg (by omega)]; rfl
     ·rcases Nat.mod_two_eq_zero_or_one i with h2 | h2
      ·rw [get_even _ _ _ hi h2,get_sing k _ o _ (by omega)]
       by_cases hin:i=n
       ·rw [if_pos hin,if_pos (by omega)]
       ·rw [if_neg hin,if_neg (by omega)]
      ·rw [get_odd _ _ _ h2,get_nil,if_neg (by omega)]
    ·rw [sing_odd k o hn]
     by_cases hi:i=0
     ·subst hi; rw [if_neg (by omega)]; rfl
     ·rcases Nat.mod_two_eq_zero_or_one i with h2 | h2
      ·rw [get_even _ _ _ hi h2,get_nil,if_neg (by omega)]
      ·rw [get_odd _ _ _ h2,get_sing k _ o _ (by omega)]
       by_cases hin:i=n
       ·rw [if_pos hin,if_pos (by omega)]
       ·rw [if_neg hin,if_neg (by omega)]

theorem get_putF (k:Nat):∀ (t:Tr α) (n:Nat) (o:Option α) (i:Nat),n<k→(putF k t n o).get i=if i=n then o else t.get i
 | .nil, n, o, i, h => by
   rw [get_nil]
   exact get_sing k n o i h
 | .node l v r, n, o, i, h => by
   rcases Nat.eq_zero_or_pos n with h0 | h0
   ·subst h0
    rw [put_zero]
    by_cases hi:i=0
    ·rw [if_pos hi,hi]; rfl
    ·rw [if_neg hi]
     rcases Nat.mod_two_eq_zero_or_one i with h2 | h2
     ·rw [get_even _ _ _ hi h2,get_even _ _ _ hi h2]
     ·rw [get_odd _ _ _ h2,get_odd _ _ _ h2]
   ·rcases Nat.mod_two_eq_zero_or_one n with hn | hn
    ·rw [put_even k l v r o (by omega) hn]
     by_cases hi:i=0
     ·subst hi; rw [if_neg (by omega)]; rfl
     ·rcases Nat.mod_two_eq_zero_or_one i with h2 | h2
      ·rw [get_even _ _ _ hi h2,get_even _ _ _ hi h2,get_putF k r _ o _ (by omega)]
       by_cases hin:i=n
       ·rw [if_pos hin,if_pos (by omega)]
       ·rw [if_neg hin,if_neg (by omega)]
      ·rw [get_odd _ _ _ h2,get_odd _ _ _ h2,if_neg (by omega)]
    ·rw [put_odd k l v r o hn]
     by_cases hi:i=0
     ·subst hi; rw [if_neg (by omega)]; rfl
     ·rcases Nat.mod_two_eq_zero_or_one i with h2 | h2
      ·rw [get_even _ _ _ hi h2,get_even _ _ _ hi h2,if_neg (by omega)]
      ·rw [get_odd _ _ _ h2,get_odd _ _ _ h2,get_putF k l _ o _ (by omega)]
       by_cases hin:i=n
       ·rw [if_pos hin,if_pos (by omega)]
       ·rw [if_neg hin,if_neg (by omega)]

theorem get_put (t:Tr α) (n:Nat) (o:Option α) (i:Nat):(t.put n o).get i=if i=n then o else t.get i:=get_putF _ _ _ _ _ (by omega)

theorem alt_get:∀ (l:List α) (i:Nat),(alt l)[i]? = l[2*i]?
 | [],i=>by simp [alt]
 | [x],0=>rfl
 | [x],i+1=>by simp [alt]
 | x :: y :: l,0=>rfl
 | x :: y :: l, i + 1 => by
   rw [alt,List.getElem?_cons_succ,alt_get l i,show 2*(i+1)=2*i+1+1 by omega,List.getElem?_cons_succ,List.getElem?_cons_succ]

theorem alt_len:∀ (l:List α),(alt l).length≤l.length
 | []=>Nat.le_refl _
 | [_]=>Nat.le_refl _
 | x :: y :: l=>by have:=alt_len l; simp only [alt,List.length_cons]; omega

theorem get_build:∀ (k:Nat) (l:List α) (n:Nat),l.length≤k→(build k l).get n=l[n]?
 | 0, l, n, h => by
   have:l = []:=List.length_eq_zero_iff.1 (by omega)
   subst this
   simp [build,get_nil]
 | k+1,[],n,_=>by simp [build,get_nil]
 | k + 1, x :: l, n, h => by
   have hl:l.length≤k:=by simpa using h
   have a1:=alt_len l
   have a2:=alt_len l.tail
   have a3:l.tail.length≤l.length:=by simp
   rw [build]
   rcases Nat.eq_zero_or_pos n with h0 | h0
   ·subst h0; rfl
   ·rcases Nat.mod_two_eq_zero_or_one n with h2 | h2
    ·rw [get_even _ _ _ (by omega) h2,get_build k _ _ (by omega),alt_get]
     obtain ⟨j,rfl⟩:∃ j,n=j+1+1:=⟨n - 2,by omega⟩
     rw [List.getElem?_cons_succ,List.getElem?_tail]
     congr 1
     omega
    ·rw [get_odd _ _ _ h2,get_build k _ _ (by omega),alt_get]
     obtain ⟨j,rfl⟩:∃ j,n=j+1:=⟨n - 1,by omega⟩
     rw [List.getElem?_cons_succ]
     congr 1
     omega

end Tr
end Go.Proofs.YtbdcjhoedhhabaaGreat

/- The moves of a drawn region's walk, short: an operation that is off; an operation that yields a value. -/
namespace Go.Proofs.YtbdcjhoedhhabaaGreat
open Go
/-- The layout of a frame behind an operation, in one. -/
abbrev ly:=And.intro @List.getElem_toArray.{0} (And.intro @List.getElem_cons_succ.{0} (And.intro @List.getElem_cons_zero.{0} (And.intro @List.setIfInBounds_toArray.{0} (And.intro @List.set_cons_zero.{0} @List.set_cons_succ.{0}))))
section
variable {P:Program} {ops:Array Oper} {Q:Exit→Act→World→Prop} {md:Region.Mode} {S:World→Prop} {oi:Oper} {v:Value} {fuel:Nat} {listed:Array Bool} {a:Act} {w:World}
theorem offT (i:Nat) (hS:S w) (h:wpAnyH P md ops (NoPanic Q) S fuel (listed.setIfInBounds i true) (a.put oi.dst undef) w) (hi:ops[i]? = some oi:=by rfl) (hs:Region.noSelect ops=true:=by kernel_rfl) (hf:Region.free md ops listed i=true:=by kernel_rfl)
 (hr:(Region.ready md ops listed).contains i=true:=by kernel_rfl) (hy:YieldsIf P ops S oi undef a:=by exact Or.inr ⟨by kernel_rfl,rfl⟩):wpAnyH P md ops (NoPanic Q) S (fuel+1) listed a w:=
 wpAnyH_take hi hs hf hr (fun _ _ _ h=>h) hy hS h
theorem takeT (i:Nat) (hS:S w) (h:wpAnyH P md ops (NoPanic Q) S fuel (listed.setIfInBounds i true) (a.put oi.dst v) w) (hi:ops[i]? = some oi:=by rfl) (hy:YieldsIf P ops S oi v a:=by
 refine Or.inl ⟨by kernel_rfl,?_⟩
 intro w hSw
 (try dsimp only at hSw)
 first | (go_simp; done) | (go_simp; with_reducible rfl)) (hs:Region.noSelect ops=true:=by kernel_rfl) (hf:Region.free md ops listed i=true:=by kernel_rfl)
 (hr:(Region.ready md ops listed).contains i=true:=by kernel_rfl):wpAnyH P md ops (NoPanic Q) S (fuel+1) listed a w:=
 wpAnyH_take hi hs hf hr (fun _ _ _ h=>h) hy hS h
/-- As takeT, the condition out of the context. -/
theorem tk (i:Nat) (h:wpAnyH P md ops (NoPanic Q) S fuel (listed.setIfInBounds i true) (a.put oi.dst v) w) (hi:ops[i]? = some oi:=by rfl) (hy:YieldsIf P ops S oi v a:=by
 refine Or.inl ⟨by kernel_rfl,?_⟩
 intro w hSw
 (try dsimp only at hSw)
 first | (go_simp; done) | (go_simp; with_reducible rfl)) (hs:Region.noSelect ops=true:=by kernel_rfl) (hf:Region.free md ops listed i=true:=by kernel_rfl)
 (hr:(Region.ready md ops listed).contains i=true:=by kernel_rfl) (hS:S w:=by assumption):wpAnyH P md ops (NoPanic Q) S (fuel+1) listed a w:=
 wpAnyH_take hi hs hf hr (fun _ _ _ h=>h) hy hS h
/-- As offT, the condition out of the context. -/
theorem tkO (i:Nat) (h:wpAnyH P md ops (NoPanic Q) S fuel (listed.setIfInBounds i true) (a.put oi.dst undef) w) (hi:ops[i]? = some oi:=by rfl) (hs:Region.noSelect ops=true:=by kernel_rfl) (hf:Region.free md ops listed i=true:=by kernel_rfl)
 (hr:(Region.ready md ops listed).contains i=true:=by kernel_rfl) (hy:YieldsIf P ops S oi undef a:=by exact Or.inr ⟨by kernel_rfl,rfl⟩) (hS:S w:=by assumption):wpAnyH P md ops (NoPanic Q) S (fuel+1) listed a w:=
 wpAnyH_take hi hs hf hr (fun _ _ _ h=>h) hy hS h
end

/- A drawn region whose last operations overwrite cells that it has loaded: the condition on the world is asked only as long as one operation (the first of those stores) has not come up. -/

section
variable {P:Program} {ops:Array Oper} {Q:Exit→Act→World→Prop} {md:Region.Mode} {S:World→Prop} {k:Nat}

/-- Whatever order is picked, and S holds behind every operation until number k has come up. -/
def wpAnyK (P:Program) (md:Region.Mode) (ops:Array Oper) (Q:Exit→Act→World→Prop) (S:World→Prop) (k:Nat):Nat→Array Bool→Act→World→Prop
 | 0,listed,a,w=>Region.ready md ops listed = []∧Q .normal a w
 | fuel + 1, listed, a, w =>
   (Region.ready md ops listed = []→Q .normal a w)∧
   ∀ i∈Region.ready md ops listed,wpOp P ops Q i (fun a' w'=>((listed.setIfInBounds i true).getD k true=false→S w')∧wpAnyK P md ops Q S k fuel (listed.setIfInBounds i true) a' w') a w

theorem wpAny_of_K:∀ (fuel:Nat) (listed:Array Bool) (a:Act) (w:World),wpAnyK P md ops Q S k fuel listed a w→wpAny P md ops Q fuel listed a w
 | 0,_,_,_,h=>h
 | fuel+1,_,_,_,h=>⟨h.1,fun i hi=>wpOp_mono (fun a' w' h'=>wpAny_of_K fuel _ a' w' h'.2) (h.2 i hi)⟩

/-- Operation k waits for operation i. -/
def waitsB (md:Region.Mode) (ops:Array Oper) (k i:Nat):Bool:=
 match ops[k]? with
 | some o=>o.after.any (fun e=>Region.binds md e && e.on == i)
 | none=>false

theorem waits_not_ready {i:Nat} {listed:Array Bool} (h:waitsB md ops k i=true) (hr:i∈Region.ready md ops listed):k∉Region.ready md ops listed:=fun hk=>by
 obtain ⟨_,o,ho,hall⟩:=mem_ready.1 hk
 simp only [waitsB,ho,Array.any_eq_true,Bool.and_eq_true,beq_iff_eq] at h
 obtain ⟨n,hn,hb,he⟩:=h
 have h1:=hall _ (Array.getElem_mem hn) hb
 rw [he] at h1
 have h0:=(mem_ready.1 hr).1
 rcases Nat.lt_or_ge i listed.size with h' | h'
 ·simp [h'] at h0 h1; rw [h0] at h1; cases h1
 ·simp [Array.getElem?_eq_none h'] at h1

theorem wpAnyK_first {U:World→Prop} {i:Nat} {oi:Oper} {v:Value} (hi:ops[i]? = some oi) (hik:i ≠ k) (hsel:∀ (j:Nat) (o:Oper) cs b,ops[j]? = some o→o.op ≠ .select cs b)
 (hQ:∀ c a w,Q (.panic c) (a.put oi.dst v) w→Q (.panic c) a w) :
 ∀ (fuel : Nat) (listed : Array Bool) (a : Act) (w : World),
   (∀ j oj,ops[j]? = some oj→j ≠ i→listed.getD j true=false→(∀ e∈oj.after,Region.binds md e=true→e.on ≠ i)→oi.apart ops oj=true)→
   i∈Region.ready md ops listed→YieldsIf P ops U oi v a→(listed.getD k true=false→S w)→U w→
   ((∀ w,U w)∨(listed.getD k true=false∧waitsB md ops k i=true∧∀ w,S w→U w))→
   wpAnyK P md ops Q S k fuel (listed.setIfInBounds i true) (a.put oi.dst v) w→wpAnyK P md ops Q S k (fuel+1) listed a w:=by
 intro fuel
 induction fuel with
 | zero =>
   intro listed a w _ hr hy hS hU hk H
   refine ⟨fun h=>(by rw [h] at hr; cases hr),fun j hj=>?_⟩
   by_cases hji:j=i
   ·subst hji; exact hy.wpOp hi hU ⟨fun h=>hS (by rw [getD_set_ne true hik] at h; exact h),H⟩
   ·have:=ready_mono hj hji
    rw [H.1] at this
    cases this
 | succ fuel ih =>
   intro listed a w hfree hr hy hS hU hk H
   refine ⟨fun h=>(by rw [h] at hr; cases hr),fun j hj=>?_⟩
   by_cases hji:j=i
   ·subst hji; exact hy.wpOp hi hU ⟨fun h=>hS (by rw [getD_set_ne true hik] at h; exact h),H⟩
   ·have h1:=H.2 j (ready_mono hj hji)
    obtain ⟨hjun,oj,hoj,hall⟩:=mem_ready.1 hj
    have hnot:∀ e∈oj.after,Region.binds md e=true→e.on ≠ i:=fun e he hb heq=>by
     have h1:=hall e he hb
     have h0:=(mem_ready.1 hr).1
     rw [heq] at h1
     rcases Nat.lt_or_ge i listed.size with h' | h'
     ·simp [h'] at h0 h1; rw [h0] at h1; cases h1
     ·simp [Array.getElem?_eq_none h'] at h1
    have h2:=wpOp_putIf hoj (hfree j oj hoj hji hjun hnot) (fun cs b=>hsel i oi cs b hi) (fun cs b=>hsel j oj cs b hoj) hQ hy h1
    have hfree':∀ q oq,ops[q]? = some oq→q ≠ i→(listed.setIfInBounds j true).getD q true=false→
     (∀ e∈oq.after,Region.binds md e=true→e.on ≠ i)→oi.apart ops oq=true:=fun q oq hq hqi hun hno=>by
     refine hfree q oq hq hqi ?_ hno
     by_cases hjq:j=q
     ·subst hjq; exact hjun
     ·rw [getD_set_ne true hjq] at hun; exact hun
    have hsw:((listed.setIfInBounds i true).setIfInBounds j true)=((listed.setIfInBounds j true).setIfInBounds i true):=Array.setIfInBounds_comm _ _ (Ne.symm hji)
    refine wpOp_mono (fun a' w' h3=>?_) h2
    have hS':(listed.setIfInBounds j true).getD k true=false→S w':=fun h'=>h3.2.1 (by rw [hsw,getD_set_ne true hik]; exact h')
    refine ⟨hS',ih (listed.setIfInBounds j true) a' w' hfree' (ready_mono hr (Ne.symm hji)) h3.1 hS' ?_ ?_ (by rw [←hsw]; exact h3.2.2)⟩
    ·rcases hk with hk | ⟨hk1,hk2,hk3⟩
     ·exact hk w'
     ·exact hk3 w' (hS' (by rw [getD_set_ne (i:=j) (j:=k) true (fun e=>waits_not_ready hk2 hr (e ▸ hj))]; exact hk1))
    ·rcases hk with hk | ⟨hk1,hk2,hk3⟩
     ·exact .inl hk
     ·exact .inr ⟨by rw [getD_set_ne (i:=j) (j:=k) true (fun e=>waits_not_ready hk2 hr (e ▸ hj))]; exact hk1,hk2,hk3⟩

/-- Take number i, which the world's cells in S decide, first. -/
theorem wpAnyK_take {i:Nat} {oi:Oper} {v:Value} {fuel:Nat} {listed:Array Bool} {a:Act} {w:World} (hi:ops[i]? = some oi) (hik:(i == k)=false)
 (hs:Region.noSelect ops=true) (hf:Region.free md ops listed i=true) (hr:(Region.ready md ops listed).contains i=true) (hk:listed.getD k true=false) (hw:waitsB md ops k i=true)
 (hQ:∀ c a w,Q (.panic c) (a.put oi.dst v) w→Q (.panic c) a w) (hy:YieldsIf P ops S oi v a) (hS:S w)
 (h:wpAnyK P md ops Q S k fuel (listed.setIfInBounds i true) (a.put oi.dst v) w):wpAnyK P md ops Q S k (fuel+1) listed a w:=
 wpAnyK_first hi (by simpa using hik) (Region.noSelect_spec hs) hQ fuel listed a w (Region.free_spec hi hf) (by simpa using hr) hy (fun _=>hS) hS (.inr ⟨hk,hw,fun _ h=>h⟩) h

/-- Take number i, which yields in every world, first. -/
theorem wpAnyK_pure {i:Nat} {oi:Oper} {v:Value} {fuel:Nat} {listed:Array Bool} {a:Act} {w:World} (hi:ops[i]? = some oi) (hik:(i == k)=false)
 (hs:Region.noSelect ops=true) (hf:Region.free md ops listed i=true) (hr:(Region.ready md ops listed).contains i=true)
 (hQ:∀ c a w,Q (.panic c) (a.put oi.dst v) w→Q (.panic c) a w) (hy:YieldsIf P ops (fun _=>True) oi v a) (hS:listed.getD k true=false→S w)
 (h:wpAnyK P md ops Q S k fuel (listed.setIfInBounds i true) (a.put oi.dst v) w):wpAnyK P md ops Q S k (fuel+1) listed a w:=
 wpAnyK_first hi (by simpa using hik) (Region.noSelect_spec hs) hQ fuel listed a w (Region.free_spec hi hf) (by simpa using hr) hy hS trivial (.inl fun _=>trivial) h

theorem wpAnyK_done {listed:Array Bool} {a:Act} {w:World} (hr:Region.ready md ops listed = []) (h:Q .normal a w) :
 ∀ fuel,wpAnyK P md ops Q S k fuel listed a w
 | 0=>⟨hr,h⟩
 | _+1=>⟨fun _=>h,by rw [hr]; simp⟩

/-- Each of the operations rs comes up next. -/
def AllReadyK (P:Program) (md:Region.Mode) (ops:Array Oper) (Q:Exit→Act→World→Prop) (S:World→Prop) (k fuel:Nat) (listed:Array Bool) (a:Act) (w:World) (rs:List Nat):Prop:=
 ∀ i∈rs,wpOp P ops Q i (fun a' w'=>((listed.setIfInBounds i true).getD k true=false→S w')∧wpAnyK P md ops Q S k fuel (listed.setIfInBounds i true) a' w') a w
theorem AllReadyK.nil {fuel:Nat} {listed:Array Bool} {a:Act} {w:World}:AllReadyK P md ops Q S k fuel listed a w []:=fun _ h=>by cases h
/-- S is to be shown behind this one. -/
theorem AllReadyK.cons {fuel:Nat} {listed:Array Bool} {a:Act} {w:World} {i:Nat} {o:Oper} {rs:List Nat} (ho:ops[i]? = some o)
 (h:∀ K':Act→World→Prop,Shut (∀ a w,S w→(S w→wpAnyK P md ops Q S k fuel (listed.setIfInBounds i true) a w)→K' a w)→if Region.wanted o (yielded ops a.tmps)=true then Oper.wp P o a w K' Q else K' (a.put o.dst undef) w)
 (hs:AllReadyK P md ops Q S k fuel listed a w rs):AllReadyK P md ops Q S k fuel listed a w (i :: rs):=fun j hj=>by
 rcases List.mem_cons.1 hj with rfl | hj
 ·exact wpOp_step ho (fun K' hK=>h K' (fun a w hS hW=>hK a w ⟨fun _=>hS,hW hS⟩))
 ·exact hs j hj
/-- S is no more asked: k has come up, or comes up with this one. -/
theorem AllReadyK.last {fuel:Nat} {listed:Array Bool} {a:Act} {w:World} {i:Nat} {o:Oper} {rs:List Nat} (hk:(listed.setIfInBounds i true).getD k true=true) (ho:ops[i]? = some o)
 (h:∀ K':Act→World→Prop,Shut (∀ a w,wpAnyK P md ops Q S k fuel (listed.setIfInBounds i true) a w→K' a w)→if Region.wanted o (yielded ops a.tmps)=true then Oper.wp P o a w K' Q else K' (a.put o.dst undef) w)
 (hs:AllReadyK P md ops Q S k fuel listed a w rs):AllReadyK P md ops Q S k fuel listed a w (i :: rs):=fun j hj=>by
 rcases List.mem_cons.1 hj with rfl | hj
 ·exact wpOp_step ho (fun K' hK=>h K' (fun a w hW=>hK a w ⟨fun h=>(by rw [hk] at h; cases h),hW⟩))
 ·exact hs j hj
theorem wpAnyK_ready {rs:List Nat} {fuel:Nat} {listed:Array Bool} {a:Act} {w:World} (hr:Region.ready md ops listed=rs) (hne:rs ≠ [])
 (h:AllReadyK P md ops Q S k fuel listed a w rs):wpAnyK P md ops Q S k (fuel+1) listed a w:=⟨fun h0=>absurd (hr ▸ h0) hne,hr ▸ h⟩
/-- The beginning: S is shown of the world behind the draw, once, and handed on. -/
theorem wp_region_heldK {id:Nat} {a:Act} {w:World} (hm:P.follows .mixedOrders=true) (hS:S w.drew)
 (h:S w.drew→wpAnyK P .any ops Q S k ops.size (Array.replicate ops.size false) a w.drew):(Code.region id ops true).wp P Q a w:=
 wp_region_any hm (wpAny_of_K _ _ _ _ (h hS))
end
section
variable {P:Program} {ops:Array Oper} {Q:Exit→Act→World→Prop} {md:Region.Mode} {S:World→Prop} {k:Nat} {oi:Oper} {v:Value} {fuel:Nat} {listed:Array Bool} {a:Act} {w:World}
/-- wpAnyK_take, its side conditions by computation. -/
theorem tkK (i:Nat) (h:wpAnyK P md ops (NoPanic Q) S k fuel (listed.setIfInBounds i true) (a.put oi.dst v) w) (hi:ops[i]? = some oi:=by rfl) (hy:YieldsIf P ops S oi v a:=by
 refine Or.inl ⟨by kernel_rfl,?_⟩
 intro w hSw
 (try dsimp only at hSw)
 first | (go_simp; done) | (go_simp; with_reducible rfl)) (hik:(i == k)=false:=by kernel_rfl)
 (hs:Region.noSelect ops=true:=by kernel_rfl) (hf:Region.free md ops listed i=true:=by kernel_rfl) (hr:(Region.ready md ops listed).contains i=true:=by kernel_rfl)
 (hk:listed.getD k true=false:=by kernel_rfl) (hw:waitsB md ops k i=true:=by kernel_rfl) (hS:S w:=by assumption):wpAnyK P md ops (NoPanic Q) S k (fuel+1) listed a w:=
 wpAnyK_take hi hik hs hf hr hk hw (fun _ _ _ h=>h) hy hS h
/-- wpAnyK_pure, its side conditions by computation. -/
theorem puK (i:Nat) (h:wpAnyK P md ops (NoPanic Q) S k fuel (listed.setIfInBounds i true) (a.put oi.dst v) w) (hi:ops[i]? = some oi:=by rfl) (hy:YieldsIf P ops (fun _=>True) oi v a:=by
 refine Or.inl ⟨by kernel_rfl,?_⟩
 intro w _
 first | (go_simp; done) | (go_simp; with_reducible rfl)) (hik:(i == k)=false:=by kernel_rfl)
 (hs:Region.noSelect ops=true:=by kernel_rfl) (hf:Region.free md ops listed i=true:=by kernel_rfl) (hr:(Region.ready md ops listed).contains i=true:=by kernel_rfl)
 (hS:listed.getD k true=false→S w:=by first | exact fun _=>by assumption | exact fun h=>absurd h (by decide)):wpAnyK P md ops (NoPanic Q) S k (fuel+1) listed a w:=
 wpAnyK_pure hi hik hs hf hr (fun _ _ _ h=>h) hy hS h
end
end Go.Proofs.YtbdcjhoedhhabaaGreat

