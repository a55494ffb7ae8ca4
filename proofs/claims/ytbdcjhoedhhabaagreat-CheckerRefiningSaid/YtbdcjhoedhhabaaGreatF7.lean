/- Contracts of the functions that the statements reach, part 7. -/
import Derived.Test.YtbdcjhoedhhabaaGreatF6
set_option linter.unusedSimpArgs false
set_option linter.unusedVariables false

/- The executor's operations, one by one: maps. -/
namespace Go.Proofs.YtbdcjhoedhhabaaGreat
set_option linter.unusedSectionVars false
open Go.RowKit

theorem plain_same {T:Tabs} {t:Nat} {x y:AV} (ρ:Rho) (h:eqPlain T t x y=some true):x.conc ρ=y.conc ρ∧Instr.sameBits 9999 (x.conc ρ) (y.conc ρ)=true∧Instr.sameBits 10000 (x.conc ρ) (y.conc ρ)=true:=by
 unfold eqPlain at h
 split at h
 ·rename_i k j a k' c hu
  cases hk:kindEq j k' with
  | false=>rw [hk] at h; cases h
  | true =>
    rw [hk] at h
    injection h with h
    have:=kindEq_of hk
    subst this
    rw [ieq_eq] at h
    have:=eq_of_beq h
    subst this
    simp [AV.conc,Instr.sameBits]
 ·injection h with h
  have:=eq_of_beq h
  subst this
  simp [AV.conc,Instr.sameBits]
 ·rename_i a c hu
  injection h with h
  have h:=eq_of_beq h
  have:a=c:=by
   obtain ⟨⟨a⟩⟩:=a
   obtain ⟨⟨c⟩⟩:=c
   simp only at h
   rw [h]
  subst this
  simp [AV.conc,Instr.sameBits,beq_toListBytes]
 ·cases h

theorem elems_same {T:Tabs} {e:Nat} (ρ:Rho) {xs ys:List AV}:∀ {n i:Nat},eqElems T e xs ys n i=some true→xs.length=i+n→ys.length=i+n→
 (xs.drop i).map (AV.conc ρ)=(ys.drop i).map (AV.conc ρ)∧∀ p∈((xs.drop i).map (AV.conc ρ)).zip ((ys.drop i).map (AV.conc ρ)),Instr.sameBits 9999 p.1 p.2=true
 | 0, i, _, h1, h2 => by
   rw [List.drop_of_length_le (by omega),List.drop_of_length_le (by omega)]
   exact ⟨rfl,fun p hp=>by cases hp⟩
 | n + 1, i, h, h1, h2 => by
   rw [eqElems] at h
   split at h
   ·rename_i x y hx hy
    split at h
    ·rename_i hb
     obtain ⟨k1,k2⟩:=elems_same (T:=T) (e:=e) ρ h (by omega) (by omega)
     obtain ⟨s1,s2,_⟩:=plain_same ρ hb
     have d1:xs.drop i=x :: xs.drop (i+1):=by
      rw [List.drop_eq_getElem_cons (by omega)]
      congr 1
      exact (List.getElem?_eq_some_iff.1 hx).2
     have d2:ys.drop i=y :: ys.drop (i+1):=by
      rw [List.drop_eq_getElem_cons (by omega)]
      congr 1
      exact (List.getElem?_eq_some_iff.1 hy).2
     rw [d1,d2,List.map_cons,List.map_cons,s1,k1]
     refine ⟨rfl,fun p hp=>?_⟩
     rw [List.zip_cons_cons] at hp
     rcases List.mem_cons.1 hp with rfl | hp
     ·rw [s1] at s2; exact s2
     ·rw [k1] at k2; exact k2 p hp
    ·rename_i hb
     exact (hb h).elim
   ·cases h

section
variable {T:Tabs} {P:Program} (H:TabsOk T P) {ρ:Rho} {w:World}

theorem keyEq_arr {t:Nat} {xs ys:List AV} {b:Bool} (h:keyEq T t (.agg xs) (.agg ys)=some b):∃ n e i,T.un t=some (.array n e)∧T.ty.get e=some i∧i.size=1∧xs.length=n∧ys.length=n∧eqElems T e xs ys n 0=some b:=by
 unfold keyEq at h
 simp only at h
 split at h
 ·rename_i n e hu
  split at h
  ·rename_i hs
   obtain ⟨i,hi,hsz⟩:=sizeA_sound hs
   cases hl:(Nat.beq xs.length n && Nat.beq ys.length n) with
   | false=>rw [hl] at h; cases h
   | true =>
     rw [hl] at h
     simp only [Bool.and_eq_true] at hl
     exact ⟨n,e,i,hu,hi,hsz,Nat.eq_of_beq_eq_true hl.1,Nat.eq_of_beq_eq_true hl.2,h⟩
  ·cases h
 ·cases h

theorem keyEq_plain {t:Nat} {x y:AV} {b:Bool} (h:keyEq T t x y=some b) (hx:∀ xs ys,x = .agg xs→y = .agg ys→False):eqPlain T t x y=some b:=by
 unfold keyEq at h
 split at h
 ·exact (hx _ _ rfl rfl).elim
 ·exact h

theorem key_cases {t:Nat} {x y:AV} {b:Bool} (h:keyEq T t x y=some b):(∃ xs ys,x = .agg xs∧y = .agg ys)∨eqPlain T t x y=some b:=by
 by_cases hx:∃ xs ys,x = .agg xs∧y = .agg ys
 ·exact .inl hx
 ·exact .inr (keyEq_plain h fun xs ys e1 e2=>hx ⟨xs,ys,e1,e2⟩)

theorem key_same {t:Nat} {x y:AV} (ρ:Rho) (h:keyEq T t x y=some true):x.conc ρ=y.conc ρ∧Instr.sameBits 10000 (x.conc ρ) (y.conc ρ)=true:=by
 rcases key_cases h with ⟨xs,ys,rfl,rfl⟩ | hp
 ·obtain ⟨n,e,i,hu,hi,hs,h1,h2,he⟩:=keyEq_arr h
  obtain ⟨k1,k2⟩:=elems_same ρ he (by omega) (by omega)
  simp only [List.drop_zero] at k1 k2
  refine ⟨by rw [AV.conc,AV.conc,concs_eq,concs_eq,k1],?_⟩
  rw [AV.conc,AV.conc,Instr.sameBits,concs_eq,concs_eq]
  simp only [Bool.and_eq_true,List.all_eq_true]
  refine ⟨by simp [h1,h2],fun p hp=>?_⟩
  exact k2 p hp
 ·obtain ⟨h1,_,h2⟩:=plain_same ρ hp
  exact ⟨h1,h2⟩

include H

theorem key_equal {t:Nat} {x y:AV} {b:Bool} (h:keyEq T t x y=some b):(Op.equal t (x.conc ρ) (y.conc ρ)).run P w = .ok b w:=by
 rcases key_cases h with ⟨xs,ys,rfl,rfl⟩ | hp
 ·obtain ⟨n,e,i,hu,hi,hs,h1,h2,he⟩:=keyEq_arr h
  show (Op.equalIn (9999+1) t (.agg (concs ρ xs).toArray) (.agg (concs ρ ys).toArray)).run P w=_
  have hc:P.cellsOf e=1:=by unfold Program.cellsOf; rw [H.ty e i hi]; exact hs
  rw [run_equalIn_array w 9999 _ _ (H.un hu) (H.ty e i hi),hc,List.range_eq_range']
  exact eqElems_sound H 9998 he
 ·exact (eqPlain_sound H hp 9999).2

theorem key_now {t:Nat} {d:TypeDesc} (hd:P.underlying t=some d) {x y:AV} {b:Bool} (h:keyEq T t x y=some b):Instr.sameNow d (x.conc ρ) (y.conc ρ)=none∨Instr.sameNow d (x.conc ρ) (y.conc ρ)=some b:=by
 rcases key_cases h with ⟨xs,ys,rfl,rfl⟩ | hp
 ·left; cases d <;> rfl
 ·right
  unfold eqPlain at hp
  split at hp
  ·rename_i k j a k' c hu
   rw [H.un hu] at hd
   injection hd with hd
   subst hd
   cases hk:kindEq j k' with
   | false=>rw [hk] at hp; cases hp
   | true =>
     rw [hk] at hp
     injection hp with hp
     subst hp
     have:=kindEq_of hk
     subst this
     simp [AV.conc,Instr.sameNow,ieq_eq]
  ·rename_i hu
   rw [H.un hu] at hd
   injection hd with hd
   subst hd
   injection hp with hp
   subst hp
   rfl
  ·rename_i hu
   rw [H.un hu] at hd
   injection hd with hd
   subst hd
   injection hp with hp
   subst hp
   simp only [AV.conc,Instr.sameNow]
   rw [beq_toListBytes,toList_bytes,toList_bytes]
  ·cases hp

/-- What a search finds, as the model has it. -/
def concFound (ρ:Rho) (o:Option (Nat×AV×Nat)):Option (Nat×Value):=o.map fun p=>(p.1,p.2.1.conc ρ)

theorem findNow_sound {t:Nat} {d:TypeDesc} (hd:P.underlying t=some d) {k:AV}:∀ {es:List (AV×AV×Nat)} {i:Nat} {res:Option (Nat×AV×Nat)},findA T t k es i=some res→
 Instr.findNow d (k.conc ρ) (es.map (entryOf ρ)) i=none∨Instr.findNow d (k.conc ρ) (es.map (entryOf ρ)) i=some (concFound ρ res)
 | [],i,res,h=>by injection h with h; subst h; exact .inr rfl
 | (x, v, n) :: es, i, res, h => by
   rw [findA] at h
   rw [List.map_cons,Instr.findNow]
   split at h
   ·rename_i hk
    injection h with h
    subst h
    rcases key_now H (ρ:=ρ) hd hk with e | e
    ·left; simp only [entryOf,e]
    ·right; simp only [entryOf,e]; rfl
   ·rename_i hk
    rcases key_now H (ρ:=ρ) hd hk with e | e
    ·left; simp only [entryOf,e]
    ·simp only [entryOf,e]
     exact findNow_sound hd h
   ·cases h

theorem findAsking_sound {t:Nat} {k:AV}:∀ {es:List (AV×AV×Nat)} {i:Nat} {res:Option (Nat×AV×Nat)},findA T t k es i=some res→
 (Instr.findAsking t (k.conc ρ) (es.map (entryOf ρ)) i).run P w = .ok (concFound ρ res) w
 | [],i,res,h=>by injection h with h; subst h; rfl
 | (x, v, n) :: es, i, res, h => by
   rw [findA] at h
   rw [List.map_cons,Instr.findAsking]
   split at h
   ·rename_i hk
    injection h with h
    subst h
    rw [Sem.run_bind]
    simp only [entryOf]
    rw [key_equal H hk]
    rfl
   ·rename_i hk
    rw [Sem.run_bind]
    simp only [entryOf]
    rw [key_equal H hk]
    exact findAsking_sound h
   ·cases h

theorem findKey_sound {t:Nat} {d:TypeDesc} (hd:P.underlying t=some d) {k:AV} {es:List (AV×AV×Nat)} {res:Option (Nat×AV×Nat)} (h:findA T t k es 0=some res) :
 (Instr.findKey t (k.conc ρ) (es.map (entryOf ρ))).run P w = .ok (concFound ρ res) w:=by
 unfold Instr.findKey
 rw [Sem.run_bind,run_underlying hd,Result.andThen_ok]
 rcases findNow_sound H (ρ:=ρ) hd h with e | e
 ·rw [e]; exact findAsking_sound H h
 ·rw [e]; rfl

theorem entA_spec {t:Nat} {k:AV} {es:List (AV×AV×Nat)} {res:Option (Nat×AV×Nat)} (h:entA T t k es=some res):keyEq T t k k=some true∧findA T t k es 0=some res:=by
 unfold entA at h
 split at h
 ·rename_i hk; exact ⟨hk,h⟩
 ·cases h

theorem check_plain {t:Nat} {x y:AV} {b:Bool} (h:eqPlain T t x y=some b) (em:Bool) (d:Nat):(Instr.checkKey em (d+1) t (x.conc ρ)).run P w = .ok () w:=by
 unfold eqPlain at h
 split at h
 ·rename_i hu; rw [Instr.checkKey,Sem.run_bind,run_underlying (H.un hu)]; rfl
 ·rename_i hu; rw [Instr.checkKey,Sem.run_bind,run_underlying (H.un hu)]; rfl
 ·rename_i hu; rw [Instr.checkKey,Sem.run_bind,run_underlying (H.un hu)]; rfl
 ·cases h

theorem check_elems {e:Nat} {i:TypeInfo} (hi:T.ty.get e=some i) (hs:i.size=1) {xs:List AV} (em:Bool) (d:Nat):∀ {n j:Nat},eqElems T e xs xs n j=some true→
 (forIn (List.range' j n) PUnit.unit (fun k (_:PUnit)=>do Instr.checkKey em (d+1) e (←part e (concs ρ xs).toArray (k*(←sizeOf e))); pure (ForInStep.yield PUnit.unit)):Sem PUnit).run P w = .ok PUnit.unit w
 | 0,j,_=>rfl
 | n + 1, j, h => by
   rw [eqElems] at h
   split at h
   ·rename_i x y hx hy
    split at h
    ·rename_i hb
     rw [List.range'_succ,List.forIn_cons,Sem.run_bind,Sem.run_bind,H.size hi,Result.andThen_ok,hs,Nat.mul_one,Sem.run_bind,part_plain H hb hx,Result.andThen_ok,Sem.run_bind,check_plain H hb]
     exact check_elems hi hs em d h
    ·rename_i hb; exact (hb h).elim
   ·cases h

theorem checkKey_sound {t:Nat} {k:AV} (h:keyEq T t k k=some true) (em:Bool):(Instr.checkKey em 10000 t (k.conc ρ)).run P w = .ok () w:=by
 rcases key_cases h with ⟨xs,ys,rfl,e⟩ | hp
 ·obtain ⟨n,e,i,hu,hi,hs,h1,h2,he⟩:=keyEq_arr h
  show (Instr.checkKey em (9998+1+1) t (.agg (concs ρ xs).toArray)).run P w=_
  rw [Instr.checkKey,Sem.run_bind,run_underlying (H.un hu),Result.andThen_ok]
  simp only [Std.Legacy.Range.forIn_eq_forIn_range',Std.Legacy.Range.size,Nat.sub_zero,Nat.add_one_sub_one,Nat.div_one]
  have:=check_elems H (ρ:=ρ) (w:=w) hi hs em 9998 he
  rw [Sem.run_bind,this]
  rfl
 ·exact check_plain H hp em 9999

end

theorem born_get (ρ:Rho):∀ {es:List (AV×AV×Nat)} {T:Tabs} {t:Nat} {k:AV} {i j:Nat} {v:AV} {n:Nat},findA T t k es i=some (some (j,v,n))→
 ∃ x,es[j - i]? = some (x,v,n)∧i≤j∧keyEq T t k x=some true
 | (x, u, n') :: es, T, t, k, i, j, v, n, h => by
   rw [findA] at h
   split at h
   ·rename_i hk
    injection h with h
    injection h with h
    injection h with h1 h2
    injection h2 with h2 h3
    subst h1; subst h2; subst h3
    exact ⟨x,by simp,Nat.le_refl _,hk⟩
   ·obtain ⟨y,h1,h2,h3⟩:=born_get ρ h
    refine ⟨y,?_,by omega,h3⟩
    rw [show j - i=(j - (i+1))+1 by omega,List.getElem?_cons_succ]
    exact h1
   ·cases h

theorem setEntry_eq (ρ:Rho):∀ (es:List (AV×AV×Nat)) (i:Nat) (k v:AV),(setEntry es i k v).map (entryOf ρ)=(es.map (entryOf ρ)).modify i fun e=>{ e with key:=k.conc ρ,val:=v.conc ρ }
 | [],i,k,v=>by cases i <;> rfl
 | (x,u,n) :: es,0,k,v=>rfl
 | e :: es, i + 1, k, v => by
   rw [setEntry,List.map_cons,setEntry_eq ρ es i k v,List.map_cons,List.modify_succ_cons]

theorem setEntry_sup {S:Nat→Prop}:∀ {es:List (AV×AV×Nat)} {i:Nat} {k v:AV},(∀ e∈es,e.1.sup S∧e.2.1.sup S)→k.sup S→v.sup S→∀ e∈setEntry es i k v,e.1.sup S∧e.2.1.sup S
 | [],_,_,_,_,_,_,e,he=>by cases he
 | (x, u, n) :: es, 0, k, v, h, hk, hv, e, he => by
   rcases List.mem_cons.1 he with rfl | he
   ·exact ⟨hk,hv⟩
   ·exact h e (List.mem_cons_of_mem _ he)
 | x :: es, i + 1, k, v, h, hk, hv, e, he => by
   rcases List.mem_cons.1 he with rfl | he
   ·exact h _ List.mem_cons_self
   ·exact setEntry_sup (fun y hy=>h y (List.mem_cons_of_mem _ hy)) hk hv e he

theorem setBorn_spec (ρ:Rho):∀ {es es':List (AV×AV×Nat)} {n:Nat} {v:AV},setBorn es n v=some es'→
 ∃ i,(es.map (entryOf ρ)).findIdx? (fun e=>(e.born:Int) == (n:Int))=some i∧es'.map (entryOf ρ)=(es.map (entryOf ρ)).modify i fun e=>{ e with val:=v.conc ρ }
 | (k, x, n') :: es, es', n, v, h => by
   rw [setBorn] at h
   cases hb:Nat.beq n' n with
   | true =>
     rw [hb] at h
     injection h with h
     subst h
     have:=Nat.eq_of_beq_eq_true hb
     subst this
     exact ⟨0,by rw [List.map_cons,List.findIdx?_cons]; simp [entryOf],rfl⟩
   | false =>
     rw [hb] at h
     simp only [cond_false,Option.map_eq_some_iff] at h
     obtain ⟨es1,h1,rfl⟩:=h
     obtain ⟨i,h2,h3⟩:=setBorn_spec ρ h1
     have hne:=Nat.ne_of_beq_eq_false hb
     refine ⟨i+1,?_,by rw [List.map_cons,List.map_cons,h3,List.modify_succ_cons]⟩
     rw [List.map_cons,List.findIdx?_cons]
     have:(((entryOf ρ (k,x,n')).born:Int) == (n:Int))=false:=by simp [entryOf]; omega
     rw [this,h2]
     rfl

theorem setBorn_sup {S:Nat→Prop}:∀ {es es':List (AV×AV×Nat)} {n:Nat} {v:AV},setBorn es n v=some es'→(∀ e∈es,e.1.sup S∧e.2.1.sup S)→v.sup S→∀ e∈es',e.1.sup S∧e.2.1.sup S
 | (k, x, n') :: es, es', n, v, h, hs, hv => by
   rw [setBorn] at h
   cases hb:Nat.beq n' n with
   | true =>
     rw [hb] at h
     injection h with h
     subst h
     intro e he
     rcases List.mem_cons.1 he with rfl | he
     ·exact ⟨(hs _ List.mem_cons_self).1,hv⟩
     ·exact hs e (List.mem_cons_of_mem _ he)
   | false =>
     rw [hb] at h
     simp only [cond_false,Option.map_eq_some_iff] at h
     obtain ⟨es1,h1,rfl⟩:=h
     intro e he
     rcases List.mem_cons.1 he with rfl | he
     ·exact hs _ List.mem_cons_self
     ·exact setBorn_sup h1 (fun y hy=>hs y (List.mem_cons_of_mem _ hy)) hv e he

theorem mapOf_spec {m:Mem} {b:Nat} {p:List (AV×AV×Nat)×Nat} (h:mapOf m b=some p):m.blks.get b=some (.map p.1 p.2):=by
 unfold mapOf at h
 split at h
 ·rename_i es c e; injection h with h; subst h; exact e
 ·cases h

section
variable {T:Tabs} {P:Program} {ρ:Rho} {m:Mem} {w:World} (hm:MemOk ρ m w)
include hm

theorem getObj_run {b:Nat} {es:List (AV×AV×Nat)} {c:Nat} (h:m.blks.get b=some (.map es c)):(getObj (ρ b).addr).run P w = .ok (.map (es.map (entryOf ρ)).toArray c) w:=by
 have:=hm.ok b _ h
 unfold BlkOk at this
 simp only [getObj,Sem.run,this]

/-- A map is written: the world. -/
theorem setMap_run {b:Nat} {es:List (AV×AV×Nat)} {c:Nat} (h:m.blks.get b=some (.map es c)) (es':List (AV×AV×Nat)) (c':Nat) (hs:∀ e∈es',e.1.sup (fun b=>b<m.next)∧e.2.1.sup (fun b=>b<m.next)) :
 ∃ w',(setObj (ρ b).addr (.map (es'.map (entryOf ρ)).toArray c')).run P w = .ok () w'∧Post ρ ρ m (m.set b (some (.map es' c'))) w w':=by
 have hk:=hm.ok b _ h
 have hlt:=hk.lt
 unfold BlkOk at hk
 refine ⟨{ w with heap:=w.heap.setIfInBounds (ρ b).addr (.map (es'.map (entryOf ρ)).toArray c') },?_,?_⟩
 ·simp only [setObj,Sem.run,hk]
 ·refine post_set hm h _ (fun k' hk'=>?_) ⟨by simp,fun x hx hne=>?_,rfl,rfl,rfl⟩
  ·injection hk' with hk'
   subst hk'
   refine ⟨hs,?_⟩
   show _=_
   simp [hlt]
  ·simp only
   rw [Array.getElem?_setIfInBounds_ne (fun e=>hne e.symm)]

theorem setMap_sup {S:Nat→Prop} (hS:MSup S m) {b:Nat} {es':List (AV×AV×Nat)} {c':Nat} (hs:∀ e∈es',e.1.sup S∧e.2.1.sup S):MSup (Wid S m (m.set b (some (.map es' c')))) (m.set b (some (.map es' c'))):=by
 intro d k e
 simp only [Mem.set,Tr.get_put] at e
 split at e
 ·injection e with e
  subst e
  exact fun e he=>⟨sup_mono (fun _ h=> .inl h) _ (hs e he).1,sup_mono (fun _ h=> .inl h) _ (hs e he).2⟩
 ·exact Blk.sup_mono (fun _ h=> .inl h) (hS d k e)

end
end Go.Proofs.YtbdcjhoedhhabaaGreat

/- The executor's operations, one by one: maps (the operations). -/
namespace Go.Proofs.YtbdcjhoedhhabaaGreat
set_option linter.unusedSectionVars false
open Go.RowKit

theorem key_un {T:Tabs} {t:Nat} {k:AV} (h:keyEq T t k k=some true):∃ d,T.un t=some d:=by
 rcases key_cases h with ⟨xs,ys,rfl,_⟩ | hp
 ·obtain ⟨n,e,i,hu,_⟩:=keyEq_arr h
  exact ⟨_,hu⟩
 ·unfold eqPlain at hp
  split at hp
  ·rename_i hu _ _; exact ⟨_,by assumption⟩
  ·exact ⟨_,by assumption⟩
  ·exact ⟨_,by assumption⟩
  ·cases hp

theorem mapTy_spec {T:Tabs} {t k e:Nat} (h:mapTy T t=some (k,e)):T.un t=some (.map k e):=by
 unfold mapTy at h
 split at h
 ·rename_i hu; injection h with h; injection h with h1 h2; subst h1; subst h2; exact hu
 ·cases h

section
variable {T:Tabs} {P:Program} (H:TabsOk T P) {ρ:Rho} {N:Nat} {r:Regs} {m:Mem} {a:Act} {w:World} (hr:RegOk ρ N r a) (hm:MemOk ρ m w) {o:Oper} {e:Eff}
include H hr hm

theorem lookup_sound {t:Nat} {x k:Operand} {ok:Bool} (ho:o.op = .lookup t x k ok) (h:opA T r m (.lookup t x k ok)=some e):Does ρ r m w ((execOp a.eval o).run P w) e:=by
 simp only [opA,opLookup] at h
 split at h
 ·rename_i kt et b kv ht hx hk
  have hu:=H.un (mapTy_spec ht)
  split at h
  ·rename_i es c hes
   have hb:=mapOf_spec hes
   have hrun:∀ res,entA T kt kv es=some res→∀ q:Value,
    ((match concFound ρ res with | some (_,v)=>(pure (v,true):Sem (Value×Bool)) | none=>do pure (←zeroValue et,false)) >>= fun (v,f)=>pure (if ok then Value.tuple #[v, .bool f] else v)).run P w = .ok q w→
    (execOp a.eval o).run P w = .ok (.value q) w:=by
    intro res hres q hq
    obtain ⟨hk1,hk2⟩:=entA_spec H hres
    obtain ⟨d,hd⟩:=key_un hk1
    simp only [execOp,ho,hr.ev hx,hr.ev hk,AV.conc]
    rw [Sem.run_bind]
    unfold Instr.lookup
    rw [Sem.run_bind,run_underlying hu,Result.andThen_ok]
    simp only [Sem.run_bind,getObj_run hm hb,Result.andThen_ok,Sem.run_pure,checkKey_sound H hk1,findKey_sound H (H.un hd) hk2]
    rw [Sem.run_bind] at hq
    cases res with
    | some p=>simp only [concFound,Option.map_some,Sem.run_pure,Result.andThen_ok] at hq ⊢; injection hq with hq; subst hq; cases ok <;> rfl
    | none =>
      simp only [concFound,Option.map_none,Sem.run_bind] at hq ⊢
      generalize (zeroValue et).run P w=zr at hq ⊢
      cases zr with
      | ok z w1=>simp only [Result.andThen_ok,Sem.run_pure] at hq ⊢; injection hq with h1 h2; rw [h1,h2]
      | halt h w1=>cases hq
   split at h
   ·rename_i i v n hent
    injection h with h
    subst h
    obtain ⟨hk1,hk2⟩:=entA_spec H hent
    obtain ⟨y,hy,_,_⟩:=born_get ρ hk2
    refine Does.pure hm (hrun _ hent _ ?_) fun S h1 h2=>?_
    ·cases ok <;> rfl
    ·have:=(h2 b _ hb _ (List.mem_of_getElem? hy)).2
     cases ok
     ·exact this
     ·exact ⟨this,trivial,trivial⟩
   ·rename_i hent
    simp only [Option.map_eq_some_iff] at h
    obtain ⟨z,hz,rfl⟩:=h
    refine Does.pure hm (hrun _ hent _ ?_) fun S h1 h2=>?_
    ·simp only [concFound,Option.map_none]
     rw [Sem.run_bind,Sem.run_bind,H.zero_run ρ hz w]
     cases ok <;> rfl
    ·have:=zero_sup (S:=S) hr hm hz
     cases ok
     ·exact this
     ·exact ⟨this,trivial,trivial⟩
   ·cases h
  ·cases h
 ·cases h

theorem mapUpdate_sound (hs:RSup (fun b=>b<m.next) r) {t:Nat} {x k v:Operand} (ho:o.op = .mapUpdate t x k v) (h:opA T r m (.mapUpdate t x k v)=some e):Does ρ r m w ((execOp a.eval o).run P w) e:=by
 simp only [opA,opMapUpdate] at h
 split at h
 ·rename_i kt et b kv vv ht hx hk hv
  have hu:=H.un (mapTy_spec ht)
  split at h
  ·rename_i es c hes
   have hb:=mapOf_spec hes
   have pre:∀ res,entA T kt kv es=some res→∀ (w':World) (es':List (AV×AV×Nat)) (c':Nat),
    (match res with | some (i,_,_)=>es'.map (entryOf ρ)=(es.map (entryOf ρ)).modify i (fun e=>{ e with key:=kv.conc ρ,val:=vv.conc ρ })∧c'=c | none=>es'=es ++ [(kv,vv,c)]∧c'=c+1)→
    (setObj (ρ b).addr (.map (es'.map (entryOf ρ)).toArray c')).run P w = .ok () w'→
    (execOp a.eval o).run P w = .ok .skip w':=by
    intro res hres w' es' c' hres' hset
    obtain ⟨hk1,hk2⟩:=entA_spec H hres
    obtain ⟨d,hd⟩:=key_un hk1
    simp only [execOp,ho,hr.ev hx,hr.ev hk,hr.ev hv,AV.conc]
    rw [Sem.run_bind]
    unfold Instr.mapUpdate
    rw [Sem.run_bind,run_underlying hu,Result.andThen_ok]
    simp only [Sem.run_bind,getObj_run hm hb,Result.andThen_ok,checkKey_sound H hk1,findKey_sound H (H.un hd) hk2]
    cases res with
    | some p =>
      obtain ⟨i,u,n⟩:=p
      obtain ⟨y,hy,_,hky⟩:=born_get ρ hk2
      obtain ⟨he,rfl⟩:=hres'
      have hg:(es.map (entryOf ρ)).toArray[i]? = some (entryOf ρ (y,u,n)):=by
       rw [List.getElem?_toArray,List.getElem?_map]
       rw [Nat.sub_zero] at hy
       rw [hy]; rfl
      obtain ⟨k1,k2⟩:=key_same ρ hky
      simp only [concFound,Option.map_some,Sem.run_bind,hg,Option.getD_some,entryOf]
      have hst:(Instr.keyThatStays (y.conc ρ) (kv.conc ρ)).run P w = .ok (kv.conc ρ) w:=by
       unfold Instr.keyThatStays
       rw [←k1] at k2 ⊢
       rw [if_pos k2]
       rfl
      rw [hst,Result.andThen_ok]
      have harr:(es.map (entryOf ρ)).toArray.modify i (fun e=>{ e with key:=kv.conc ρ,val:=vv.conc ρ })=(es'.map (entryOf ρ)).toArray:=by
       apply Array.ext'
       rw [Array.toList_modify,he]
      rw [harr]
      rw [hset]
      rfl
    | none =>
      obtain ⟨rfl,rfl⟩:=hres'
      simp only [concFound,Option.map_none]
      have harr:(es.map (entryOf ρ)).toArray.push { key:=kv.conc ρ,val:=vv.conc ρ,born:=c }=((es ++ [(kv,vv,c)]).map (entryOf ρ)).toArray:=by
       simp [entryOf]
      rw [harr,hset]
      rfl
   have hold:=fun S (h2:MSup S m)=>(show ∀ e∈es,e.1.sup S∧e.2.1.sup S from h2 b _ hb)
   split at h
   ·rename_i i v' n hent
    injection h with h
    subst h
    obtain ⟨w',hw1,hw2⟩:=setMap_run (P:=P) hm hb (setEntry es i kv vv) c (setEntry_sup (hold _ hm.sup) (evA_sup hs hk) (evA_sup hs hv))
    exact ⟨ρ,w',pre _ hent w' _ c ⟨setEntry_eq ρ es i kv vv,rfl⟩ hw1,hw2,fun S h1 h2=>setMap_sup hm h2 (setEntry_sup (hold S h2) (evA_sup h1 hk) (evA_sup h1 hv))⟩
   ·rename_i hent
    injection h with h
    subst h
    have hsup:∀ S,RSup S r→MSup S m→∀ e∈es ++ [(kv,vv,c)],e.1.sup S∧e.2.1.sup S:=by
     intro S h1 h2 e he
     rcases List.mem_append.1 he with he | he
     ·exact hold S h2 e he
     ·simp only [List.mem_singleton] at he
      subst he
      exact ⟨evA_sup h1 hk,evA_sup h1 hv⟩
    obtain ⟨w',hw1,hw2⟩:=setMap_run (P:=P) hm hb (es ++ [(kv,vv,c)]) (c+1) (hsup _ hs hm.sup)
    exact ⟨ρ,w',pre _ hent w' _ (c+1) ⟨rfl,rfl⟩ hw1,hw2,fun S h1 h2=>setMap_sup hm h2 (hsup S h1 h2)⟩
   ·cases h
  ·cases h
 ·cases h

theorem mapEntry_sound (hs:RSup (fun b=>b<m.next) r) {t:Nat} {x k:Operand} (ho:o.op = .mapEntry t x k) (h:opA T r m (.mapEntry t x k)=some e):Does ρ r m w ((execOp a.eval o).run P w) e:=by
 simp only [opA,opMapEntry] at h
 split at h
 ·rename_i kt et b kv ht hx hk
  have hu:=H.un (mapTy_spec ht)
  split at h
  ·rename_i es c hes
   have hb:=mapOf_spec hes
   have hold:=fun S (h2:MSup S m)=>(show ∀ e∈es,e.1.sup S∧e.2.1.sup S from h2 b _ hb)
   split at h
   ·rename_i i v n hent
    injection h with h
    subst h
    obtain ⟨hk1,hk2⟩:=entA_spec H hent
    obtain ⟨d,hd⟩:=key_un hk1
    obtain ⟨y,hy,_,hky⟩:=born_get ρ hk2
    rw [Nat.sub_zero] at hy
    have hv:∀ S,MSup S m→v.sup S:=fun S h2=>(hold S h2 _ (List.mem_of_getElem? hy)).2
    obtain ⟨w',hw1,hw2⟩:=setMap_run (P:=P) hm hb (setEntry es i kv v) c (setEntry_sup (hold _ hm.sup) (evA_sup hs hk) (hv _ hm.sup))
    refine ⟨ρ,w',?_,hw2,fun S h1 h2=>⟨setMap_sup hm h2 (setEntry_sup (hold S h2) (evA_sup h1 hk) (hv S h2)),sup_mono (fun _ h=> .inl h) v (hv S h2),trivial,trivial⟩⟩
    have hg:(es.map (entryOf ρ)).toArray[i]? = some (entryOf ρ (y,v,n)):=by
     rw [List.getElem?_toArray,List.getElem?_map,hy]; rfl
    obtain ⟨k1,k2⟩:=key_same ρ hky
    have hst:(Instr.keyThatStays (y.conc ρ) (kv.conc ρ)).run P w = .ok (kv.conc ρ) w:=by
     unfold Instr.keyThatStays
     rw [←k1] at k2 ⊢
     rw [if_pos k2]
     rfl
    have harr:(es.map (entryOf ρ)).toArray.modify i (fun e=>{ e with key:=kv.conc ρ })=((setEntry es i kv v).map (entryOf ρ)).toArray:=by
     apply Array.ext'
     rw [Array.toList_modify,setEntry_eq]
     apply List.ext_getElem?
     intro j
     rw [List.getElem?_modify,List.getElem?_modify]
     by_cases hij:i=j
     ·subst hij
      simp only [if_true,List.getElem?_map,hy,Option.map_some,entryOf]
      rfl
     ·simp only [hij,if_false]
    simp only [execOp,ho,hr.ev hx,hr.ev hk,AV.conc]
    rw [Sem.run_bind]
    unfold Instr.mapEntry
    rw [Sem.run_bind,run_underlying hu,Result.andThen_ok]
    simp only [Sem.run_bind,getObj_run hm hb,Result.andThen_ok,checkKey_sound H hk1,findKey_sound H (H.un hd) hk2]
    simp only [concFound,Option.map_some,Sem.run_bind,hg,Option.getD_some,entryOf]
    rw [hst,Result.andThen_ok,harr,hw1,Result.andThen_ok]
    rfl
   ·rename_i hent
    simp only [Option.map_eq_some_iff] at h
    obtain ⟨z,hz,rfl⟩:=h
    obtain ⟨hk1,hk2⟩:=entA_spec H hent
    obtain ⟨d,hd⟩:=key_un hk1
    have hzs:∀ S,z.sup S:=fun S=>zero_sup (S:=S) hr hm hz
    have hsup:∀ S,RSup S r→MSup S m→∀ e∈es ++ [(kv,z,c)],e.1.sup S∧e.2.1.sup S:=by
     intro S h1 h2 e he
     rcases List.mem_append.1 he with he | he
     ·exact hold S h2 e he
     ·simp only [List.mem_singleton] at he
      subst he
      exact ⟨evA_sup h1 hk,hzs S⟩
    obtain ⟨w',hw1,hw2⟩:=setMap_run (P:=P) hm hb (es ++ [(kv,z,c)]) (c+1) (hsup _ hs hm.sup)
    refine ⟨ρ,w',?_,hw2,fun S h1 h2=>⟨setMap_sup hm h2 (hsup S h1 h2),hzs _,trivial,trivial⟩⟩
    have harr:(es.map (entryOf ρ)).toArray.push { key:=kv.conc ρ,val:=z.conc ρ,born:=c }=((es ++ [(kv,z,c)]).map (entryOf ρ)).toArray:=by
     simp [entryOf]
    simp only [execOp,ho,hr.ev hx,hr.ev hk,AV.conc]
    rw [Sem.run_bind]
    unfold Instr.mapEntry
    rw [Sem.run_bind,run_underlying hu,Result.andThen_ok]
    simp only [Sem.run_bind,getObj_run hm hb,Result.andThen_ok,checkKey_sound H hk1,findKey_sound H (H.un hd) hk2]
    simp only [concFound,Option.map_none,Sem.run_bind,H.zero_run ρ hz w,Result.andThen_ok]
    rw [harr,hw1,Result.andThen_ok]
    rfl
   ·cases h
  ·cases h
 ·cases h

omit H in
theorem entryStore_sound (hs:RSup (fun b=>b<m.next) r) {t:Nat} {x s v:Operand} (ho:o.op = .entryStore t x s v) (h:opA T r m (.entryStore t x s v)=some e):Does ρ r m w ((execOp a.eval o).run P w) e:=by
 simp only [opA,opEntryStore] at h
 split at h
 ·rename_i b k n vv hx hn hv
  split at h
  ·rename_i es c hes
   have hb:=mapOf_spec hes
   have hold:=fun S (h2:MSup S m)=>(show ∀ e∈es,e.1.sup S∧e.2.1.sup S from h2 b _ hb)
   simp only [Option.map_eq_some_iff] at h
   obtain ⟨es',he',rfl⟩:=h
   obtain ⟨i,hi,hmod⟩:=setBorn_spec ρ he'
   obtain ⟨w',hw1,hw2⟩:=setMap_run (P:=P) hm hb es' c (setBorn_sup he' (hold _ hm.sup) (evA_sup hs hv))
   refine ⟨ρ,w',?_,hw2,fun S h1 h2=>setMap_sup hm h2 (setBorn_sup he' (hold S h2) (evA_sup h1 hv))⟩
   have harr:(es.map (entryOf ρ)).toArray.modify i (fun e=>{ e with val:=vv.conc ρ })=(es'.map (entryOf ρ)).toArray:=by
    apply Array.ext'
    rw [Array.toList_modify,hmod]
   simp only [execOp,ho,hr.ev hx,hr.ev hn,hr.ev hv,AV.conc]
   rw [Sem.run_bind]
   unfold Instr.entryStore
   simp only [Sem.run_bind,getObj_run hm hb,Result.andThen_ok,asInt,asIntOf_run,Sem.run_pure]
   rw [List.findIdx?_toArray]
   simp only [Int.ofNat_eq_natCast]
   rw [hi]
   simp only
   rw [harr,hw1,Result.andThen_ok]
  ·cases h
 ·cases h

end
end Go.Proofs.YtbdcjhoedhhabaaGreat

