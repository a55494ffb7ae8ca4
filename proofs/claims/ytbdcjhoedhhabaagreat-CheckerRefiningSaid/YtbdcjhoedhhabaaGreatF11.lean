/- Contracts of the functions that the statements reach, part 11. -/
import Derived.Scope
import Derived.Test.YtbdcjhoedhhabaaGreatF10
set_option linter.unusedSimpArgs false
set_option linter.unusedVariables false

/- The executor is sound: what it says of a closed run, the program does. -/
namespace Go.Proofs.YtbdcjhoedhhabaaGreat
set_option linter.unusedSectionVars false
open Go.RowKit

def Ek.out:Ek→Exit
 | .norm=> .normal
 | .exit id=> .exit id
 | .ret=> .ret

/-- A loop that is known to end, by a number that falls. -/
theorem wp_loop_down {P:Program} {Q:Exit→Act→World→Prop} {c:Code} (I:Nat→Act→World→Prop)
 (round:∀ n a w,I n a w→c.wp P (Exit.then (fun a' w'=>∃ n',n'<n∧I n' a' w') Q) a w) {n:Nat} {a:Act} {w:World} (h0:I n a w):(Code.loop c).wp P Q a w:=by
 intro b k cs
 have key:∀ n a w,I n a w→∃ e a' w',Q e a' w'∧Arrives P (lone (b.at a (.code c :: .inLoop c :: k)) cs w) b k cs e a' w':=by
  intro n
  induction n using Nat.strongRecOn with
  | _ n ih =>
    intro a w hI
    obtain ⟨e,a₁,w₁,hq,harr⟩:=round n a w hI b (.inLoop c :: k) cs
    cases e with
    | normal =>
      obtain ⟨n',hlt,hI₁⟩:=hq
      obtain ⟨e₂,a₂,w₂,hq₂,harr₂⟩:=ih n' hlt a₁ w₁ hI₁
      exact ⟨e₂,a₂,w₂,hq₂, .of_steps (Steps.trans harr (.one step_inLoop)) harr₂⟩
    | exit id=>exact ⟨_,a₁,w₁,hq, .pass (x:= .inLoop c) rfl (fun _ _=> .inl (by simp)) harr⟩
    | goto l=>exact ⟨_,a₁,w₁,hq, .pass (x:= .inLoop c) rfl (fun _ _=> .inl (by simp)) harr⟩
    | ret=>exact ⟨_,a₁,w₁,hq, .pass (x:= .inLoop c) rfl (fun _ _=> .inl (by simp)) harr⟩
    | panic ch=>exact ⟨_,a₁,w₁,hq, .pass (x:= .inLoop c) rfl (fun _ _=> .inl (by simp)) harr⟩
    | outgrown=>exact ⟨_,a₁,w₁,hq, .pass (x:= .inLoop c) rfl (fun _ _=> .inl (by simp)) harr⟩
 obtain ⟨e,a',w',hq,harr⟩:=key n a w h0
 exact ⟨e,a',w',hq, .of_steps (.one step_loop) harr⟩

section
variable {T:Tabs} {P:Program} (H:TabsOk T P) {call:CallA} (hc:CallsOk T P call) (hmix:P.follows .mixedOrders=true)
include H hc hmix

/-- A piece of code, from registers and memory to others. -/
def CodeOk (P:Program) (N:Nat) (c:Code) (r:Regs) (m:Mem) (ek:Ek) (r':Regs) (m':Mem):Prop:=
 ∀ (ρ : Rho) (a : Act) (w : World), RegOk ρ N r a → MemOk ρ m w → RSup (fun b => b < m.next) r → ∀ (Q : Exit → Act → World → Prop),
   (∀ ρ' a' w',RegOk ρ' N r' a'→After ρ ρ' m m' w w' r r'→Q ek.out a' w')→c.wp P Q a w

omit H hc hmix in
theorem loopA_sound {N:Nat} {c:Code} {body:Regs→Mem→Option (Ek×Regs×Mem)} (hb:∀ r m ek r' m',body r m=some (ek,r',m')→CodeOk P N c r m ek r' m') {n:Nat} {r:Regs} {m:Mem} {ek:Ek} {r':Regs} {m':Mem}
 (h:loopA body n r m=some (ek,r',m')):CodeOk P N (.loop c) r m ek r' m':=by
 intro ρ a w hr hm hs Q hQ
 refine wp_loop_down (fun n a1 w1=>∃ r1 m1 ρ1,loopA body n r1 m1=some (ek,r',m')∧RegOk ρ1 N r1 a1∧MemOk ρ1 m1 w1∧RSup (fun b=>b<m1.next) r1∧After ρ ρ1 m m1 w w1 r r1) ?_ (n:=n) ⟨r,m,ρ,h,hr,hm,hs,After.refl hm⟩
 rintro n a1 w1 ⟨r1,m1,ρ1,h1,h2,h3,h4,h5⟩
 cases n with
 | zero=>cases h1
 | succ n =>
   rw [loopA] at h1
   cases hbd:body r1 m1 with
   | none=>rw [hbd] at h1; cases h1
   | some q =>
     obtain ⟨ek2,r2,m2⟩:=q
     rw [hbd] at h1
     refine hb r1 m1 ek2 r2 m2 hbd _ _ _ h2 h3 h4 _ fun ρ' a' w' k1 k2=>?_
     cases ek2 with
     | norm =>
       simp only at h1
       exact ⟨n,Nat.lt_succ_self n,r2,m2,ρ',h1,k1,k2.1.mem,k2.rsup h4 h3,h5.trans k2⟩
     | exit id =>
       injection h1 with h1
       injection h1 with e1 e2
       injection e2 with e2 e3
       subst e1; subst e2; subst e3
       exact hQ ρ' a' w' k1 (h5.trans k2)
     | ret =>
       injection h1 with h1
       injection h1 with e1 e2
       injection e2 with e2 e3
       subst e1; subst e2; subst e3
       exact hQ ρ' a' w' k1 (h5.trans k2)

theorem codeA_sound {N:Nat}:∀ (c:Code) {r:Regs} {m:Mem} {ek:Ek} {r':Regs} {m':Mem},codeA T call N c r m=some (ek,r',m')→CodeOk P N c r m ek r' m'
 | .skip, r, m, ek, r', m', h => by
   intro ρ a w hr hm hs Q hQ
   rw [codeA] at h
   injection h with h
   injection h with e1 e2
   injection e2 with e2 e3
   subst e1; subst e2; subst e3
   exact wp_skip (hQ ρ a w hr (After.refl hm))
 | .label l, r, m, ek, r', m', h => by
   intro ρ a w hr hm hs Q hQ
   rw [codeA] at h
   injection h with h
   injection h with e1 e2
   injection e2 with e2 e3
   subst e1; subst e2; subst e3
   exact wp_label (hQ ρ a w hr (After.refl hm))
 | .exit id, r, m, ek, r', m', h => by
   intro ρ a w hr hm hs Q hQ
   rw [codeA] at h
   injection h with h
   injection h with e1 e2
   injection e2 with e2 e3
   subst e1; subst e2; subst e3
   exact wp_exit (hQ ρ a w hr (After.refl hm))
 | .ret, r, m, ek, r', m', h => by
   intro ρ a w hr hm hs Q hQ
   rw [codeA] at h
   injection h with h
   injection h with e1 e2
   injection e2 with e2 e3
   subst e1; subst e2; subst e3
   exact wp_ret (hQ ρ a w hr (After.refl hm))
 | .region id ops false, r, m, ek, r', m', h => by
   intro ρ a w hr hm hs Q hQ
   rw [codeA] at h
   simp only [Option.map_eq_some_iff] at h
   obtain ⟨⟨r1,m1⟩,h1,h2⟩:=h
   injection h2 with e1 e2
   injection e2 with e2 e3
   subst e1; subst e2; subst e3
   refine wp_region ?_
   rw [List.range_eq_range']
   have:=opsA_sound H hc (ops:=ops) (l:=ops.toList) (k:=0) (Q:=Q) rfl h1 hr hm hs hQ
   rw [Array.length_toList] at this
   exact this
 | .region id ops true, r, m, ek, r', m', h => by
   intro ρ a w hr hm hs Q hQ
   rw [codeA] at h
   cases hreg:regA ops ops.toList 0 (ancL ops.toList []) [] with
   | false=>rw [hreg] at h; cases h
   | true =>
     rw [hreg] at h
     simp only [cond_true,Option.map_eq_some_iff] at h
     obtain ⟨⟨r1,m1⟩,h1,h2⟩:=h
     injection h2 with e1 e2
     injection e2 with e2 e3
     subst e1; subst e2; subst e3
     exact drawnA_sound H hc hreg h1 hmix hr hm hs hQ
 | .seq x y, r, m, ek, r', m', h => by
   intro ρ a w hr hm hs Q hQ
   rw [codeA] at h
   cases hx:codeA T call N x r m with
   | none=>rw [hx] at h; cases h
   | some q =>
     obtain ⟨ek1,r1,m1⟩:=q
     rw [hx] at h
     refine wp_seq (codeA_sound x hx _ _ _ hr hm hs _ fun ρ1 a1 w1 k1 k2=>?_)
     cases ek1 with
     | norm =>
       simp only at h
       exact codeA_sound y h _ _ _ k1 k2.1.mem (k2.rsup hs hm) _ fun ρ2 a2 w2 l1 l2=>hQ ρ2 a2 w2 l1 (k2.trans l2)
     | exit id =>
       injection h with h
       injection h with e1 e2
       injection e2 with e2 e3
       subst e1; subst e2; subst e3
       exact hQ ρ1 a1 w1 k1 k2
     | ret =>
       injection h with h
       injection h with e1 e2
       injection e2 with e2 e3
       subst e1; subst e2; subst e3
       exact hQ ρ1 a1 w1 k1 k2
 | .cond c x y, r, m, ek, r', m', h => by
   intro ρ a w hr hm hs Q hQ
   rw [codeA] at h
   split at h
   ·rename_i hcv
    exact wp_cond_true (by rw [hr.ev hcv]; rfl) (codeA_sound x h _ _ _ hr hm hs _ hQ)
   ·rename_i hcv
    exact wp_cond_false (by rw [hr.ev hcv]; rfl) (codeA_sound y h _ _ _ hr hm hs _ hQ)
   ·cases h
 | .block id c, r, m, ek, r', m', h => by
   intro ρ a w hr hm hs Q hQ
   rw [codeA] at h
   cases hx:codeA T call N c r m with
   | none=>rw [hx] at h; cases h
   | some q =>
     obtain ⟨ek1,r1,m1⟩:=q
     rw [hx] at h
     refine wp_block (codeA_sound c hx _ _ _ hr hm hs _ fun ρ1 a1 w1 k1 k2=>?_)
     cases ek1 with
     | norm =>
       injection h with h
       injection h with e1 e2
       injection e2 with e2 e3
       subst e1; subst e2; subst e3
       exact hQ ρ1 a1 w1 k1 k2
     | exit i =>
       simp only at h
       cases hb:Nat.beq i id with
       | true =>
         rw [hb] at h
         injection h with h
         injection h with e1 e2
         injection e2 with e2 e3
         subst e1; subst e2; subst e3
         show Exit.inBlock id Q (.exit i) a1 w1
         rw [Exit.inBlock,if_pos (Nat.eq_of_beq_eq_true hb)]
         exact hQ ρ1 a1 w1 k1 k2
       | false =>
         rw [hb] at h
         injection h with h
         injection h with e1 e2
         injection e2 with e2 e3
         subst e1; subst e2; subst e3
         show Exit.inBlock id Q (.exit i) a1 w1
         rw [Exit.inBlock,if_neg (Nat.ne_of_beq_eq_false hb)]
         exact hQ ρ1 a1 w1 k1 k2
     | ret =>
       injection h with h
       injection h with e1 e2
       injection e2 with e2 e3
       subst e1; subst e2; subst e3
       exact hQ ρ1 a1 w1 k1 k2
 | .loop c, r, m, ek, r', m', h => by
   rw [codeA] at h
   exact loopA_sound (body:=codeA T call N c) (fun r m ek r' m' hb=>codeA_sound c hb) h
 | .scope c, r, m, ek, r', m', h => by
   intro ρ a w hr hm hs Q hQ
   rw [codeA] at h
   refine wp_scope_straight (codeA_sound c h _ _ _ hr hm hs _ fun ρ1 a1 w1 k1 k2=>?_)
   have:=hQ ρ1 a1 w1 k1 k2
   cases ek <;> exact this
 | .rangeFunc ..,r,m,ek,r',m',h=>by rw [codeA] at h; cases h; all_goals simp
 | .goto _,r,m,ek,r',m',h=>by rw [codeA] at h; cases h; all_goals simp
 | .refuse _,r,m,ek,r',m',h=>by rw [codeA] at h; cases h; all_goals simp

omit H hc hmix in
theorem valA_sound (ρ:Rho) (vs:List AV):(if h:(concs ρ vs).toArray.size=1 then (concs ρ vs).toArray[0] else .tuple (concs ρ vs).toArray)=(valA vs).conc ρ:=by
 cases vs with
 | nil=>rfl
 | cons v vs =>
   cases vs with
   | nil=>simp [concs,valA]
   | cons u vs =>
     rw [dif_neg (by simp [concs])]
     rfl

omit hc hmix in
theorem resA_sound {N:Nat} {ρ:Rho} {r:Regs} {m:Mem} {a:Act} {w:World} (hr:RegOk ρ N r a) (hm:MemOk ρ m w):∀ {l:List ResultVar} {vs:List AV},resA T r m l=some vs→
 (l.mapM fun x=>(match x with | .tmp t=>pure (a.tmps.getD t undef) | .cell c t=>do loadVar t (←asAddr (a.tmps.getD c undef)):Sem Value)).run P w = .ok (concs ρ vs) w∧∀ S,RSup S r→MSup S m→sups S vs
 | [],vs,h=>by injection h with h; subst h; exact ⟨rfl,fun _ _ _=>trivial⟩
 | .tmp t :: l, vs, h => by
   rw [resA] at h
   simp only [Option.map_eq_some_iff] at h
   obtain ⟨us,hu,rfl⟩:=h
   obtain ⟨h1,h2⟩:=resA_sound hr hm hu
   refine ⟨?_,fun S s1 s2=>⟨s1 t,h2 S s1 s2⟩⟩
   rw [List.mapM_cons,Sem.run_bind]
   simp only [Sem.run_pure,Result.andThen_ok,Sem.run_bind,h1,hr.at_ t]
   rfl
 | .cell c t :: l, vs, h => by
   rw [resA] at h
   split at h
   ·rename_i b off hb
    simp only [Option.bind_eq_some_iff,Option.map_eq_some_iff] at h
    obtain ⟨v,hv,us,hu,rfl⟩:=h
    obtain ⟨h1,h2⟩:=resA_sound hr hm hu
    refine ⟨?_,fun S s1 s2=>⟨loadA_sup hr hm s2 hv,h2 S s1 s2⟩⟩
    have e0:(asAddr (a.tmps.getD c undef)).run P w = .ok ⟨(ρ b).addr,off+(ρ b).shift,none⟩ w:=by rw [hr.at_ c,hb]; rfl
    rw [List.mapM_cons,Sem.run_bind]
    simp only [Sem.run_bind,e0,Result.andThen_ok,loadA_sound H hr hm hv,h1,Sem.run_pure]
    rfl
   ·cases h

omit H hc hmix in
theorem oldA_mem {n b:Nat}:∀ {w l:List Nat},b∈oldA n w l↔(b∈w∧b<n)∨b∈l
 | [],l=>by simp [oldA]
 | c :: w, l => by
   rw [oldA]
   cases hb:Nat.blt c n with
   | true =>
     have hlt:c<n:=Nat.le_of_ble_eq_true hb
     rw [cond_true,List.mem_cons,oldA_mem (w:=w),List.mem_cons]
     constructor
     ·rintro (rfl | (⟨h1,h2⟩ | h))
      ·exact .inl ⟨.inl rfl,hlt⟩
      ·exact .inl ⟨.inr h1,h2⟩
      ·exact .inr h
     ·rintro (⟨rfl | h1,h2⟩ | h)
      ·exact .inl rfl
      ·exact .inr (.inl ⟨h1,h2⟩)
      ·exact .inr (.inr h)
   | false =>
     have hlt:¬ c<n:=fun h=>by rw [show Nat.blt c n=true from Nat.ble_eq_true_of_le h] at hb; cases hb
     rw [cond_false,oldA_mem (w:=w),List.mem_cons]
     constructor
     ·rintro (⟨h1,h2⟩ | h)
      ·exact .inl ⟨.inr h1,h2⟩
      ·exact .inr h
     ·rintro (⟨rfl | h1,h2⟩ | h)
      ·exact absurd h2 hlt
      ·exact .inl ⟨h1,h2⟩
      ·exact .inr h

omit H hc hmix in
theorem ofList_get:∀ (vs:List AV) (n:Nat) (t:Regs) (i:Nat),(Tr.ofList n vs t).get i=if n≤i∧i<n+vs.length then vs[i - n]? else t.get i
 | [],n,t,i=>by rw [Tr.ofList,if_neg (by simp)]
 | v :: vs, n, t, i => by
   rw [Tr.ofList,ofList_get vs (n+1),Tr.get_put]
   simp only [List.length_cons]
   by_cases h:i=n
   ·subst h
    rw [if_neg (by omega),if_pos rfl,if_pos (by omega),Nat.sub_self]
    rfl
   ·rw [if_neg h]
    by_cases h2:n+1≤i∧i<n+1+vs.length
    ·rw [if_pos h2,if_pos (by omega),show i - n=(i - (n+1))+1 by omega,List.getElem?_cons_succ]
    ·rw [if_neg h2,if_neg (by omega)]

end

theorem callA_sound {T:Tabs} {P:Program} (H:TabsOk T P) (hmix:P.follows .mixedOrders=true):∀ n,CallsOk T P (callA T n)
 | 0=>fun f vs m v m' h=>by cases h
 | n + 1 => fun f vs m v m' h => by
   have ih:=callA_sound H hmix n
   rw [callA] at h
   cases hf:T.fn.get f with
   | none=>rw [hf] at h; cases h
   | some fn =>
     rw [hf] at h
     simp only at h
     cases hbody:fn.body with
     | none=>rw [hbody] at h; cases h
     | some c =>
       rw [hbody] at h
       simp only at h
       cases hlen:Nat.ble vs.length fn.ntmps with
       | false=>rw [hlen] at h; cases h
       | true =>
         rw [hlen] at h
         simp only [cond_true] at h
         have hlen:=Nat.le_of_ble_eq_true hlen
         refine ⟨⟨fn,c,rfl,hbody⟩,fun ρ w hsv hm=>?_⟩
         generalize hm0:({ m with wr:=[] }:Mem)=m0 at h
         have hb0:m0.blks=m.blks:=by rw [←hm0]
         have hn0:m0.next=m.next:=by rw [←hm0]
         have hw0:m0.wr = []:=by rw [←hm0]
         have hm1:MemOk ρ m0 w:=by rw [←hm0]; exact ⟨hm.lt,hm.ok,hm.sup,hm.one⟩
         have hat:∀ t,Regs.at (Tr.ofList 0 vs .nil) t=(vs[t]?).getD .undef:=by
          intro t
          unfold Regs.at
          rw [ofList_get]
          by_cases ht:t<vs.length
          ·rw [if_pos ⟨Nat.zero_le _,by omega⟩,Nat.sub_zero]
          ·rw [if_neg (by omega),List.getElem?_eq_none (by omega)]
           rfl
         have hr:RegOk ρ fn.ntmps (Tr.ofList 0 vs .nil) { tmps:=(concs ρ vs).toArray ++ Array.replicate (fn.ntmps - (concs ρ vs).toArray.size) undef,defers:=[] }:=by
          refine ⟨by simp [concs_len]; omega,rfl,fun t=>?_⟩
          rw [hat,Array.getD_eq_getD_getElem?,Array.getElem?_append]
          simp only [List.size_toArray,concs_len]
          by_cases ht:t<vs.length
          ·rw [if_pos ht,List.getElem?_toArray,concs_at,List.getElem?_eq_getElem ht]
           rfl
          ·rw [if_neg ht,List.getElem?_eq_none (by omega:vs.length≤t),Option.getD_none,conc_undef]
           rw [Array.getElem?_replicate]
           split <;> rfl
         have hrs:∀ S,sups S vs→RSup S (Tr.ofList 0 vs .nil):=by
          intro S hS t
          rw [hat]
          cases hv:vs[t]? with
          | none=>trivial
          | some u=>exact sups_mem hS u (List.mem_of_getElem? hv)
         -- behind the body
         have fin:∀ {r:Regs} {p:Mem} {us:List AV} {ρ':Rho} {a':Act} {w':World},resA T r p fn.results.toList=some us→RegOk ρ' fn.ntmps r a'→After ρ ρ' m0 p w w' (Tr.ofList 0 vs .nil) r→valA us=v→({ p with wr:=oldA m.next p.wr m.wr }:Mem)=m'→
          a'.defers = []∧∃ q,(results fn a'.tmps).run P w' = .ok q w'∧∃ ρ',Ending.returned q = .returned (v.conc ρ')∧Post ρ ρ' m m' w w'∧∀ S,sups S vs→MSup S m→MSup (Wid S m m') m'∧v.sup (Wid S m m'):=by
          intro r p us ρ' a' w' hres k1 k2 hv hm'
          obtain ⟨q1,q2⟩:=resA_sound H k1 k2.1.mem hres
          refine ⟨k1.none,v.conc ρ',?_,ρ',rfl,?_,fun S s1 s2=>?_⟩
          ·unfold results
           rw [Sem.run_bind,Array.mapM_eq_mapM_toList]
           simp only [Sem.run_map]
           refine Eq.trans (congrArg (fun z:Result (List Value)=>(z.andThen fun a w'=>Result.ok a.toArray w').andThen fun a w'=>Sem.run P (pure (if h:a.size=1 then a[0] else Value.tuple a)) w') q1) ?_
           rw [←hv,← valA_sound ρ' us]
           rfl
          ·subst hm'
           obtain ⟨⟨p1,p2,p3,p4,p5,p6,p7,p8⟩,_⟩:=k2
           refine ⟨⟨p1.lt,p1.ok,p1.sup,p1.one⟩,fun b hb=>p2 b (by rw [hn0]; exact hb),by rw [←hn0]; exact p3,?_,fun b k e=>?_,fun b hb=>oldA_mem.2 (.inr hb),fun b hb hn=>?_,fun b k e hb=>?_⟩
           ·refine ⟨p4.size,fun x hx hnl=>p4.block x hx fun ⟨c,l,hcl,he⟩=>hnl ⟨c,l,by rw [←hb0]; exact hcl,he⟩,p4.env⟩
           ·rcases p5 b k e with h | ⟨c,l,hcl,he⟩
            ·exact .inl h
            ·exact .inr ⟨c,l,by rw [←hb0]; exact hcl,he⟩
           ·rw [←hb0]
            exact p7 b (by rw [hn0]; exact hb) fun h=>hn (oldA_mem.2 (.inl ⟨h,hb⟩))
           ·rw [←hb0]
            exact p8 b k e (by rw [hn0]; exact hb)
          ·subst hm'
           have s2':MSup S m0:=fun b k e=>s2 b k (by rw [←hb0]; exact e)
           obtain ⟨g1,g2⟩:=k2.2 S (hrs S s1) s2'
           have hwid:∀ b,Wid S m0 p b→Wid S m { p with wr:=oldA m.next p.wr m.wr } b:=fun b hb=>by
            rcases hb with hb | hb
            ·exact .inl hb
            ·exact .inr ⟨by rw [←hn0]; exact hb.1,hb.2⟩
           refine ⟨fun b k e=>Blk.sup_mono hwid (g1 b k e),sup_mono hwid v ?_⟩
           have hus:=q2 _ g2 g1
           rw [←hv]
           cases us with
           | nil=>trivial
           | cons u us =>
             cases us with
             | nil=>exact hus.1
             | cons u2 us=>exact hus
         cases hcode:codeA T (callA T n) fn.ntmps c (Tr.ofList 0 vs .nil) m0 with
         | none=>rw [hcode] at h; cases h
         | some q =>
           obtain ⟨ek,r,p⟩:=q
           rw [hcode] at h
           refine calls_of_wp (H.fn f fn hf) hbody (codeA_sound H ih hmix c hcode ρ _ w hr hm1 (by rw [hn0]; exact hrs _ hsv) _ fun ρ' a' w' k1 k2=>?_)
           cases ek with
           | norm =>
             simp only [Option.map_eq_some_iff] at h
             obtain ⟨us,hus,h⟩:=h
             injection h with h1 h2
             exact fin hus k1 k2 h1 h2
           | exit id=>cases h
           | ret =>
             simp only [Option.map_eq_some_iff] at h
             obtain ⟨us,hus,h⟩:=h
             injection h with h1 h2
             exact fin hus k1 k2 h1 h2

end Go.Proofs.YtbdcjhoedhhabaaGreat

/- The executor: a long run in pieces. Calls whose result is known from a run of their own are not run anew. -/
namespace Go.Proofs.YtbdcjhoedhhabaaGreat
set_option linter.unusedSectionVars false
open Go.RowKit

mutual
/-- Are two values surely the same? -/
noncomputable def eqAV:AV→AV→Bool
 | .bool a, .bool b=>a == b
 | .int j a, .int k b=>kindEq j k && ieq a b
 | .str a, .str b=>a.data.toList == b.data.toList
 | .nilPtr, .nilPtr=>true
 | .ptr a i, .ptr b j=>Nat.beq a b && Nat.beq i j
 | .nilSl, .nilSl=>true
 | .sl a i n c o, .sl b j k d p=>Nat.beq a b && Nat.beq i j && Nat.beq n k && Nat.beq c d && (o == p)
 | .nilMap, .nilMap=>true
 | .mp a, .mp b=>Nat.beq a b
 | .nilFn, .nilFn=>true
 | .agg x, .agg y=>eqAVs x y
 | .tup x, .tup y=>eqAVs x y
 | _,_=>false
noncomputable def eqAVs:List AV→List AV→Bool
 | [],[]=>true
 | x :: xs,y :: ys=>eqAV x y && eqAVs xs ys
 | _,_=>false
end

mutual
theorem eqAV_of:∀ {x y:AV},eqAV x y=true→x=y
 | .bool a,y,h=>by cases y <;> simp [eqAV] at h; rw [h]
 | .int j a, y, h => by
   cases y <;> simp [eqAV] at h
   have h2:=h.2
   rw [ieq_eq] at h2
   rw [kindEq_of h.1,eq_of_beq h2]
 | .str a, y, h => by
   cases y <;> simp only [eqAV,Bool.false_eq_true] at h
   rename_i b
   have h:=eq_of_beq h
   obtain ⟨⟨a⟩⟩:=a
   obtain ⟨⟨b⟩⟩:=b
   simp only at h
   rw [h]
 | .nilPtr,y,h=>by cases y <;> simp [eqAV] at h; rfl
 | .ptr a i,y,h=>by cases y <;> simp [eqAV] at h; rw [h.1,h.2]
 | .nilSl,y,h=>by cases y <;> simp [eqAV] at h; rfl
 | .sl a i n c o,y,h=>by cases y <;> simp [eqAV] at h; rw [h.1.1.1.1,h.1.1.1.2,h.1.1.2,h.1.2,h.2]
 | .nilMap,y,h=>by cases y <;> simp [eqAV] at h; rfl
 | .mp a,y,h=>by cases y <;> simp [eqAV] at h; rw [h]
 | .nilFn,y,h=>by cases y <;> simp [eqAV] at h; rfl
 | .fn _ _ _,y,h=>by cases y <;> simp [eqAV] at h
 | .agg x, y, h => by
   cases y <;> simp only [eqAV,Bool.false_eq_true] at h
   rw [eqAVs_of h]
 | .tup x, y, h => by
   cases y <;> simp only [eqAV,Bool.false_eq_true] at h
   rw [eqAVs_of h]
theorem eqAVs_of:∀ {x y:List AV},eqAVs x y=true→x=y
 | [],y,h=>by cases y <;> simp [eqAVs] at h; rfl
 | a :: x, y, h => by
   cases y with
   | nil=>simp [eqAVs] at h
   | cons b y =>
     simp only [eqAVs,Bool.and_eq_true] at h
     rw [eqAV_of h.1,eqAVs_of h.2]
end

mutual
/-- Are all blocks that a value names below a number? -/
def supB (n:Nat):AV→Bool
 | .ptr b _=>Nat.blt b n
 | .sl b _ _ _ _=>Nat.blt b n
 | .mp b=>Nat.blt b n
 | .fn _ x y=>supBs n x && supBs n y
 | .agg x=>supBs n x
 | .tup x=>supBs n x
 | .bool _ | .int _ _ | .str _ | .nilPtr | .nilSl | .nilMap | .nilFn=>true
def supBs (n:Nat):List AV→Bool
 | []=>true
 | x :: xs=>supB n x && supBs n xs
end

mutual
theorem supB_of {n:Nat}:∀ {x:AV},supB n x=true→x.sup fun b=>b<n
 | .ptr b _,h=>by rw [supB] at h; rw [AV.sup]; exact Nat.le_of_ble_eq_true h
 | .sl b _ _ _ _,h=>by rw [supB] at h; rw [AV.sup]; exact Nat.le_of_ble_eq_true h
 | .mp b,h=>by rw [supB] at h; rw [AV.sup]; exact Nat.le_of_ble_eq_true h
 | .fn _ x y,h=>by rw [supB,Bool.and_eq_true] at h; rw [AV.sup]; exact ⟨supBs_of h.1,supBs_of h.2⟩
 | .agg x,h=>by rw [supB] at h; rw [AV.sup]; exact supBs_of h
 | .tup x,h=>by rw [supB] at h; rw [AV.sup]; exact supBs_of h
 | .bool _,_=>trivial
 | .int _ _,_=>trivial
 | .str _,_=>trivial
 | .nilPtr,_=>trivial
 | .nilSl,_=>trivial
 | .nilMap,_=>trivial
 | .nilFn,_=>trivial
theorem supBs_of {n:Nat}:∀ {x:List AV},supBs n x=true→sups (fun b=>b<n) x
 | [],_=>trivial
 | x :: xs,h=>by rw [supBs,Bool.and_eq_true] at h; exact ⟨supB_of h.1,supBs_of h.2⟩
end

/-- A call with what it reads of the memory, and its plain result. -/
structure Entry where
 f:Nat
 vs:List AV
 bl:List (Nat×List AV)
 nx:Nat
 v:AV

noncomputable def treeOf:List (Nat×List AV)→Tr Blk
 | []=> .nil
 | (b,cs) :: l=>(treeOf l).put b (some (.cells cs 0))

theorem treeOf_get:∀ {l:List (Nat×List AV)} {b:Nat} {k:Blk},(treeOf l).get b=some k→∃ cs,(b,cs)∈l∧k = .cells cs 0
 | [],b,k,h=>by cases h
 | (c, cs) :: l, b, k, h => by
   rw [treeOf,Tr.get_put] at h
   split at h
   ·rename_i hb; injection h with h; subst hb; exact ⟨cs,List.mem_cons_self,h.symm⟩
   ·obtain ⟨ds,h1,h2⟩:=treeOf_get h; exact ⟨ds,List.mem_cons_of_mem _ h1,h2⟩

noncomputable def Entry.mem (e:Entry):Mem:={ blks:=treeOf e.bl,next:=e.nx,wr:=[] }

/-- The run of an entry gives its result and writes nothing that was there. -/
noncomputable def Entry.runs (T:Tabs) (n:Nat) (e:Entry):Bool:=
 match callA T n e.f e.vs e.mem with
 | some (v,m)=>eqAV v e.v && m.wr.all fun b=>!Nat.blt b e.nx
 | none=>false

def AV.flatB:AV→Bool
 | .bool _=>true
 | .int _ _=>true
 | .str _=>true
 | _=>false

theorem flatB_of {v:AV} (h:v.flatB=true):v.flat:=by
 cases v <;> first | trivial | cases h

def Entry.fine (e:Entry):Bool:=e.v.flatB && supBs e.nx e.vs && e.bl.all fun p=>Nat.blt p.1 e.nx && supBs e.nx p.2

/-- Does a call meet an entry? What the entry reads must be there. -/
noncomputable def Entry.meets (e:Entry) (f:Nat) (vs:List AV) (m:Mem):Bool:=
 Nat.beq e.f f && eqAVs e.vs vs && Nat.ble e.nx m.next && e.bl.all fun p=>match m.blks.get p.1 with
  | some (.cells cs el)=>Nat.beq el 0 && eqAVs p.2 cs
  | _=>false

/-- Calls that meet an entry have its result. -/
noncomputable def memoA (call:CallA):List Entry→CallA
 | [],f,vs,m=>call f vs m
 | e :: es,f,vs,m=>bif e.meets f vs m then some (e.v,m) else memoA call es f vs m

theorem entry_sound {T:Tabs} {P:Program} (H:TabsOk T P) (hmix:P.follows .mixedOrders=true) {n:Nat} {e:Entry} (hr:e.runs T n=true) (hf:e.fine=true) {f:Nat} {vs:List AV} {m:Mem} (hmeet:e.meets f vs m=true) :
 (∃ fn c,T.fn.get f=some fn∧fn.body=some c)∧∀ ρ w,MemOk ρ m w→Calls P f (concs ρ vs).toArray w fun r w'=>∃ ρ',r = .returned (e.v.conc ρ')∧Post ρ ρ' m m w w'∧∀ S,sups S vs→MSup S m→MSup (Wid S m m) m∧e.v.sup (Wid S m m):=by
 unfold Entry.fine at hf
 simp only [Bool.and_eq_true,List.all_eq_true] at hf
 obtain ⟨⟨f1,f2⟩,f3⟩:=hf
 have hflat:=flatB_of f1
 unfold Entry.meets at hmeet
 simp only [Bool.and_eq_true,List.all_eq_true] at hmeet
 obtain ⟨⟨⟨m1,m2⟩,m3⟩,m4⟩:=hmeet
 have m1:=Nat.eq_of_beq_eq_true m1
 have m2:=eqAVs_of m2
 have m3:=Nat.le_of_ble_eq_true m3
 subst m1
 subst m2
 unfold Entry.runs at hr
 cases hcall:callA T n e.f e.vs e.mem with
 | none=>rw [hcall] at hr; cases hr
 | some q =>
   obtain ⟨v,p⟩:=q
   rw [hcall] at hr
   simp only [Bool.and_eq_true,List.all_eq_true,Bool.not_eq_true'] at hr
   obtain ⟨r1,r2⟩:=hr
   have r1:=eqAV_of r1
   subst r1
   obtain ⟨c1,c2⟩:=callA_sound H hmix n _ _ _ _ _ hcall
   refine ⟨c1,fun ρ w hm=>?_⟩
   have hin:∀ b k,e.mem.blks.get b=some k→∃ cs,k = .cells cs 0∧m.blks.get b=some (.cells cs 0)∧b<e.nx∧sups (fun b=>b<e.nx) cs:=by
    intro b k h
    obtain ⟨cs,h1,rfl⟩:=treeOf_get h
    have h2:=m4 _ h1
    have h3:=f3 _ h1
    simp only [Bool.and_eq_true] at h3
    split at h2
    ·rename_i ds el hd
     rw [Bool.and_eq_true] at h2
     have h4:=Nat.eq_of_beq_eq_true h2.1
     have h5:=eqAVs_of h2.2
     simp only at h5
     subst h4
     subst h5
     exact ⟨_,rfl,hd,Nat.le_of_ble_eq_true h3.1,supBs_of h3.2⟩
    ·cases h2
   have hme:MemOk ρ e.mem w:=by
    refine ⟨fun b k h=>?_,fun b k h=>?_,fun b k h=>?_,fun b k c l h1 h2 hne=>?_⟩
    ·obtain ⟨cs,_,_,h1,_⟩:=hin b k h; exact h1
    ·obtain ⟨cs,rfl,h1,_,_⟩:=hin b k h; exact hm.ok b _ h1
    ·obtain ⟨cs,rfl,_,_,h1⟩:=hin b k h; exact h1
    ·obtain ⟨cs,_,h3,_,_⟩:=hin b k h1
     obtain ⟨ds,_,h4,_,_⟩:=hin c l h2
     exact hm.one b _ c _ h3 h4 hne
   refine Calls.mono (c2 ρ w (supBs_of f2) hme) fun r w' hr=>?_
   obtain ⟨ρ',k1,k2,_⟩:=hr
   have hkeep:∀ b k,m.blks.get b=some k→BlkOk ρ w' b k:=by
    intro b k h
    have hb:=hm.ok b k h
    cases hq:e.mem.blks.get b with
    | some l =>
      obtain ⟨cs,rfl,h1,h2,h3⟩:=hin b l hq
      rw [h] at h1
      injection h1 with h1
      subst h1
      have hp:p.blks.get b=some (.cells cs 0):=by
       rw [k2.old b h2 (fun hw=>by have:=r2 b hw; rw [show Nat.blt b e.nx=true from Nat.ble_eq_true_of_le h2] at this; cases this)]
       exact hq
      exact (k2.mem.ok b _ hp).congr (k2.same b (.inl h2)) (S:=fun b=>b<e.nx) (fun c hc=>k2.same c (.inl hc)) h3 rfl
    | none =>
      refine hb.congr rfl (fun _ _=>rfl) (S:=fun b=>b<m.next) (hm.sup b k h) (k2.keep.block _ hb.lt ?_)
      rintro ⟨c,l,hc,he⟩
      obtain ⟨cs,_,h1,_,_⟩:=hin c l hc
      refine hm.one c _ b k h1 h (fun hcb=>?_) he
      subst hcb
      rw [hc] at hq
      cases hq
   refine ⟨ρ,?_,⟨⟨hm.lt,hkeep,hm.sup,hm.one⟩,fun _ _=>rfl,Nat.le_refl _,?_,fun b k h=> .inr ⟨b,k,h,rfl⟩,fun _ h=>h,fun _ _ _=>rfl,fun b k h _=>⟨k,h⟩⟩,fun S s1 s2=>⟨s2.mono fun _ h=> .inl h,hflat.sup _⟩⟩
   ·rw [k1]
    cases hev:e.v <;> rw [hev] at hflat <;> first | rfl | exact hflat.elim
   ·refine k2.keep.weak fun x _ hx=>?_
    obtain ⟨c,l,hc,he⟩:=hx
    obtain ⟨cs,_,h1,_,_⟩:=hin c l hc
    exact ⟨c,_,h1,he⟩

theorem memoA_sound {T:Tabs} {P:Program} (H:TabsOk T P) (hmix:P.follows .mixedOrders=true) {n:Nat} {call:CallA} (hc:CallsOk T P call):∀ {es:List Entry},(∀ e∈es,e.runs T n=true∧e.fine=true)→CallsOk T P (memoA call es)
 | [],_=>hc
 | e :: es, h => fun f vs m v m' hv => by
   rw [memoA] at hv
   cases hb:e.meets f vs m with
   | true =>
     rw [hb] at hv
     injection hv with hv
     injection hv with h1 h2
     subst h1; subst h2
     obtain ⟨h1,h2⟩:=h e List.mem_cons_self
     obtain ⟨g1,g2⟩:=entry_sound H hmix h1 h2 hb
     exact ⟨g1,fun ρ w _ hm=>g2 ρ w hm⟩
   | false =>
     rw [hb] at hv
     exact memoA_sound H hmix hc (es:=es) (fun e he=>h e (List.mem_cons_of_mem _ he)) f vs m v m' hv

/-- A closed run whose calls may meet entries. -/
noncomputable def mainA (T:Tabs) (call:CallA) (f:Nat):Option (AV×Mem):=
 match T.fn.get f with
 | none=>none
 | some fn => match fn.body with
   | none=>none
   | some c => match codeA T call fn.ntmps c (Tr.ofList 0 [] .nil) { blks := .nil, next := 0, wr := [] } with
     | some (.norm,r,p)=>(resA T r p fn.results.toList).map fun vs=>(valA vs,p)
     | some (.ret,r,p)=>(resA T r p fn.results.toList).map fun vs=>(valA vs,p)
     | _=>none

theorem mainA_sound {T:Tabs} {P:Program} (H:TabsOk T P) (hmix:P.follows .mixedOrders=true) {call:CallA} (hc:CallsOk T P call) {f:Nat} {v:AV} {m':Mem} (h:mainA T call f=some (v,m')) (hv:v.flat) (w:World) :
 Calls P f #[] w fun e w'=>e = .returned (v.conc fun _=>⟨0,0,0⟩)∧Below w.heap.size w w':=by
 unfold mainA at h
 cases hf:T.fn.get f with
 | none=>rw [hf] at h; cases h
 | some fn =>
   rw [hf] at h
   simp only at h
   cases hbody:fn.body with
   | none=>rw [hbody] at h; cases h
   | some c =>
     rw [hbody] at h
     simp only at h
     have hm:MemOk (fun _=>⟨0,0,0⟩) { blks:= .nil,next:=0,wr:=[] } w:=⟨fun b k e=>(by cases e),fun b k e=>(by cases e),fun b k e=>(by cases e),fun b k c l e=>(by cases e)⟩
     have hr:RegOk (fun _=>⟨0,0,0⟩) fn.ntmps (Tr.ofList 0 [] .nil) { tmps:=(#[]:Array Value) ++ Array.replicate (fn.ntmps - (#[]:Array Value).size) undef,defers:=[] }:=by
      refine ⟨by simp,rfl,fun t=>?_⟩
      rw [Array.getD_eq_getD_getElem?]
      simp only [Array.empty_append]
      rw [Array.getElem?_replicate]
      split <;> rfl
     have hrs:RSup (fun b=>b<0) (Tr.ofList 0 [] .nil):=fun t=>trivial
     have fin:∀ {r:Regs} {p:Mem} {us:List AV} {ρ':Rho} {a':Act} {w':World},resA T r p fn.results.toList=some us→RegOk ρ' fn.ntmps r a'→After (fun _=>⟨0,0,0⟩) ρ' { blks:= .nil,next:=0,wr:=[] } p w w' (Tr.ofList 0 [] .nil) r→valA us=v→
      a'.defers = []∧∃ q,(results fn a'.tmps).run P w' = .ok q w'∧Ending.returned q = .returned (v.conc fun _=>⟨0,0,0⟩)∧Below w.heap.size w w':=by
      intro r p us ρ' a' w' hres k1 k2 hv'
      obtain ⟨q1,q2⟩:=resA_sound H k1 k2.1.mem hres
      refine ⟨k1.none,v.conc ρ',?_,?_,?_⟩
      ·unfold results
       rw [Sem.run_bind,Array.mapM_eq_mapM_toList]
       simp only [Sem.run_map]
       refine Eq.trans (congrArg (fun z:Result (List Value)=>(z.andThen fun a w'=>Result.ok a.toArray w').andThen fun a w'=>Sem.run P (pure (if h:a.size=1 then a[0] else Value.tuple a)) w') q1) ?_
       rw [←hv',← valA_sound ρ' us]
       rfl
      ·cases v <;> first | rfl | exact hv.elim
      ·refine k2.1.keep.low (Nat.le_refl _) ?_
       rintro b _ ⟨c,k,e,_⟩
       cases e
     cases hcode:codeA T call fn.ntmps c (Tr.ofList 0 [] .nil) { blks:= .nil,next:=0,wr:=[] } with
     | none=>rw [hcode] at h; cases h
     | some q =>
       obtain ⟨ek,r,p⟩:=q
       rw [hcode] at h
       refine calls_of_wp (H.fn f fn hf) hbody (codeA_sound H hc hmix c hcode _ _ w hr hm hrs _ fun ρ' a' w' k1 k2=>?_)
       cases ek with
       | norm =>
         simp only [Option.map_eq_some_iff] at h
         obtain ⟨us,hus,h⟩:=h
         injection h with h1 h2
         exact fin hus k1 k2 h1
       | exit id=>cases h
       | ret =>
         simp only [Option.map_eq_some_iff] at h
         obtain ⟨us,hus,h⟩:=h
         injection h with h1 h2
         exact fin hus k1 k2 h1

theorem info_of (T:Tables) {t:Nat} {i:TypeInfo} (h:T.types.toList[t]? = some i):T.info? t=some i:=by
 rw [Array.getElem?_toList] at h
 have hlt:=(Array.getElem?_eq_some_iff.1 h).1
 unfold Tables.info?
 rw [if_pos hlt]
 exact h

theorem func_of (P:Program) {t:Nat} {i:Func} (h:P.funcs.toList[t]? = some i):P.funcs[t]? = some i:=by
 rw [Array.getElem?_toList] at h
 exact h

end Go.Proofs.YtbdcjhoedhhabaaGreat

