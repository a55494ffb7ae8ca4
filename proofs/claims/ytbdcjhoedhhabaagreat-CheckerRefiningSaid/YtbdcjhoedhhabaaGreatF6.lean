/- Contracts of the functions that the statements reach, part 6. -/
import Derived.Test.YtbdcjhoedhhabaaGreatF5
set_option linter.unusedSimpArgs false
set_option linter.unusedVariables false

/- The executor's operations, one by one: fields, elements, slices, composites, new slices and maps. -/
namespace Go.Proofs.YtbdcjhoedhhabaaGreat
set_option linter.unusedSectionVars false
open Go.RowKit

theorem elemOf_sound {T:Tabs} {t e n:Nat} (h:elemOf T t=some (e,n)):T.un t=some (.slice e)∧∃ i,T.ty.get e=some i∧i.size=n:=by
 unfold elemOf at h
 split at h
 ·rename_i e' hu
  simp only [sizeA,Option.map_eq_some_iff] at h
  obtain ⟨n',⟨i,hi,hn⟩,h⟩:=h
  injection h with h1 h2
  subst h1; subst h2
  exact ⟨hu,i,hi,hn⟩
 ·cases h

theorem sizeA_sound {T:Tabs} {t n:Nat} (h:sizeA T t=some n):∃ i,T.ty.get t=some i∧i.size=n:=by
 simpa only [sizeA,Option.map_eq_some_iff] using h

theorem asIntOf_run {P:Program} (k:IntKind) (n:Int) (w:World):(asIntOf (.int k n)).run P w = .ok (k,n) w:=rfl

section
variable {T:Tabs} {P:Program} (H:TabsOk T P) {ρ:Rho} {N:Nat} {r:Regs} {m:Mem} {a:Act} {w:World} (hr:RegOk ρ N r a) (hm:MemOk ρ m w) {o:Oper} {e:Eff}
include hr hm

include H in
theorem part_sound {t off:Nat} {cs:List AV} {v:AV} (h:partA T t cs off=some v):(part t (concs ρ cs).toArray off).run P w = .ok (v.conc ρ) w:=by
 unfold partA at h
 unfold part
 split at h
 ·rename_i i hg hi
  injection h with h
  subst h
  rw [Sem.run_bind,H.agg hg,Result.andThen_ok]
  simp only [if_true,Sem.run_bind,H.size hi,Result.andThen_ok,AV.conc,concs_take,concs_drop]
  have:(concs ρ cs).toArray.extract off (off+i.size)=(((concs ρ cs).drop off).take i.size).toArray:=by
   apply Array.ext'
   simp
  rw [this]
  rfl
 ·rename_i i hg hi
  rw [Sem.run_bind,H.agg hg,Result.andThen_ok]
  have e:(concs ρ cs).toArray[off]? = some (v.conc ρ):=by rw [List.getElem?_toArray,concs_at,h]; rfl
  simp only [Bool.false_eq_true,if_false,e]
  rfl
 ·cases h

theorem part_sup {S:Nat→Prop} {t off:Nat} {cs:List AV} {v:AV} (h:partA T t cs off=some v) (hs:sups S cs):v.sup S:=by
 unfold partA at h
 split at h
 ·injection h with h
  subst h
  exact sups_of fun u hu=>sups_mem hs u (List.mem_of_mem_drop (List.mem_of_mem_take hu))
 ·exact sups_mem hs v (List.mem_of_getElem? h)
 ·cases h

include H in
theorem field_sound {s:Nat} {x:Operand} {f:Nat} (ho:o.op = .field s x f) (h:opA T r m (.field s x f)=some e):Does ρ r m w ((execOp a.eval o).run P w) e:=by
 simp only [opA,opField] at h
 split at h
 ·rename_i cs fd hx hf
  simp only [Option.map_eq_some_iff] at h
  obtain ⟨v,hv,rfl⟩:=h
  refine Does.pure hm ?_ fun S h1 _=>part_sup hr hm hv (evA_sup h1 hx)
  unfold fieldOf at hf
  split at hf
  ·rename_i fs hu
   simp only [execOp,ho,hr.ev hx,AV.conc]
   rw [Sem.run_bind]
   unfold Instr.field
   rw [Sem.run_bind,run_underlying (H.un hu),Result.andThen_ok]
   simp only [hf,Sem.run_bind,asAgg,Sem.run_pure,Result.andThen_ok,part_sound H hr hm hv]
  ·cases hf
 ·cases h

include H in
theorem fieldAddr_sound {s:Nat} {x:Operand} {f:Nat} (ho:o.op = .fieldAddr s x f) (h:opA T r m (.fieldAddr s x f)=some e):Does ρ r m w ((execOp a.eval o).run P w) e:=by
 simp only [opA,opFieldAddr] at h
 split at h
 ·rename_i b off fd hx hf
  split at h
  ·rename_i k hk
   injection h with h
   subst h
   refine Does.pure hm ?_ fun S h1 _=>evA_sup (x:=x) (v:= .ptr b off) h1 hx
   obtain ⟨i,hi,hs⟩:=sizeA_sound hk
   unfold fieldOf at hf
   split at hf
   ·rename_i fs hu
    simp only [execOp,ho,hr.ev hx,AV.conc]
    rw [Sem.run_bind]
    unfold Instr.fieldAt
    rw [Sem.run_bind,run_underlying (H.un hu),Result.andThen_ok]
    simp only [hf,Sem.run_bind,Instr.sureAddr,Sem.run_pure,Result.andThen_ok,fieldPlace,H.size hi]
    rw [if_neg (by omega)]
    simp only [Sem.run_pure,Result.andThen_ok,add_at]
    rw [show off+(ρ b).shift+fd.offset=off+fd.offset+(ρ b).shift by omega]
   ·cases hf
  ·cases h
 ·cases h

include H in
theorem indexAddr_sound {t:Nat} {x ix:Operand} (ho:o.op = .indexAddr t x ix) (h:opA T r m (.indexAddr t x ix)=some e):Does ρ r m w ((execOp a.eval o).run P w) e:=by
 simp only [opA,opIndexAddr] at h
 split at h
 ·rename_i el b off len cap op k i hu hx hi
  cases hb:Nat.blt i len with
  | false=>rw [hb] at h; cases h
  | true =>
    have hlt:i<len:=Nat.le_of_ble_eq_true hb
    rw [hb] at h
    simp only [cond_true,Option.map_eq_some_iff] at h
    obtain ⟨n,hn,rfl⟩:=h
    obtain ⟨j,hj,hs⟩:=sizeA_sound hn
    refine Does.pure hm ?_ fun S h1 _=>evA_sup (x:=x) (v:= .sl b off len cap op) h1 hx
    simp only [execOp,ho,hr.ev hx,hr.ev hi,AV.conc]
    rw [Sem.run_bind]
    unfold Instr.indexAt
    simp only [Sem.run_bind,asIntOf_run,Result.andThen_ok,run_underlying (H.un hu),Sem.run_pure]
    rw [if_pos (by simp only [Int.ofNat_eq_natCast]; omega)]
    simp only [Sem.run_bind,H.size hj,Result.andThen_ok,Sem.run_pure,add_at,hs]
    rw [show off+(ρ b).shift+(Int.ofNat i).toNat*n=off+i*n+(ρ b).shift by rw [show (Int.ofNat i).toNat=i from rfl]; omega]
 ·rename_i len el b off k i hu hx hi
  cases hb:Nat.blt i len with
  | false=>rw [hb] at h; cases h
  | true =>
    have hlt:i<len:=Nat.le_of_ble_eq_true hb
    rw [hb] at h
    simp only [cond_true,Option.map_eq_some_iff] at h
    obtain ⟨n,hn,rfl⟩:=h
    obtain ⟨j,hj,hs⟩:=sizeA_sound hn
    refine Does.pure hm ?_ fun S h1 _=>evA_sup (x:=x) (v:= .ptr b off) h1 hx
    simp only [execOp,ho,hr.ev hx,hr.ev hi,AV.conc]
    rw [Sem.run_bind]
    unfold Instr.indexAt
    simp only [Sem.run_bind,asIntOf_run,Result.andThen_ok,run_underlying (H.un hu),Instr.sureAddr,Sem.run_pure]
    rw [if_pos (by simp only [Int.ofNat_eq_natCast]; omega)]
    simp only [Sem.run_bind,H.size hj,Result.andThen_ok,Sem.run_pure,add_at,hs]
    rw [show off+(ρ b).shift+(Int.ofNat i).toNat*n=off+i*n+(ρ b).shift by rw [show (Int.ofNat i).toNat=i from rfl]; omega]
 ·cases h

include H in
theorem index_sound {t:Nat} {x ix:Operand} (ho:o.op = .index t x ix) (h:opA T r m (.index t x ix)=some e):Does ρ r m w ((execOp a.eval o).run P w) e:=by
 simp only [opA,opIndex] at h
 split at h
 ·rename_i len el cs k i hu hx hi
  cases hb:Nat.blt i len with
  | false=>rw [hb] at h; cases h
  | true =>
    have hlt:i<len:=Nat.le_of_ble_eq_true hb
    rw [hb] at h
    simp only [cond_true,Option.bind_eq_some_iff,Option.map_eq_some_iff] at h
    obtain ⟨n,hn,v,hv,rfl⟩:=h
    obtain ⟨j,hj,hs⟩:=sizeA_sound hn
    refine Does.pure hm ?_ fun S h1 _=>part_sup hr hm hv (evA_sup h1 hx)
    simp only [execOp,ho,hr.ev hx,hr.ev hi,AV.conc]
    rw [Sem.run_bind]
    unfold Instr.index
    simp only [Sem.run_bind,asIntOf_run,Result.andThen_ok,run_underlying (H.un hu)]
    rw [if_pos (by simp only [Int.ofNat_eq_natCast]; omega)]
    simp only [Sem.run_bind,H.size hj,Result.andThen_ok,hs]
    rw [show (Int.ofNat i).toNat=i from rfl,part_sound H hr hm hv]
    rfl
 ·rename_i s k i hu hx hi
  simp only [Option.map_eq_some_iff] at h
  obtain ⟨b,hb,rfl⟩:=h
  refine Does.pure hm ?_ fun S _ _=>trivial
  simp only [execOp,ho,hr.ev hx,hr.ev hi,AV.conc]
  rw [Sem.run_bind]
  unfold Instr.index
  simp only [Sem.run_bind,asIntOf_run,Result.andThen_ok,run_underlying (H.un hu)]
  have e:(if 0≤Int.ofNat i then s[(Int.ofNat i).toNat]? else none)=some b:=by
   rw [if_pos (by simp only [Int.ofNat_eq_natCast]; omega),show (Int.ofNat i).toNat=i from rfl]
   obtain ⟨d⟩:=s
   simp only [Array.getElem?_toList] at hb
   rw [←hb]
   rfl
  rw [e]
  rfl
 ·cases h

theorem evParts_eq:∀ {l:List (Nat×Operand)} {vs:List (Nat×AV)},evParts r l=some vs→(l.map fun p=>(p.1,a.eval p.2))=concParts ρ vs
 | [],vs,h=>by injection h with h; subst h; rfl
 | (i, x) :: l, vs, h => by
   rw [evParts] at h
   split at h
   ·rename_i v hv
    split at h
    ·rename_i us hu
     injection h with h
     subst h
     rw [List.map_cons,evParts_eq hu,hr.ev hv]
     rfl
    ·cases h
   ·cases h

theorem evParts_sup {S:Nat→Prop} (hS:RSup S r):∀ {l:List (Nat×Operand)} {vs:List (Nat×AV)},evParts r l=some vs→∀ p∈vs,p.2.sup S
 | [],vs,h=>by injection h with h; subst h; intro p hp; cases hp
 | (i, x) :: l, vs, h => by
   rw [evParts] at h
   split at h
   ·rename_i v hv
    split at h
    ·rename_i us hu
     injection h with h
     subst h
     intro p hp
     rcases List.mem_cons.1 hp with rfl | hp
     ·exact evA_sup hS hv
     ·exact evParts_sup hS hu p hp
    ·cases h
   ·cases h

theorem parts_arr {ps:Array (Nat×Operand)} {vs:List (Nat×AV)} (h:evParts r ps.toList=some vs):(ps.map fun (i,x)=>(i,a.eval x))=(concParts ρ vs).toArray:=by
 apply Array.ext'
 rw [Array.toList_map]
 exact evParts_eq hr hm h

include H in
theorem places_sound:∀ {fs:List Field} {ps:List (Nat×Nat)},placesA T fs=some ps→fs.mapM (fun f=>(P.info? f.type).map fun i=>(f.offset,i.size))=some ps
 | [],ps,h=>by injection h with h; subst h; rfl
 | f :: fs, ps, h => by
   rw [placesA] at h
   split at h
   ·rename_i n hn
    split at h
    ·rename_i qs hq
     injection h with h
     subst h
     obtain ⟨i,hi,hs⟩:=sizeA_sound hn
     rw [List.mapM_cons,places_sound hq,H.ty _ i hi]
     simp [hs]
    ·cases h
   ·cases h

include H in
theorem zero_cells {t:Nat} {z:AV} (h:T.zero t=some z):∃ i v,T.ty.get t=some i∧i.zero=some v∧v=z.conc ρ∧v.cells=(concs ρ z.cells).toArray:=by
 unfold Tabs.zero at h
 simp only [Option.bind_eq_some_iff] at h
 obtain ⟨i,hi,v,hv,e⟩:=h
 refine ⟨i,v,hi,hv,(avOf_conc ρ 3 v z e).symm,?_⟩
 apply Array.ext'
 rw [←avOf_conc ρ 3 v z e,conc_cells]

include H in
theorem build_sound {t:Nat} {ps:Array (Nat×Operand)} (ho:o.op = .build t ps) (h:opA T r m (.build t ps)=some e):Does ρ r m w ((execOp a.eval o).run P w) e:=by
 simp only [opA,opBuild] at h
 split at h
 ·rename_i z fs vs hz hu hv
  simp only [Option.bind_eq_some_iff,Option.map_eq_some_iff] at h
  obtain ⟨qs,hq,cs,hc,rfl⟩:=h
  refine Does.pure hm ?_ fun S h1 _=>fill_sup hc (sup_cells (zero_sup hr hm hz)) (evParts_sup hr hm h1 hv)
  obtain ⟨i,v,hi,hv0,hvz,hvc⟩:=zero_cells H (ρ:=ρ) hr hm hz
  have hb:P.built t (ps.map fun (i,x)=>(i,a.eval x)).toList=some (concs ρ cs).toArray:=by
   unfold Program.built
   simp only [H.ty t i hi,H.un hu,hv0,places_sound H hr hm hq,parts_arr hr hm hv,hvc]
   have:(fun x:Nat=>qs.toArray[x]?)=fun i:Nat=>qs[i]?:=by funext i; simp
   rw [this]
   exact fill_sound ρ hc
  simp only [execOp,ho]
  rw [Sem.run_bind,run_build w t _ _ hb]
  rfl
 ·rename_i z n el vs hz hu hv
  simp only [Option.bind_eq_some_iff,Option.map_eq_some_iff] at h
  obtain ⟨sz,hsz,cs,hc,rfl⟩:=h
  refine Does.pure hm ?_ fun S h1 _=>fill_sup hc (sup_cells (zero_sup hr hm hz)) (evParts_sup hr hm h1 hv)
  obtain ⟨i,v,hi,hv0,hvz,hvc⟩:=zero_cells H (ρ:=ρ) hr hm hz
  obtain ⟨j,hj,hs⟩:=sizeA_sound hsz
  have hb:P.built t (ps.map fun (i,x)=>(i,a.eval x)).toList=some (concs ρ cs).toArray:=by
   unfold Program.built
   simp only [H.ty t i hi,H.un hu,hv0,H.ty _ j hj,parts_arr hr hm hv,hvc,hs]
   exact fill_sound ρ hc
  simp only [execOp,ho]
  rw [Sem.run_bind,run_build w t _ _ hb]
  rfl
 ·cases h

/-- The value of a new slice whose capacity is known. -/
theorem new_slice (cs:List AV) (hs:∀ S,RSup S r→MSup S m→sups S cs) (hl:sups (fun b=>b<m.next) cs) {vs:Array Value} (hv:vs.toList=concs ρ cs) {t:TypeId} {res:Result Next} {n c:Nat}
 (he:res = .ok (.value (.slice (some ⟨w.heap.size,0,none⟩) n c)) (w.alloc (.cells vs t))):Does ρ r m w res (.val (.sl m.next 0 n c false) (m.new (.cells cs 0))):=by
 have hvs:vs=(concs ρ cs).toArray:=by rw [←hv]
 subst hvs
 refine ⟨ρ.put m.next ⟨w.heap.size,0,0⟩,_,?_,post_new hm cs hl 0 t,fun S h1 h2=>⟨?_, .inr ⟨Nat.le_refl _,Nat.lt_succ_self _⟩⟩⟩
 ·rw [he,AV.conc,Rho.put_at]; rfl
 ·intro b k e
  simp only [Mem.new,Tr.get_put] at e
  split at e
  ·injection e with e
   subst e
   exact sups_mono (fun _ h=> .inl h) cs (hs S h1 h2)
  ·exact Blk.sup_mono (fun _ h=> .inl h) (h2 b k e)

/-- The zeros of so many elements, as the model lays them. -/
theorem zeros_arr {zs:List AV} {zv:Array Value} (h:zv=(concs ρ zs).toArray) (n k:Nat) (hk:k=n*zs.length) :
 ((Array.range k).map fun i=>zv[i % zv.size]!)=(concs ρ (rep zs n)).toArray:=by
 subst h
 subst hk
 apply Array.ext'
 rw [Array.toList_map,Array.toList_range,rep_spec]
 simp [concs_len]

include H in
theorem zerosA_sound {el n len:Nat} {zs:List AV} (h:zerosA T el n len=some zs) :
 (∃ zv:Array Value,(∀ {α:Type} (K:Array Value→Sem α),(if len*n=0 then (pure #[] >>= K) else (zeroValue el >>= fun v=>(pure v.cells >>= K))).run P w=(K zv).run P w)∧((Array.range (len*n)).map fun i=>zv[i % zv.size]!)=(concs ρ zs).toArray)∧∀ S,sups S zs:=by
 unfold zerosA at h
 cases h0:Nat.beq (len*n) 0 with
 | true =>
   rw [h0] at h
   injection h with h
   subst h
   have e:=Nat.eq_of_beq_eq_true h0
   refine ⟨⟨#[],fun K=>?_,?_⟩,fun _=>trivial⟩
   ·rw [if_pos e]; rfl
   ·rw [e]; simp [concs]
 | false =>
   rw [h0] at h
   simp only [cond_false] at h
   split at h
   ·rename_i z hz
    cases hn:Nat.beq z.cells.length n with
    | false=>rw [hn] at h; cases h
    | true =>
      rw [hn] at h
      injection h with h
      subst h
      obtain ⟨i,v,hi,hv0,hvz,hvc⟩:=zero_cells H (ρ:=ρ) hr hm hz
      have hne:len*n ≠ 0:=Nat.ne_of_beq_eq_false h0
      refine ⟨⟨v.cells,fun K=>?_,zeros_arr hr hm hvc len _ (by rw [Nat.eq_of_beq_eq_true hn])⟩,fun S=>rep_sup (sup_cells (zero_sup hr hm hz)) len⟩
      rw [if_neg hne,Sem.run_bind,H.zero_run ρ hz w,hvz]
      rfl
   ·cases h

include H in
theorem buildSlice_sound {t len:Nat} {ps:Array (Nat×Operand)} (hs:RSup (fun b=>b<m.next) r) (ho:o.op = .buildSlice t len ps) (h:opA T r m (.buildSlice t len ps)=some e):Does ρ r m w ((execOp a.eval o).run P w) e:=by
 simp only [opA,opBuildSlice] at h
 split at h
 ·rename_i el n vs he hv
  cases hb:Nat.ble (len*n) 1000000 with
  | false=>rw [hb] at h; cases h
  | true =>
    rw [hb] at h
    simp only [cond_true] at h
    split at h
    ·rename_i z hz
     simp only [Option.map_eq_some_iff] at h
     obtain ⟨cs,hc,rfl⟩:=h
     obtain ⟨hu,i,hi,hsz⟩:=elemOf_sound he
     obtain ⟨⟨zv,hz1,hz2⟩,hz3⟩:=zerosA_sound H (w:=w) hr hm hz
     refine new_slice (vs:=(concs ρ cs).toArray) (t:=el) hr hm cs (fun S h1 _=>fill_sup hc (hz3 S) (evParts_sup hr hm h1 hv)) (fill_sup hc (hz3 _) (evParts_sup hr hm hs hv)) rfl ?_
     have hle:=Nat.le_of_ble_eq_true hb
     simp only [execOp,ho,parts_arr hr hm hv]
     rw [Sem.run_bind]
     unfold Instr.buildSlice
     simp only [Sem.run_bind,run_underlying (H.un hu),Result.andThen_ok,H.size hi,hsz]
     rw [if_neg (by omega)]
     rw [hz1]
     simp only [hz2,fill_sound ρ hc,newRow]
     rfl
    ·cases h
 ·cases h

include H in
theorem makeSlice_sound {t:Nat} {l c:Operand} (ho:o.op = .makeSlice t l c) (h:opA T r m (.makeSlice t l c)=some e):Does ρ r m w ((execOp a.eval o).run P w) e:=by
 simp only [opA,opMakeSlice] at h
 split at h
 ·rename_i el n l' c' he hl hc
  split at h
  ·rename_i i hi
   cases hb:(Nat.ble l' c' && Nat.ble c' 1000000 && Nat.ble (c'*i.bytes) 1000000000) with
   | false=>rw [hb] at h; cases h
   | true =>
     rw [hb] at h
     simp only [cond_true] at h
     split at h
     ·rename_i z hz
      injection h with h
      subst h
      simp only [Bool.and_eq_true] at hb
      obtain ⟨⟨h1,h2⟩,h3⟩:=hb
      have h1:=Nat.le_of_ble_eq_true h1
      have h2:=Nat.le_of_ble_eq_true h2
      have h3:=Nat.le_of_ble_eq_true h3
      obtain ⟨hu,i',hi',hsz⟩:=elemOf_sound he
      rw [hi] at hi'
      injection hi' with hi'
      subst hi'
      obtain ⟨⟨zv,hz1,hz2⟩,hz3⟩:=zerosA_sound H (w:=w) hr hm hz
      refine new_slice (vs:=(concs ρ z).toArray) (t:=el) hr hm z (fun S h1 _=>hz3 S) (hz3 _) rfl ?_
      have w1:IntKind.i64.wrap (Int.ofNat l')=Int.ofNat l':=i64_small _ (by simp only [Int.ofNat_eq_natCast]; omega) (by simp only [Int.ofNat_eq_natCast]; omega)
      have w2:IntKind.i64.wrap (Int.ofNat c')=Int.ofNat c':=i64_small _ (by simp only [Int.ofNat_eq_natCast]; omega) (by simp only [Int.ofNat_eq_natCast]; omega)
      simp only [execOp,ho,hr.ev hl,hr.ev hc,AV.conc]
      rw [Sem.run_bind]
      unfold Instr.makeSlice
      simp only [Sem.run_bind,run_underlying (H.un hu),Result.andThen_ok,asInt,asIntOf_run,Sem.run_pure,run_typeInfo w (H.ty el i hi),w1,w2]
      rw [if_neg (by
       simp only [Int.ofNat_eq_natCast,Bool.or_eq_true,decide_eq_true_eq]
       rintro ((h | h) | h)
       ·rcases h with h | h
        ·omega
        ·have e:(i.bytes:Int)*(c':Int)=((c'*i.bytes:Nat):Int):=by rw [Nat.mul_comm c' i.bytes]; simp
         rw [e] at h
         omega
       ·omega
       ·omega)]
      rw [Sem.run_bind]
      have hroom:(askRoom ((Int.ofNat c').toNat*i.bytes)).run P w = .ok () w:=by
       unfold askRoom roomBytes
       rw [if_neg (by rw [show (Int.ofNat c').toNat=c' from rfl]; omega)]
       rfl
      rw [hroom,Result.andThen_ok,Sem.run_bind,H.size hi,Result.andThen_ok]
      simp only [show (Int.ofNat c').toNat=c' from rfl,show (Int.ofNat l').toNat=l' from rfl,hsz]
      rw [hz1]
      simp only [hz2,newRow]
      rfl
     ·cases h
  ·cases h
 ·cases h

theorem optNat_ev {x:Option Operand} {n:Option Nat} (h:optNat r x=some n):(x=none∧n=none)∨∃ y k i,x=some y∧n=some i∧a.eval y = .int k (Int.ofNat i):=by
 unfold optNat at h
 split at h
 ·injection h with h; exact .inl ⟨rfl,h.symm⟩
 ·rename_i y
  split at h
  ·rename_i k i hy
   injection h with h
   exact .inr ⟨y,k,i,rfl,h.symm,by rw [hr.ev hy]; rfl⟩
  ·cases h

theorem bound_run (k:IntKind) {i y:Nat} (h:i≤y) (c:BoundsCode):(Instr.sliceBound (.int k (Int.ofNat i)) y c).run P w = .ok i w:=by
 unfold Instr.sliceBound
 rw [Sem.run_bind,asIntOf_run,Result.andThen_ok]
 simp only
 rw [if_pos (by simp only [Int.ofNat_eq_natCast]; omega)]
 rfl

theorem bounds_run {lo hi:Option Operand} {l h:Option Nat} (hl:optNat r lo=some l) (hh:optNat r hi=some h) {len cap:Nat} (h1:l.getD 0≤h.getD len) (h2:h.getD len≤cap) :
 (Instr.sliceBounds true len cap (lo.map a.eval) (hi.map a.eval) none).run P w = .ok (l.getD 0,h.getD len,cap) w:=by
 unfold Instr.sliceBounds
 rcases optNat_ev hr hm hl with ⟨rfl,rfl⟩ | ⟨y,k,i,rfl,rfl,hy⟩ <;> rcases optNat_ev hr hm hh with ⟨rfl,rfl⟩ | ⟨z,k',j,rfl,rfl,hz⟩ <;>
  simp only [Option.getD_none,Option.getD_some] at h1 h2 <;>
  simp only [Option.map_none,Option.map_some,Sem.run_bind,Sem.run_pure,Result.andThen_ok,Option.getD_none,Option.getD_some]
 ·rw [hz,bound_run hr hm k' h2]; rfl
 ·rw [hy,bound_run hr hm k h1]; rfl
 ·rw [hz,bound_run hr hm k' h2,Result.andThen_ok,hy,bound_run hr hm k h1]; rfl

include H in
theorem slice_sound {t:Nat} {x:Operand} {lo hi:Option Operand} (ho:o.op = .slice t x lo hi none) (h:opA T r m (.slice t x lo hi none)=some e):Does ρ r m w ((execOp a.eval o).run P w) e:=by
 simp only [opA,opSlice] at h
 split at h
 ·rename_i v l h' hx hl hh
  simp only [Option.map_eq_some_iff] at h
  obtain ⟨u,hu,rfl⟩:=h
  unfold sliceA at hu
  split at hu
  ·rename_i p he
   obtain ⟨el,n⟩:=p
   obtain ⟨ht,i,hi',hsz⟩:=elemOf_sound he
   cases hb:(Nat.beq (l.getD 0) 0 && Nat.beq (h'.getD 0) 0) with
   | false=>rw [hb] at hu; cases hu
   | true =>
     rw [hb] at hu
     injection hu with hu
     subst hu
     simp only [Bool.and_eq_true] at hb
     have b1:=Nat.eq_of_beq_eq_true hb.1
     have b2:=Nat.eq_of_beq_eq_true hb.2
     refine Does.pure hm ?_ fun S _ _=>trivial
     simp only [execOp,ho,hr.ev hx,AV.conc,Option.map_none]
     rw [Sem.run_bind]
     unfold Instr.sliceAt
     rw [Sem.run_bind,run_underlying (H.un ht),Result.andThen_ok]
     simp only [Instr.slice,Sem.run_bind,run_underlying (H.un ht),Result.andThen_ok]
     rw [bounds_run hr hm hl hh (by omega) (by omega),Result.andThen_ok]
     simp only [Sem.run_bind,H.size hi',Result.andThen_ok,Sem.run_pure,b1,b2]
     simp
  ·rename_i p size b off len cap op he
   obtain ⟨ht,i,hi',hsz⟩:=elemOf_sound he
   simp only at hu
   cases hb:(Nat.ble (l.getD 0) (h'.getD len) && Nat.ble (h'.getD len) cap) with
   | false=>rw [hb] at hu; cases hu
   | true =>
     rw [hb] at hu
     simp only [cond_true] at hu
     simp only [Bool.and_eq_true] at hb
     have b1:=Nat.le_of_ble_eq_true hb.1
     have b2:=Nat.le_of_ble_eq_true hb.2
     have key:∀ q,(.slice (if (cap+bif op then (ρ b).extra else 0)=l.getD 0 then (some ⟨(ρ b).addr,off+(ρ b).shift,none⟩) else (some (⟨(ρ b).addr,off+(ρ b).shift,none⟩:Addr)).map (·.add (l.getD 0*size))) (h'.getD len - l.getD 0) ((cap+bif op then (ρ b).extra else 0) - l.getD 0):Value)=q→
      (execOp a.eval o).run P w = .ok (.value q) w:=by
      intro q hq
      simp only [execOp,ho,hr.ev hx,AV.conc,Option.map_none]
      rw [Sem.run_bind]
      unfold Instr.sliceAt
      rw [Sem.run_bind,run_underlying (H.un ht),Result.andThen_ok]
      simp only [Instr.slice,Sem.run_bind,run_underlying (H.un ht),Result.andThen_ok]
      rw [bounds_run hr hm hl hh b1 (by omega),Result.andThen_ok]
      simp only [Sem.run_bind,H.size hi',Result.andThen_ok,Sem.run_pure,hsz,hq]
     cases hc:(Nat.beq (l.getD 0) 0 || Nat.blt (l.getD 0) cap) with
     | true =>
       rw [hc] at hu
       injection hu with hu
       subst hu
       refine Does.pure hm (key _ ?_) fun S h1 _=>evA_sup (x:=x) (v:= .sl b off len cap op) h1 hx
       simp only [AV.conc,Option.map_some,add_at]
       rw [Bool.or_eq_true] at hc
       rcases hc with hc | hc
       ·have:=Nat.eq_of_beq_eq_true hc
        rw [this]
        simp only [Nat.zero_mul,Nat.add_zero,Nat.sub_zero]
        split <;> rfl
       ·have:l.getD 0<cap:=Nat.le_of_ble_eq_true hc
        rw [if_neg (by omega)]
        congr 2
        ·congr 1; omega
        ·omega
     | false =>
       rw [hc] at hu
       simp only [cond_false] at hu
       cases op with
       | true=>cases hu
       | false =>
         injection hu with hu
         subst hu
         refine Does.pure hm (key _ ?_) fun S h1 _=>evA_sup (x:=x) (v:= .sl b off len cap false) h1 hx
         simp only [Bool.or_eq_false_iff] at hc
         have c2:¬ l.getD 0<cap:=fun h=>by have:=Nat.ble_eq_true_of_le h; rw [show Nat.blt (l.getD 0) cap=Nat.ble (l.getD 0+1) cap from rfl] at hc; rw [this] at hc; cases hc.2
         have e1:l.getD 0=cap:=by omega
         have e2:h'.getD len=cap:=by omega
         simp only [AV.conc,cond_false,Nat.add_zero,e1,e2,if_true,Nat.sub_self]
  ·cases hu
 ·cases h

theorem makeMap_sound {t:Nat} (ho:o.op = .makeMap t none) (h:opA T r m (.makeMap t none)=some e):Does ρ r m w ((execOp a.eval o).run P w) e:=by
 simp only [opA,opMakeMap] at h
 injection h with h
 subst h
 refine ⟨ρ.put m.next ⟨w.heap.size,0,0⟩,w.alloc (.map #[] 0),?_,?_,fun S h1 h2=>⟨?_, .inr ⟨Nat.le_refl _,Nat.lt_succ_self _⟩⟩⟩
 ·simp only [execOp,ho,AV.conc,Rho.put_at]
  rfl
 ·refine post_fresh hm (.map [] 0) (fun e he=>by cases he) ⟨w.heap.size,0,0⟩ ((Below.refl _ _).alloc (Nat.le_refl _) _) (Nat.le_refl _) ?_
  show _=_
  rw [Rho.put_at,heap_alloc_new]
  rfl
 ·intro b k e
  simp only [Mem.new,Tr.get_put] at e
  split at e
  ·injection e with e
   subst e
   exact fun e he=>by cases he
  ·exact Blk.sup_mono (fun _ h=> .inl h) (h2 b k e)

end
end Go.Proofs.YtbdcjhoedhhabaaGreat

