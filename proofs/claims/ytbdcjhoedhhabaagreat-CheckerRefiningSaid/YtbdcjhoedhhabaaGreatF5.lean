/- Contracts of the functions that the statements reach, part 5. -/
import Derived.Laws.Tables
import Derived.Test.YtbdcjhoedhhabaaGreatF4
set_option linter.unusedSimpArgs false
set_option linter.unusedVariables false

/- The executor's operations, one by one: comparisons, parts of values, addresses. -/
namespace Go.Proofs.YtbdcjhoedhhabaaGreat
set_option linter.unusedSectionVars false
open Go.RowKit

theorem concs_at (ρ:Rho) (cs:List AV) (i:Nat):(concs ρ cs)[i]? = (cs[i]?).map (AV.conc ρ):=by simp [concs_eq]

section
variable {T:Tabs} {P:Program} (H:TabsOk T P) {ρ:Rho} {w:World}
include H

theorem eqPlain_sound {t:Nat} {x y:AV} {b:Bool} (h:eqPlain T t x y=some b) (d:Nat) :
 (∃ a,Go.isAgg t=a∧a.run P w = .ok false w)∧(Op.equalIn (d+1) t (x.conc ρ) (y.conc ρ)).run P w = .ok b w:=by
 unfold eqPlain at h
 split at h
 ·rename_i k j a k' c hu
  cases hk:kindEq j k' with
  | false=>rw [hk] at h; cases h
  | true =>
    rw [hk] at h
    injection h with h
    subst h
    have:=kindEq_of hk
    subst this
    refine ⟨⟨_,rfl,?_⟩,?_⟩
    ·unfold Go.isAgg; rw [Sem.run_bind,run_underlying (H.un hu)]; rfl
    ·rw [ieq_eq]; exact run_equalIn_int w d t j k a c (H.un hu)
 ·rename_i a c hu
  injection h with h
  subst h
  refine ⟨⟨_,rfl,?_⟩,run_equalIn_bool' w d t a c (H.un hu)⟩
  unfold Go.isAgg; rw [Sem.run_bind,run_underlying (H.un hu)]; rfl
 ·rename_i a c hu
  injection h with h
  subst h
  refine ⟨⟨_,rfl,?_⟩,?_⟩
  ·unfold Go.isAgg; rw [Sem.run_bind,run_underlying (H.un hu)]; rfl
  ·rw [←toList_bytes,← toList_bytes]; exact run_equalIn_string w d t a c (H.un hu)
 ·cases h

theorem part_plain {t:Nat} {x y:AV} {b:Bool} (h:eqPlain T t x y=some b) {cs:List AV} {off:Nat} {z:AV} (hz:cs[off]? = some z) :
 (part t (concs ρ cs).toArray off).run P w = .ok (z.conc ρ) w:=by
 obtain ⟨⟨a,ha,hr⟩,_⟩:=eqPlain_sound H (ρ:=ρ) (w:=w) h 0
 unfold part
 rw [Sem.run_bind,ha,hr]
 have e:(concs ρ cs).toArray[off]? = some (z.conc ρ):=by rw [List.getElem?_toArray,concs_at,hz]; rfl
 simp only [Result.andThen_ok,Bool.false_eq_true,if_false,e]
 rfl

theorem eqFields_sound {xs ys:List AV} (d:Nat):∀ {fs:List Field} {b:Bool},eqFields T xs ys fs=some b→(Op.eqFields (d+1) (concs ρ xs).toArray (concs ρ ys).toArray fs).run P w = .ok b w
 | [],b,h=>by injection h with h; subst h; rfl
 | f :: fs, b, h => by
   rw [eqFields] at h
   cases hn : f.name == "_" with
   | true=>rw [hn] at h; cases h
   | false =>
     rw [hn] at h
     simp only [Bool.not_false,cond_true] at h
     have hne : f.name ≠ "_" := by simpa using hn
     split at h
     ·rename_i x y hx hy
      have step:∀ b',eqPlain T f.type x y=some b'→(Op.eqFields (d+1) (concs ρ xs).toArray (concs ρ ys).toArray (f :: fs)).run P w =
       (if (!b')=true then (pure false:Sem Bool) else Op.eqFields (d+1) (concs ρ xs).toArray (concs ρ ys).toArray fs).run P w:=by
       intro b' hb
       rw [Op.eqFields,if_pos hne]
       rw [Sem.run_bind,part_plain H hb hx,Result.andThen_ok,Sem.run_bind,part_plain H hb hy,Result.andThen_ok,Sem.run_bind,(eqPlain_sound H hb d).2,Result.andThen_ok]
      split at h
      ·rename_i hb
       rw [step _ hb]
       exact eqFields_sound d h
      ·rename_i r hne
       cases b with
       | true=>exact (hne h).elim
       | false=>rw [step _ h]; rfl
     ·cases h

theorem eqElems_sound {e:Nat} {xs ys:List AV} (d:Nat):∀ {n i:Nat} {b:Bool},eqElems T e xs ys n i=some b→(Op.eqItems (d+1) e 1 (concs ρ xs).toArray (concs ρ ys).toArray (List.range' i n)).run P w = .ok b w
 | 0,i,b,h=>by injection h with h; subst h; rfl
 | n + 1, i, b, h => by
   rw [eqElems] at h
   split at h
   ·rename_i x y hx hy
    have step:∀ b',eqPlain T e x y=some b'→(Op.eqItems (d+1) e 1 (concs ρ xs).toArray (concs ρ ys).toArray (List.range' i (n+1))).run P w =
     (if (!b')=true then (pure false:Sem Bool) else Op.eqItems (d+1) e 1 (concs ρ xs).toArray (concs ρ ys).toArray (List.range' (i+1) n)).run P w:=by
     intro b' hb
     rw [List.range'_succ,Op.eqItems,Nat.mul_one]
     rw [Sem.run_bind,part_plain H hb hx,Result.andThen_ok,Sem.run_bind,part_plain H hb hy,Result.andThen_ok,Sem.run_bind,(eqPlain_sound H hb d).2,Result.andThen_ok]
    split at h
    ·rename_i hb
     rw [step _ hb]
     exact eqElems_sound d h
    ·rename_i r hne
     cases b with
     | true=>exact (hne h).elim
     | false=>rw [step _ h]; rfl
   ·cases h

theorem eqAgg_sound {t:Nat} {xs ys:List AV} {b:Bool} (h:eqAgg T t xs ys=some b):P.eqGuardType P.depth t=false∧(Op.equalIn 10000 t (.agg (concs ρ xs).toArray) (.agg (concs ρ ys).toArray)).run P w = .ok b w:=by
 unfold eqAgg at h
 cases he:T.eqs.any (Nat.beq t) with
 | false=>rw [he] at h; cases h
 | true =>
   rw [he] at h
   obtain ⟨u,hu,hb⟩:=List.any_eq_true.1 he
   have:=Nat.eq_of_beq_eq_true hb
   subst this
   obtain ⟨h1,h2⟩:=H.eqs t hu
   refine ⟨h2,?_⟩
   simp only [cond_true] at h
   split at h
   ·rename_i fs hu
    have hf:P.fieldsOf t=fs:=by unfold Program.fieldsOf; rw [H.un hu]
    rw [run_equalIn_agg w 9999 t _ _ (by rw [hf]; exact H.un hu) h1,hf]
    exact eqFields_sound H 9998 h
   ·rename_i n e hu
    split at h
    ·rename_i hs
     unfold sizeA at hs
     simp only [Option.map_eq_some_iff] at hs
     obtain ⟨i,hi,hsz⟩:=hs
     have hc:P.cellsOf e=1:=by unfold Program.cellsOf; rw [H.ty e i hi]; exact hsz
     rw [run_equalIn_array w 9999 _ _ (H.un hu) (H.ty e i hi),hc,List.range_eq_range']
     exact eqElems_sound H 9998 h
    ·cases h
   ·cases h

theorem nil_sound {t:Nat} {e:TypeId} (hu:P.underlying t=some (.slice e)) {a b:AV} {c:Bool} (h:eqNil a b=some c) {op:BinOp} {v:AV} (hv:eqOp op c=some v) :
 (binOp op t (a.conc ρ) (b.conc ρ)).run P w = .ok (v.conc ρ) w:=by
 have key:(Op.equal t (a.conc ρ) (b.conc ρ)).run P w = .ok c w:=by
  show (Op.equalIn (9999+1) t (a.conc ρ) (b.conc ρ)).run P w = .ok c w
  generalize 9999=d
  cases a <;> cases b <;> cases h <;>
   (rw [Op.equalIn,Sem.run_bind,run_underlying hu]; rfl)
 rcases eqOp_flat hv with ⟨rfl,rfl⟩ | ⟨rfl,rfl⟩ <;> cases a <;> cases b <;> cases h <;>
  simp only [AV.conc] at key ⊢ <;> simp only [binOp,Sem.run_bind,key,Result.andThen_ok] <;> rfl

theorem cmpA_sound {t:Nat} {op:BinOp} {a b v:AV} (h:cmpA T t op a b=some v) (x y:Operand) :
 (do eqGuard op t x y (a.conc ρ) (b.conc ρ); binOp op t (a.conc ρ) (b.conc ρ):Sem Value).run P w = .ok (v.conc ρ) w∧v.flat:=by
 unfold cmpA at h
 split at h
 ·obtain ⟨h1,h2⟩:=intA_sound (P:=P) ρ w h t
  refine ⟨?_,h2⟩
  rw [Sem.run_bind,eqGuard_conc ρ w op t x y (by intro _ _ e; cases e),Result.andThen_ok]
  exact h1
 ·rename_i a b
  split at h
  ·rename_i hu
   refine ⟨?_,by rcases eqOp_flat h with ⟨_,rfl⟩ | ⟨_,rfl⟩ <;> trivial⟩
   rw [Sem.run_bind,eqGuard_conc ρ w op t x y (by intro _ _ e; cases e),Result.andThen_ok]
   have key:(Op.equal t (.bool a) (.bool b)).run P w = .ok (a == b) w:=run_equalIn_bool w 9999 t a b (H.un hu)
   rcases eqOp_flat h with ⟨rfl,rfl⟩ | ⟨rfl,rfl⟩ <;> simp only [AV.conc,binOp,Sem.run_bind,key,Result.andThen_ok] <;> rfl
  ·cases h
 ·obtain ⟨h1,h2⟩:=strA_sound (P:=P) ρ w h t
  refine ⟨?_,h2⟩
  rw [Sem.run_bind,eqGuard_conc ρ w op t x y (by intro _ _ e; cases e),Result.andThen_ok]
  exact h1
 ·simp only [Option.bind_eq_some_iff] at h
  obtain ⟨c,hc,h⟩:=h
  obtain ⟨h1,h2⟩:=eqAgg_sound H (ρ:=ρ) (w:=w) hc
  refine ⟨?_,by rcases eqOp_flat h with ⟨_,rfl⟩ | ⟨_,rfl⟩ <;> trivial⟩
  simp only [AV.conc]
  rw [Sem.run_bind,run_eqGuard_agg w op t x y _ _ h1,Result.andThen_ok]
  rcases eqOp_flat h with ⟨rfl,rfl⟩ | ⟨rfl,rfl⟩
  ·rw [run_eql_struct,h2]; rfl
  ·rw [run_neq_struct,h2]; rfl
 ·rename_i h1 h2 h3 h4
  split at h
  ·rename_i e hu
   simp only [Option.bind_eq_some_iff] at h
   obtain ⟨c,hc,h⟩:=h
   refine ⟨?_,by rcases eqOp_flat h with ⟨_,rfl⟩ | ⟨_,rfl⟩ <;> trivial⟩
   rw [Sem.run_bind,eqGuard_conc ρ w op t x y (fun xs ys e1 e2=>h4 xs ys e1 e2),Result.andThen_ok]
   exact nil_sound H (H.un hu) hc h
  ·cases h

end

section
variable {T:Tabs} {P:Program} (H:TabsOk T P) {ρ:Rho} {N:Nat} {r:Regs} {m:Mem} {a:Act} {w:World} (hr:RegOk ρ N r a) (hm:MemOk ρ m w) {o:Oper} {e:Eff}
include hr hm

include H in
theorem binOp_sound {op:BinOp} {t:Nat} {x y:Operand} {u:Nat} (ho:o.op = .binOp op t x y u) (h:opA T r m (.binOp op t x y u)=some e):Does ρ r m w ((execOp a.eval o).run P w) e:=by
 simp only [opA,opBinOp] at h
 split at h
 ·rename_i b c hb hc
  simp only [Option.map_eq_some_iff] at h
  obtain ⟨v,hv,rfl⟩:=h
  obtain ⟨h1,h2⟩:=cmpA_sound H (ρ:=ρ) (w:=w) hv x y
  refine Does.pure hm ?_ fun S _ _=>h2.sup S
  simp only [execOp,ho,hr.ev hb,hr.ev hc]
  rw [Sem.run_bind,h1]
  rfl
 ·cases h

theorem unOp_sound {op:UnOp} {t:Nat} {x:Operand} (ho:o.op = .unOp op t x) (h:opA T r m (.unOp op t x)=some e):Does ρ r m w ((execOp a.eval o).run P w) e:=by
 simp only [opA,opUnOp,Option.bind_eq_some_iff,Option.map_eq_some_iff] at h
 obtain ⟨b,hb,v,hv,rfl⟩:=h
 have key:(Op.unary op (b.conc ρ)).run P w = .ok (v.conc ρ) w∧v.flat:=by
  unfold unA at hv
  split at hv <;> cases hv
  ·exact ⟨rfl,trivial⟩
  ·rw [wrapA_eq]; exact ⟨rfl,trivial⟩
  ·exact ⟨rfl,trivial⟩
 refine Does.pure hm ?_ fun S _ _=>key.2.sup S
 simp only [execOp,ho,hr.ev hb]
 rw [Sem.run_bind,key.1]
 rfl

include H in
theorem convert_sound {s d:Nat} {x:Operand} (ho:o.op = .convert s d x) (h:opA T r m (.convert s d x)=some e):Does ρ r m w ((execOp a.eval o).run P w) e:=by
 simp only [opA,opConvert] at h
 split at h
 ·rename_i k j n hu hx
  cases hs:T.un s with
  | none=>rw [hs] at h; cases h
  | some us =>
    rw [hs] at h
    injection h with h
    subst h
    refine Does.pure hm ?_ fun S _ _=>trivial
    simp only [execOp,ho,hr.ev hx,AV.conc,wrapA_eq]
    rw [Sem.run_bind]
    unfold Go.convert
    rw [Sem.run_bind,run_underlying (H.un hs),Result.andThen_ok,Sem.run_bind,run_underlying (H.un hu)]
    rfl
 ·cases h

theorem nilCheck_sound {x:Operand} (ho:o.op = .nilCheck x) (h:opA T r m (.nilCheck x)=some e):Does ρ r m w ((execOp a.eval o).run P w) e:=by
 simp only [opA,opNilCheck] at h
 split at h
 ·rename_i b off hx
  injection h with h
  subst h
  refine Does.pure hm ?_ fun S h1 _=>evA_sup h1 hx
  simp only [execOp,ho,hr.ev hx,AV.conc]
  rfl
 ·rename_i f fs cs hx
  injection h with h
  subst h
  refine Does.pure hm ?_ fun S h1 _=>evA_sup h1 hx
  simp only [execOp,ho,hr.ev hx,AV.conc]
  rfl
 ·cases h

theorem extract_sound {x:Operand} {i:Nat} (ho:o.op = .extract x i) (h:opA T r m (.extract x i)=some e):Does ρ r m w ((execOp a.eval o).run P w) e:=by
 simp only [opA,opExtract] at h
 split at h
 ·rename_i vs hx
  simp only [Option.map_eq_some_iff] at h
  obtain ⟨v,hv,rfl⟩:=h
  refine Does.pure hm ?_ fun S h1 _=>sups_mem (evA_sup h1 hx) v (List.mem_of_getElem? hv)
  have e:(concs ρ vs).toArray[i]? = some (v.conc ρ):=by rw [List.getElem?_toArray,concs_at,hv]; rfl
  simp only [execOp,ho,hr.ev hx,AV.conc,Instr.extract,e]
  rfl
 ·cases h

theorem evL_sup {S:Nat→Prop} (hS:RSup S r):∀ {l:List Operand} {vs:List AV},evL r l=some vs→sups S vs
 | [],vs,e=>by injection e with e; subst e; trivial
 | x :: l, vs, e => by
   unfold evL at e
   split at e
   ·rename_i v hv
    split at e
    ·rename_i us hu
     injection e with e
     subst e
     exact ⟨evA_sup hS hv,evL_sup hS hu⟩
    ·cases e
   ·cases e

theorem evs_arr {l:Array Operand} {vs:List AV} (h:evL r l.toList=some vs):l.map a.eval=(concs ρ vs).toArray:=by
 apply Array.ext'
 rw [Array.toList_map]
 exact hr.evs h

theorem makeFunc_sound {f:FuncId} {fs cs:Array Operand} (ho:o.op = .makeFunc (.func f) fs cs) (h:opA T r m (.makeFunc (.func f) fs cs)=some e):Does ρ r m w ((execOp a.eval o).run P w) e:=by
 change (match evL r fs.toList,evL r cs.toList with | some fs,some cs=>some (.val (.fn f fs cs) m) | _,_=>none)=some e at h
 split at h
 ·rename_i us vs hu hv
  injection h with h
  subst h
  refine Does.pure hm ?_ fun S h1 _=>⟨evL_sup hr hm h1 hu,evL_sup hr hm h1 hv⟩
  simp only [execOp,ho,evs_arr hr hm hu,evs_arr hr hm hv,AV.conc]
  rfl
 ·cases h

end
end Go.Proofs.YtbdcjhoedhhabaaGreat

/- The executor's operations, one by one: parts of values, addresses, slices, composites. -/
namespace Go.Proofs.YtbdcjhoedhhabaaGreat
set_option linter.unusedSectionVars false
open Go.RowKit

theorem fold_set (off:Nat):∀ (vs:List Value) (k:Nat) (cs:List Value),off+k+vs.length≤cs.length→
 (vs.zipIdx k).foldl (fun (cs:Array Value) (p:Value×Nat)=>cs.setIfInBounds (off+p.2) p.1) cs.toArray=(cs.take (off+k) ++ vs ++ cs.drop (off+k+vs.length)).toArray
 | [],k,cs,_=>by simp
 | v :: vs, k, cs, h => by
   simp only [List.length_cons] at h
   rw [List.zipIdx_cons,List.foldl_cons]
   simp only [List.setIfInBounds_toArray]
   rw [fold_set off vs (k+1) (cs.set (off+k) v) (by rw [List.length_set]; omega)]
   congr 1
   rw [show off+(k+1)=off+k+1 by omega,List.take_set,List.drop_set_of_lt (by omega),List.length_cons,
    show off+k+1+vs.length=off+k+(vs.length+1) by omega]
   have hlt:off+k<cs.length:=by omega
   have e:(cs.take (off+k+1)).set (off+k) v=cs.take (off+k) ++ [v]:=by
    rw [List.take_add_one,List.getElem?_eq_getElem hlt,Option.toList_some,List.set_append]
    have:(cs.take (off+k)).length=off+k:=by rw [List.length_take]; omega
    rw [if_neg (by omega),this,Nat.sub_self]
    rfl
   rw [e]
   simp

/-- The parts of a composite, as the model has them. -/
def concParts (ρ:Rho) (vs:List (Nat×AV)):List (Nat×Value):=vs.map fun p=>(p.1,p.2.conc ρ)

theorem fill_sound (ρ:Rho) {place:Nat→Option (Nat×Nat)}:∀ {vs:List (Nat×AV)} {cs cs':List AV},fillA place cs vs=some cs'→
 Instr.fill place (concs ρ cs).toArray (concParts ρ vs)=some (concs ρ cs').toArray
 | [],cs,cs',h=>by injection h with h; subst h; rfl
 | (i, v) :: vs, cs, cs', h => by
   rw [fillA] at h
   split at h
   ·rename_i off size hp
    cases hn:Nat.beq v.cells.length size with
    | false=>rw [hn] at h; cases h
    | true =>
      rw [hn] at h
      simp only [cond_true,Option.bind_eq_some_iff] at h
      obtain ⟨c,hc,h⟩:=h
      obtain ⟨h1,h2,_⟩:=putCells_spec _ _ _ _ hc
      have hsz:(v.conc ρ).cells.size=v.cells.length:=by rw [←Array.length_toList,conc_cells,concs_len]
      have e:=Nat.eq_of_beq_eq_true hn
      have hlen:(concs ρ cs).toArray.size=cs.length:=by simp [concs_len]
      have hg:(decide ((v.conc ρ).cells.size ≠ size) || decide (off+(v.conc ρ).cells.size > (concs ρ cs).toArray.size))=false:=by
       rw [hsz,hlen,e]
       simp only [ne_eq,not_true_eq_false,decide_false,Bool.false_or,decide_eq_false_iff_not]
       omega
      show Instr.fill place (concs ρ cs).toArray ((i,v.conc ρ) :: concParts ρ vs)=_
      rw [Instr.fill,hp]
      simp only
      rw [if_neg (by simpa using hg)]
      have key:(v.conc ρ).cells.zipIdx.foldl (fun (cs:Array Value) (x:Value×Nat)=>match x with | (c,j)=>cs.setIfInBounds (off+j) c) (concs ρ cs).toArray=(concs ρ c).toArray:=by
       rw [←Array.foldl_toList,Array.toList_zipIdx,conc_cells]
       have:=fold_set off (concs ρ v.cells) 0 (concs ρ cs) (by simp only [concs_len]; omega)
       rw [Nat.add_zero] at this
       rw [h1]
       simp only [concs_append,concs_take,concs_drop,concs_len] at this ⊢
       exact this
      rw [key]
      exact fill_sound ρ h
   ·cases h

theorem fill_sup {S:Nat→Prop} {place:Nat→Option (Nat×Nat)}:∀ {vs:List (Nat×AV)} {cs cs':List AV},fillA place cs vs=some cs'→sups S cs→(∀ p∈vs,p.2.sup S)→sups S cs'
 | [],cs,cs',h,hc,_=>by injection h with h; subst h; exact hc
 | (i, v) :: vs, cs, cs', h, hc, hv => by
   rw [fillA] at h
   split at h
   ·rename_i off size hp
    cases hn:Nat.beq v.cells.length size with
    | false=>rw [hn] at h; cases h
    | true =>
      rw [hn] at h
      simp only [cond_true,Option.bind_eq_some_iff] at h
      obtain ⟨c,hc',h⟩:=h
      obtain ⟨h1,h2,_⟩:=putCells_spec _ _ _ _ hc'
      refine fill_sup h ?_ fun p hp=>hv p (List.mem_cons_of_mem _ hp)
      rw [h1]
      have hvc:sups S v.cells:=sup_cells (hv (i,v) List.mem_cons_self)
      refine sups_of fun u hu=>?_
      rcases List.mem_append.1 hu with hu | hu
      ·rcases List.mem_append.1 hu with hu | hu
       ·exact sups_mem hc u (List.mem_of_mem_take hu)
       ·exact sups_mem hvc u hu
      ·exact sups_mem hc u (List.mem_of_mem_drop hu)
   ·cases h

theorem rep_spec (ρ:Rho) (zs:List AV):∀ n,(concs ρ (rep zs n))=((List.range (n*zs.length)).map fun i=>(concs ρ zs)[i % zs.length]!)
 | 0=>by simp [rep,concs]
 | n + 1 => by
   rw [rep,concs_append,rep_spec ρ zs n]
   have e:(n+1)*zs.length=zs.length+n*zs.length:=by rw [Nat.add_mul,Nat.one_mul,Nat.add_comm]
   rw [e,List.range_add,List.map_append]
   congr 1
   ·apply List.ext_getElem
    ·simp [concs_len]
    ·intro i h1 h2
     simp only [List.getElem_map,List.getElem_range]
     rw [concs_len] at h1
     rw [Nat.mod_eq_of_lt h1,getElem!_pos (concs ρ zs) i (by rw [concs_len]; exact h1)]
   ·rw [List.map_map]
    apply List.map_congr_left
    intro i _
    simp only [Function.comp,Nat.add_mod_left]

theorem rep_sup {S:Nat→Prop} {zs:List AV} (h:sups S zs):∀ n,sups S (rep zs n)
 | 0=>trivial
 | n + 1 => sups_of fun v hv => by
   rcases List.mem_append.1 hv with hv | hv
   ·exact sups_mem h v hv
   ·exact sups_mem (rep_sup h n) v hv

end Go.Proofs.YtbdcjhoedhhabaaGreat

