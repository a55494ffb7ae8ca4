/- Contracts of the functions that the statements reach, part 28. -/
import Derived.Test.YtbdcjhoedhhabaaGreatRows
import Derived.Test.YtbdcjhoedhhabaaGreatF2
import Derived.Test.YtbdcjhoedhhabaaGreatF25
import Derived.Test.YtbdcjhoedhhabaaGreatF26
import Derived.Test.YtbdcjhoedhhabaaGreatF27
set_option linter.unusedSimpArgs false
set_option linter.unusedVariables false

/- channel.sum and the reference's rowSum. -/
namespace Go.Proofs.YtbdcjhoedhhabaaGreat
open Go.RowKit
attribute [local go_sem ↓] Go.wp_at_zero Go.wp_at_succ

theorem drop_at {zs:List Int} {c:Nat} {z:Int} (h:zs[c]? = some z):zs.drop c=z :: zs.drop (c+1):=by
 have hc:=(List.getElem?_eq_some_iff.1 h).1
 rw [List.drop_eq_getElem_cons hc]
 have:=(List.getElem?_eq_some_iff.1 h).2
 rw [this]

set_option maxRecDepth 100000 in
set_option maxHeartbeats 4000000 in
theorem csum_any (w:World) (v:Value) (zs:List Int) (h:IntsV w v zs) :
 Calls Tryz.prog 376 #[v] w fun e w'=>e = .returned (.int .i64 (rsumA 0 zs))∧Below w.heap.size w w':=by
 have H:=Lib.hid h
 obtain ⟨A,cap,rfl,h,l1,l2⟩:=h.op
 have lm:zs.length≤9223372036854775807:=by unfold maxLen at l2; omega
 clear h
 obtain ⟨n,hn⟩:∃ n,zs.length=n:=⟨_,rfl⟩
 rw [hn] at l1 lm
 rw [hn]
 have HN:=Lib.hid hn
 obtain ⟨R,hR⟩:∃ R,rsumA 0 zs=R:=⟨_,rfl⟩
 rw [hR]
 have HR:=Lib.hid hR
 clear hn hR
 go_enter Tryz.func376,Tryz.ntmps376
 go_wp2_with fail
 go_loopw [3,8] (fun tv i wr=>∃ (c:Nat) (t:Int),c≤n∧i = .int .i64 c∧tv = .int .i64 t∧0≤t∧t≤1048576∧Hid (rsumA t (zs.drop c)=R)∧Below w.heap.size w wr) (fun _ i _=>n - (intOf i).toNat)
 case atStart=>exact ⟨0,0,by omega,rfl,rfl,by decide,by decide,HR.out,bel⟩
 case round=>
  obtain ⟨c,t,hc,rfl,rfl,ht0,ht1,hr,hB⟩:=hrel
  obtain ⟨wo,rfl⟩:∃ wo:World,wo=wr:=⟨_,rfl⟩
  have y5:=hB.size
  by_cases hlt:c<n
  ·obtain ⟨z,hz⟩:∃ z,zs[c]? = some z:=⟨_,List.getElem?_eq_getElem (by rw [HN.out]; exact hlt)⟩
   have hh:=H.out.keep (.of_below hB)
   rw [HN.out] at hh
   obtain ⟨a,rfl,hb,x0,zb1,zb2⟩:=hh.at hz
   have k0:(0:Int)≤(c:Int):=by omega
   have k1:(c:Int)<(n:Int):=by omega
   have hd:=drop_at hz
   have HS:Hid ((if z<0∨1048576 - t<z then -1 else rsumA (t+z) (zs.drop (c+1)))=R):=by
    have h9:=hr.out
    rw [hd] at h9
    exact h9
   clear hz hh hd hr
   by_cases hz0:z<0
   ·have HE:Hid (R = -1):=by have h9:=HS.out; rw [if_pos (.inl hz0)] at h9; exact h9.symm
    have d1:decide (z<0)=true:=decide_eq_true hz0
    go_wp2_with fail
    go_ret
    exact ⟨by first | (rw [HE.out]; rfl) | rw [HE.out] | (rw [←HE.out]; rfl),bel⟩
   ·have d1:decide (z<0)=false:=decide_eq_false hz0
    have hw:IntKind.i64.wrap (1048576 - t)=1048576 - t:=by rw [IntKind.wrap_i64]; omega
    by_cases hz1:1048576 - t<z
    ·have HE:Hid (R = -1):=by have h9:=HS.out; rw [if_pos (.inr hz1)] at h9; exact h9.symm
     have d2:decide (1048576 - t<z)=true:=decide_eq_true hz1
     go_wp2_with fail
     go_ret
     exact ⟨by first | (rw [HE.out]; rfl) | rw [HE.out] | (rw [←HE.out]; rfl),bel⟩
    ·have HE:Hid (rsumA (t+z) (zs.drop (c+1))=R):=by have h9:=HS.out; rw [if_neg (by omega)] at h9; exact h9
     have d2:decide (1048576 - t<z)=false:=decide_eq_false hz1
     have hw2:IntKind.i64.wrap (t+z)=t+z:=by rw [IntKind.wrap_i64]; omega
     go_wp2_with fail
     go_roundw
     case rel=>exact ⟨c+1,t+z,by omega,by go_num,by first | rfl | go_num,by omega,by omega,HE.out,bel⟩
     case measure=>simp only [intOf]; omega
  ·obtain rfl:c=n:=by omega
   have HE:Hid (t=R):=by
    have h9:=hr.out
    rw [List.drop_eq_nil_of_le (by rw [HN.out]; exact Nat.le_refl _)] at h9
    exact h9
   go_wp2_with fail
   go_ret
   exact ⟨by first | (rw [HE.out]; rfl) | rw [HE.out] | (rw [←HE.out]; rfl),bel⟩

/- slices.ContainsFunc at lists of integers, for any predicate. -/

/-- A function with a body: a call of it enters it. -/
def Enters (F:Nat):Prop:=∀ (args:Array Value) (W:World),(callFunc F args).run Tryz.prog W = .ok (.enter F args) W
theorem enters {F : Nat} {fn : Func} (hf : Tryz.prog.funcs[F]? = some fn) (hb : fn.body.isNone = false) (hn : (fn.name == "runtime.NumGoroutine") = false) : Enters F := fun args W => by
 have hb2:¬ fn.body=none:=fun h=>by rw [h] at hb; cases hb
 have hn2:=beq_eq_false_iff_ne.1 hn
 simp [callFunc,go_sem,hf,hb2,hn2]
/-- A function that tells whether P, at the rows of L. -/
def TellsI (w:World) (F:Nat) (caps:Array Value) (P:List Int→Prop) (L:List (List Int)):Prop:=
 ∀ (W:World) (A:Option Addr) (c:Nat) (l:List Int),Below w.heap.size w W→IntsV W (.slice A l.length c) l→l∈L→Calls Tryz.prog F (#[.slice A l.length c] ++ caps) W fun e w'=>Tells (P l) e∧Below W.heap.size W w'

set_option maxRecDepth 100000 in
set_option maxHeartbeats 4000000 in
theorem indexI_any (w:World) (F:Nat) (caps:Array Value) (P:List Int→Prop) (v:Value) (L:List (List Int)) (h:IMat w v L) (hen:Enters F) (hF:TellsI w F caps P L) :
 Calls Tryz.prog 162 #[v, .func (Fn.func F) #[] caps] w fun e w'=>∃ r:Int,e = .returned (.int .i64 r)∧((0≤r∧∃ l∈L,P l)∨(r<0∧∀ l∈L,¬ P l))∧Below w.heap.size w w':=by
 have H:=Lib.hid h
 have HF:=Lib.hid hF
 have hen2:∀ (args:Array Value) (W:World),(callFunc F args).run Tryz.prog W = .ok (.enter F args) W:=hen
 obtain ⟨A,cap,rfl,h,l1,l2⟩:=h.op
 have lm:L.length≤9223372036854775807:=by unfold maxLen at l2; omega
 clear h hF
 obtain ⟨m,hm⟩:∃ m,L.length=m:=⟨_,rfl⟩
 rw [hm] at l1 lm
 rw [hm]
 have HM:=Lib.hid hm
 clear hm
 go_enter Tryz.func162,Tryz.ntmps162
 go_wp2_with fail
 go_loopw [8] (fun i wr=>∃ (c:Nat),c≤m∧i = .int .i64 c∧Hid (∀ i l,i<c→L[i]? = some l→¬ P l)∧Below w.heap.size w wr) (fun i _=>m - (intOf i).toNat)
 case atStart=>exact ⟨0,by omega,rfl,Lib.hid (fun i l hi=>absurd hi (by omega)),bel⟩
 case round=>
  obtain ⟨c,hc,rfl,hall,hB⟩:=hrel
  obtain ⟨wo,rfl⟩:∃ wo:World,wo=wr:=⟨_,rfl⟩
  have y5:=hB.size; (try simp only [zs] at y5)
  by_cases hlt:c<m
  ·obtain ⟨l,he⟩:∃ l,L[c]? = some l:=⟨_,List.getElem?_eq_getElem (by rw [HM.out]; exact hlt)⟩
   have hR:=H.out.keep (.of_below hB)
   rw [HM.out] at hR
   obtain ⟨a,D,d,rfl,hab,hcell,hnum,l3,l4⟩:=hR.at he
   have HE:=Lib.hid he
   have HNUM:=Lib.hid hnum
   have k0:(0:Int)≤(c:Int):=by omega
   have k1:(c:Int)<(m:Int):=by omega
   clear he hR hnum
   go_wp2_with fail
   refine (HF.out _ D d l hB HNUM.out (List.mem_of_getElem? HE.out)).mono ?_
   rintro e w2 ⟨⟨b,rfl,hb⟩,hb2⟩
   have y2:=hb2.size; (try simp only [zs] at y2)
   cases b
   ·have HGD:Hid (¬ P l):=fun h=>by have:=hb.out.2 h; cases this
    clear hb
    go_wp2_with fail
    go_roundw
    case rel=>
     refine ⟨c+1,by omega,by go_num,Lib.hid (fun i l' hi hl'=>?_),bel⟩
     by_cases hic:i<c
     ·exact hall.out i l' hic hl'
     ·obtain rfl:i=c:=by omega
      rw [HE.out] at hl'
      injection hl' with hl'
      subst hl'
      exact HGD.out
    case measure=>simp only [intOf]; omega
   ·have HGD:Hid (P l):=hb.out.1 rfl
    clear hb
    go_wp2_with fail
    go_ret
    exact ⟨_,rfl, .inl ⟨by omega,l,List.mem_of_getElem? HE.out,HGD.out⟩,bel⟩
  ·obtain rfl:c=m:=by omega
   have HALL:Hid (∀ l∈L,¬ P l):=fun l hl=>by
    obtain ⟨i,hi,rfl⟩:=List.mem_iff_getElem.1 hl
    exact hall.out i _ (by rw [←HM.out]; exact hi) (List.getElem?_eq_getElem hi)
   go_wp2_with fail
   go_ret
   exact ⟨_,rfl, .inr ⟨by decide,HALL.out⟩,hB⟩
set_option maxRecDepth 100000 in
set_option maxHeartbeats 4000000 in
theorem containsI_any (w:World) (F:Nat) (caps:Array Value) (P:List Int→Prop) (v:Value) (L:List (List Int)) (h:IMat w v L) (hen:Enters F) (hF:TellsI w F caps P L) :
 Calls Tryz.prog 60 #[v, .func (Fn.func F) #[] caps] w fun e w'=>Tells (∃ l∈L,P l) e∧Below w.heap.size w w':=by
 have H:=Lib.hid h
 have HF:=Lib.hid hF
 obtain ⟨A,cap,rfl,h,l1,l2⟩:=h.op
 clear h hF
 go_enter Tryz.func60,Tryz.ntmps60
 go_wp2_with fail
 refine (indexI_any _ F caps P _ L H.out hen HF.out).mono ?_
 rintro e w1 ⟨r,rfl,hr,hb1⟩
 have y1:=hb1.size; (try simp only [zs] at y1)
 have HR:=Lib.hid hr
 clear hr
 by_cases h0:0≤r
 ·have HV:Hid (∃ l∈L,P l):=by
   rcases HR.out with ⟨_,h⟩ | ⟨h,_⟩
   ·exact h
   ·omega
  go_wp2_with fail
  go_ret
  exact ⟨Tells.yes HV.out,bel⟩
 ·have HV:Hid (¬ ∃ l∈L,P l):=by
   rcases HR.out with ⟨h,_⟩ | ⟨_,h⟩
   ·omega
   ·exact fun ⟨l,hl,hp⟩=>h l hl hp
  have hd:decide (0≤r)=false:=decide_eq_false h0
  go_wp2_with fail
  go_ret
  exact ⟨by first | exact Tells.no HV.out | (simp only [hd]; exact Tells.no HV.out),bel⟩

/- Layer 8's law: raw lists of fractions; numbers. -/

def RF.q (e:RF):Rat:=rv e.n1 e.xs e.n2 e.ys
/-- The values of a list of raw fractions. -/
def qs (l:List RF):Nat→Rat:=fun i=>match l[i]? with
 | some e=>e.q
 | none=>0
/-- At most two words in each part. -/
def RF.few (e:RF):Prop:=e.xs.length≤2∧e.ys.length≤2
theorem qs_get {l:List RF} {i:Nat} {e:RF} (h:l[i]? = some e):qs l i=e.q:=by unfold qs; rw [h]

section
variable {w w':World} {X:Nat→Prop} {v:Value} {l:List RF} {k:Nat}
theorem RatAt.keep {a:Addr} {e:RF} (h:RatAt w X a e) (ha:a.block<w.heap.size) (hx:¬ X a.block) (hk:Keep X w w'):RatAt w' X a e:=by
 obtain ⟨C,c,D,d,h0,h1,h2,h3,h4⟩:=h
 exact ⟨C,c,D,d,cell_keep h0 ha hx hk,cell_keep h1 (by rw [addr_block]; exact ha) (by rw [addr_block]; exact hx) hk,cell_keep h2 (by rw [addr_block]; exact ha) (by rw [addr_block]; exact hx) hk,cell_keep h3 (by rw [addr_block]; exact ha) (by rw [addr_block]; exact hx) hk,h4.keep hk⟩
theorem Rats.keep (h:Rats w (fun _=>False) v l) (hk:Keep (fun _=>False) w w'):Rats w' (fun _=>False) v l:=by
 obtain ⟨A,cap,hv,h1,h2,h3⟩:=h
 refine ⟨A,cap,hv,h1,h2,fun hn=>?_⟩
 obtain ⟨a,ha,hb,hc⟩:=h3 hn
 exact ⟨a,ha,Nat.lt_of_lt_of_le hb hk.size,fun i e he=>(hc i e he).keep (by rw [addr_block]; exact hb) id hk⟩
theorem Rats.op (h:Rats w X v l):∃ (A:Option Addr) (cap:Nat),v = .slice A l.length cap∧Rats w X (.slice A l.length cap) l∧l.length≤cap∧cap≤maxLen:=by
 have h0:=h
 obtain ⟨A,cap,rfl,h1,h2, -⟩:=h
 exact ⟨A,cap,rfl,h0,h1,h2⟩
theorem Rats.at {A:Option Addr} {n cap:Nat} (h:Rats w X (.slice A n cap) l) {i:Nat} {e:RF} (he:l[i]? = some e):∃ a:Addr,A=some a∧a.block<w.heap.size∧RatAt w X (a.add (i*4)) e:=by
 obtain ⟨A',cap',hv,h1,h2,h3⟩:=h
 injection hv with e1 e2 e3
 subst e1
 obtain ⟨a,ha,hb,hc⟩:=h3 (by have:=(List.getElem?_eq_some_iff.1 he).1; omega)
 exact ⟨a,ha,hb,hc i e he⟩
/-- A list of short numbers is a list of numbers. -/
theorem Rats.nums (h:Rats w (fun _=>False) v l) (hf:∀ (i:Nat) (e:RF),l[i]? = some e→e.few):Nums 2 w (fun _=>False) v l.length (qs l):=by
 obtain ⟨A,cap,rfl,h1,h2,h3⟩:=h
 have key:∀ i,i<l.length→∃ r:R4,(∀ a,A=some a→w.cell? (a.add (i*4))=some (.bool r.b)∧w.cell? ((a.add (i*4)).add 1)=some (.slice r.A r.m r.c)∧w.cell? ((a.add (i*4)).add 2)=some (.bool r.b')∧w.cell? ((a.add (i*4)).add 3)=some (.slice r.A' r.m' r.c'))∧RatL 2 w (fun _=>False) r.v (qs l i):=fun i hi=>by
  have he:=List.getElem?_eq_getElem hi
  obtain ⟨a,ha,hb,hc⟩:=h3 (by omega)
  obtain ⟨C,c,D,d,c0,c1,c2,c3,hr⟩:=hc i _ he
  have hw:=hf i _ he
  refine ⟨⟨l[i].n1,C,l[i].xs.length,c,l[i].n2,D,l[i].ys.length,d⟩,fun a' ha'=>?_,?_⟩
  ·rw [ha] at ha'; injection ha' with ha'; subst ha'
   exact ⟨c0,c1,c2,c3⟩
  ·exact ⟨l[i].n1,l[i].xs,l[i].n2,l[i].ys,hr,hw.1,hw.2,(qs_get he).symm⟩
 obtain ⟨rs,hl,hp⟩:=list_of _ l.length key
 refine ⟨rs,A,cap,hl,rfl,h1,h2,fun hn=>?_,fun i r hr=>(hp i r hr).2⟩
 obtain ⟨a,ha,hb, -⟩:=h3 hn
 exact ⟨a,ha,hb,id,fun i r hr=>(hp i r hr).1 a ha⟩
end
end Go.Proofs.YtbdcjhoedhhabaaGreat

/- Arguments opened: a list of lists of fractions (as in OpenS, which serves layer 8). -/
namespace Go.Proofs.YtbdcjhoedhhabaaGreat
open Go.ChangeShapes Go.WideShapes Go.ChangeAt Go.RowKit Go.Joins

theorem cellsRats:Tryz.prog.cellsOf 71=1:=by kernel_rfl
theorem cellsMat:Tryz.prog.cellsOf 70=1:=by kernel_rfl
/-- A list of lists of raw fractions. -/
def RMat (w:World) (v:Value) (L:List (List RF)):Prop:=
 ∃ A cap,v = .slice A L.length cap∧L.length≤cap∧cap≤maxLen∧(L.length ≠ 0→∃ a,A=some a∧a.block<w.heap.size∧∀ i l,L[i]? = some l→∃ B c,w.cell? (a.add i)=some (.slice B l.length c)∧Rats w (fun _=>False) (.slice B l.length c) l)

def qm (L:List (List RF)):Nat→Nat→Rat:=fun i=>match L[i]? with
 | some l=>qs l
 | none=>fun _=>0
def lens (L:List (List RF)):Nat→Nat:=fun i=>match L[i]? with
 | some l=>l.length
 | none=>0
theorem qm_get {L:List (List RF)} {i:Nat} {l:List RF} (h:L[i]? = some l):qm L i=qs l:=by unfold qm; rw [h]
theorem lens_get {L:List (List RF)} {i:Nat} {l:List RF} (h:L[i]? = some l):lens L i=l.length:=by unfold lens; rw [h]

section
variable {w w':World} {v:Value} {L:List (List RF)}
theorem RMat.keep (h:RMat w v L) (hk:Keep (fun _=>False) w w'):RMat w' v L:=by
 obtain ⟨A,cap,hv,h1,h2,h3⟩:=h
 refine ⟨A,cap,hv,h1,h2,fun hn=>?_⟩
 obtain ⟨a,ha,hb,hc⟩:=h3 hn
 refine ⟨a,ha,Nat.lt_of_lt_of_le hb hk.size,fun i l hl=>?_⟩
 obtain ⟨B,c,h4,h5⟩:=hc i l hl
 exact ⟨B,c,cell_keep h4 (by rw [addr_block]; exact hb) id hk,h5.keep hk⟩
theorem RMat.op (h:RMat w v L):∃ (A:Option Addr) (cap:Nat),v = .slice A L.length cap∧RMat w (.slice A L.length cap) L∧L.length≤cap∧cap≤maxLen:=by
 have h0:=h
 obtain ⟨A,cap,rfl,h1,h2, -⟩:=h
 exact ⟨A,cap,rfl,h0,h1,h2⟩
theorem RMat.at {A:Option Addr} {n cap:Nat} (h:RMat w (.slice A n cap) L) {i:Nat} {l:List RF} (he:L[i]? = some l):∃ (a:Addr) (B:Option Addr) (c:Nat),A=some a∧a.block<w.heap.size∧w.cell? (a.add i)=some (.slice B l.length c)∧Rats w (fun _=>False) (.slice B l.length c) l∧l.length≤c∧c≤maxLen:=by
 obtain ⟨A',cap',hv,h1,h2,h3⟩:=h
 injection hv with e1 e2 e3
 subst e1
 obtain ⟨a,ha,hb,hc⟩:=h3 (by have:=(List.getElem?_eq_some_iff.1 he).1; omega)
 obtain ⟨B,c,h4,h5⟩:=hc i l he
 obtain ⟨A2,c2,h6, -,h7,h8⟩:=h5.op
 injection h6 with e1 e2 e3
 subst e1 e3
 exact ⟨a,B,c,ha,hb,h4,h5,h7,h8⟩
theorem RMat.mat (h:RMat w v L) (hf:∀ (i:Nat) (l:List RF),L[i]? = some l→∀ (j:Nat) (e:RF),l[j]? = some e→e.few):Mat 2 w (fun _=>False) v L.length (lens L) (qm L):=by
 obtain ⟨A,cap,rfl,h1,h2,h3⟩:=h
 have key:∀ i,i<L.length→∃ u:Value,(∀ a,A=some a→w.cell? (a.add i)=some u)∧Nums 2 w (fun _=>False) u (lens L i) (qm L i):=fun i hi=>by
  have he:=List.getElem?_eq_getElem hi
  obtain ⟨a,ha,hb,hc⟩:=h3 (by omega)
  obtain ⟨B,c,h4,h5⟩:=hc i _ he
  refine ⟨.slice B L[i].length c,fun a' ha'=>?_,?_⟩
  ·rw [ha] at ha'; injection ha' with ha'; subst ha'
   exact h4
  ·rw [lens_get he,qm_get he]
   exact h5.nums (hf i _ he)
 obtain ⟨us,hl,hp⟩:=list_of _ L.length key
 refine ⟨us,A,cap,hl,rfl,h1,h2,fun hn=>?_,fun i u hu=>(hp i u hu).2⟩
 obtain ⟨a,ha,hb, -⟩:=h3 hn
 exact ⟨a,ha,hb,id,fun i u hu=>(hp i u hu).1 a ha⟩
end

set_option maxRecDepth 100000 in
theorem open_RMat {H:Type} {enc:TypeId×Value→H} {W:World} {base:Nat} {fuel:Nat} {v:Value} {x:DataW H×List MemPlace}
 (h:DataW.trod enc Tryz.prog W base (fun _=>true) true fuel 70 [v] = some x):∃ L,RMat W v L:=by
 rcases DataW.trod_slice Tryz.underlying70 h with ⟨hcs,_⟩ | ⟨a,len,cap,elems,rest,n,_,hcs,_,hb,hl,hm,hlen,hel,_⟩
 ·simp at hcs
  subst hcs
  exact ⟨[],none,0,rfl,Nat.le_refl _,Nat.zero_le _,fun h=>absurd rfl h⟩
 ·simp at hcs
  subst hcs
  have key:∀ i,i<len→∃ l,(∃ B c,W.cell? (a.add i)=some (.slice B l.length c)∧Rats W (fun _=>False) (.slice B l.length c) l)∧a.block<W.heap.size:=fun i hi=>by
   have hq:=hel i hi
   rw [cellsRats,List.getElem?_eq_getElem (l:=elems) (i:=i) (by omega),Option.bind_eq_some_iff,Nat.mul_one] at hq
   obtain ⟨cs,hcs,ht⟩:=hq
   obtain ⟨_,hn,hc⟩:=World.cells?_some hcs
   match cs,hn with
   | [c0], _ =>
     obtain ⟨l,hr⟩:=open_Rats ht
     have hbl0:=World.cells?_block hcs (show 0<1 by decide)
     have hbl:a.block<W.heap.size:=by rw [add_block] at hbl0; exact hbl0
     obtain ⟨B,c,e,hr2, -, -⟩:=hr.op
     have h0:=hc 0 (by decide)
     rw [addr_zero] at h0
     refine ⟨l,⟨B,c,?_,hr2⟩,hbl⟩
     rw [←e]; exact h0
  obtain ⟨L,hl',hp⟩:=list_of _ len (fun i hi=>key i hi)
  subst hl'
  refine ⟨L,some a,cap,rfl,hl,hm,fun hz=>⟨a,rfl,?_,fun i e he=>(hp i e he).1⟩⟩
  obtain ⟨e,he⟩:=key 0 (by omega)
  exact he.2

end Go.Proofs.YtbdcjhoedhhabaaGreat

/- Lists of raw fractions: slices.ContainsFunc, and the law's rats (Ck6 over OpenM). -/
namespace Go.Proofs.YtbdcjhoedhhabaaGreat
open Go.RowKit
attribute [local go_sem ↓] Go.wp_at_zero Go.wp_at_succ

/-- A function that tells whether P, at raw fractions. -/
def TellsF (w:World) (F:Nat) (caps:Array Value) (P:RF→Prop):Prop:=
 ∀ (W:World) (v:Value) (e:RF) (m m':Nat) (A B:Option Addr) (c d:Nat),Below w.heap.size w W→v = .agg #[.bool e.n1, .slice A m c, .bool e.n2, .slice B m' d]→e.xs.length=m→e.ys.length=m'→RatR W (fun _=>False) v e.n1 e.xs e.n2 e.ys→Calls Tryz.prog F (#[v] ++ caps) W fun e' w'=>Tells (P e) e'∧Below W.heap.size W w'

set_option maxRecDepth 100000 in
set_option maxHeartbeats 4000000 in
theorem indexF_any (w:World) (F:Nat) (caps:Array Value) (P:RF→Prop) (v:Value) (l:List RF) (h:Rats w (fun _=>False) v l) (hen:Enters F) (hF:TellsF w F caps P) :
 Calls Tryz.prog 230 #[v, .func (Fn.func F) #[] caps] w fun e w'=>∃ r:Int,e = .returned (.int .i64 r)∧((0≤r∧∃ e∈l,P e)∨(r<0∧∀ e∈l,¬ P e))∧Below w.heap.size w w':=by
 have H:=Lib.hid h
 have HF:=Lib.hid hF
 have hen2:∀ (args:Array Value) (W:World),(callFunc F args).run Tryz.prog W = .ok (.enter F args) W:=hen
 obtain ⟨A,cap,rfl,h,l1,l2⟩:=h.op
 obtain ⟨m,hm⟩:∃ m,l.length=m:=⟨_,rfl⟩
 have HM:=Lib.hid hm
 rw [hm] at l1 H
 rw [hm]
 have lm:m≤9223372036854775807:=by unfold maxLen at l2; omega
 clear h hF hm
 go_enter Tryz.func230,Tryz.ntmps230
 go_wp2_with fail
 go_loopw [8] (fun i wr=>∃ (c:Nat),c≤m∧i = .int .i64 c∧Hid (∀ i e,i<c→l[i]? = some e→¬ P e)∧Below w.heap.size w wr) (fun i _=>m - (intOf i).toNat)
 case atStart=>exact ⟨0,by omega,rfl,Lib.hid (fun i e hi=>absurd hi (by omega)),bel⟩
 case round=>
  obtain ⟨c,hc,rfl,hall,hB⟩:=hrel
  obtain ⟨wo,rfl⟩:∃ wo:World,wo=wr:=⟨_,rfl⟩
  have y5:=hB.size; (try simp only [zs] at y5)
  by_cases hlt:c<m
  ·obtain ⟨x,he⟩:∃ e,l[c]? = some e:=⟨_,List.getElem?_eq_getElem (by rw [HM.out]; exact hlt)⟩
   obtain ⟨a,rfl,ha,hr⟩:=(H.out.keep (.of_below hB)).at he
   obtain ⟨A3,c3,A3',c3',x0,x1,x2,x3,r3⟩:=hr
   obtain ⟨n1,xs,n2,ys⟩:=x
   dsimp only at x0 x1 x2 x3 r3
   obtain ⟨m3,hm3⟩:∃ m,xs.length=m:=⟨_,rfl⟩
   obtain ⟨m3',hm3'⟩:∃ m,ys.length=m:=⟨_,rfl⟩
   rw [hm3,hm3'] at r3
   rw [hm3] at x1
   rw [hm3'] at x3
   have HE:=Lib.hid he
   have HR3:=Lib.hid r3
   have HL:=Lib.hid (And.intro hm3 hm3')
   clear he hm3 hm3' r3
   replace x1:wo.cell? ⟨(a.add (c*4)).block,(a.add (c*4)).off+1,none⟩=_:=x1
   replace x2:wo.cell? ⟨(a.add (c*4)).block,(a.add (c*4)).off+2,none⟩=_:=x2
   replace x3:wo.cell? ⟨(a.add (c*4)).block,(a.add (c*4)).off+3,none⟩=_:=x3
   have k0:(0:Int)≤(c:Int):=by omega
   have k1:(c:Int)<(m:Int):=by omega
   have HLT:=Lib.hid hlt
   go_wp2_with fail
   refine (HF.out _ _ ⟨n1,xs,n2,ys⟩ m3 m3' A3 A3' c3 c3' hB rfl HL.out.1 HL.out.2 HR3.out).mono ?_
   rintro e w2 ⟨⟨b,rfl,hb⟩,hb2⟩
   have y2:=hb2.size; (try simp only [zs] at y2)
   cases b
   ·have HGD:Hid (¬ P ⟨n1,xs,n2,ys⟩):=fun h=>by have:=hb.out.2 h; cases this
    clear hb
    go_wp2_with fail
    go_roundw
    case rel=>
     refine ⟨c+1,by omega,by go_num,Lib.hid (fun i e hi he=>?_),bel⟩
     by_cases hic:i<c
     ·exact hall.out i e hic he
     ·obtain rfl:i=c:=by omega
      rw [HE.out] at he
      injection he with he
      subst he
      exact HGD.out
    case measure=>simp only [intOf]; omega
   ·have HGD:Hid (P ⟨n1,xs,n2,ys⟩):=hb.out.1 rfl
    clear hb
    go_wp2_with fail
    go_ret
    exact ⟨_,rfl, .inl ⟨by omega,_,List.mem_of_getElem? HE.out,HGD.out⟩,bel⟩
  ·obtain rfl:c=m:=by omega
   go_wp2_with fail
   go_ret
   exact ⟨_,rfl, .inr ⟨by decide,fun e he=>by
    obtain ⟨i,hi,rfl⟩:=List.mem_iff_getElem.1 he
    exact hall.out i _ (by rw [←HM.out]; exact hi) (List.getElem?_eq_getElem hi)⟩,hB⟩
set_option maxRecDepth 100000 in
set_option maxHeartbeats 4000000 in
theorem containsF_any (w:World) (F:Nat) (caps:Array Value) (P:RF→Prop) (v:Value) (l:List RF) (h:Rats w (fun _=>False) v l) (hen:Enters F) (hF:TellsF w F caps P) :
 Calls Tryz.prog 104 #[v, .func (Fn.func F) #[] caps] w fun e w'=>Tells (∃ e∈l,P e) e∧Below w.heap.size w w':=by
 have H:=Lib.hid h
 have HF:=Lib.hid hF
 obtain ⟨A,cap,rfl,h,l1,l2⟩:=h.op
 obtain ⟨m,hm⟩:∃ m,l.length=m:=⟨_,rfl⟩
 rw [hm] at l1 H
 rw [hm]
 clear h hF hm
 go_enter Tryz.func104,Tryz.ntmps104
 go_wp2_with fail
 refine (indexF_any _ F caps P _ l H.out hen HF.out).mono ?_
 rintro e w1 ⟨r,rfl,hr,hb1⟩
 have y1:=hb1.size; (try simp only [zs] at y1)
 have HR:=Lib.hid hr
 clear hr
 by_cases h0:0≤r
 ·have HV:Hid (∃ e∈l,P e):=by
   rcases HR.out with ⟨_,h⟩ | ⟨h,_⟩
   ·exact h
   ·omega
  go_wp2_with fail
  go_ret
  exact ⟨Tells.yes HV.out,bel⟩
 ·have HV:Hid (¬ ∃ e∈l,P e):=by
   rcases HR.out with ⟨h,_⟩ | ⟨_,h⟩
   ·omega
   ·exact fun ⟨e,he,hp⟩=>h e he hp
  have hd:decide (0≤r)=false:=decide_eq_false h0
  go_wp2_with fail
  go_ret
  exact ⟨by first | exact Tells.no HV.out | (simp only [hd]; exact Tells.no HV.out),bel⟩

set_option maxHeartbeats 2000000 in
theorem rats1_any (w:World) (n1 n2:Bool) (A B:Option Addr) (m m' c d:Nat) :
 Calls Tryz.prog 105 #[.agg #[.bool n1, .slice A m c, .bool n2, .slice B m' d]] w fun e w'=>Tells (¬ (m≤2∧m'≤2)) e∧Below w.heap.size w w':=by
 by_cases h1:m≤2
 ·have d1:decide ((2:Int)<(m:Int))=false:=decide_eq_false (by omega)
  by_cases h2:m'≤2
  ·have d2:decide ((2:Int)<(m':Int))=false:=decide_eq_false (by omega)
   have HV:Hid (¬ ¬ (m≤2∧m'≤2)):=fun h=>h ⟨h1,h2⟩
   go_enter Tryz.func105,Tryz.ntmps105
   go_wp2_with fail
   go_ret
   exact ⟨by first | exact Tells.no HV.out | (simp only [d2]; exact Tells.no HV.out),bel⟩
  ·have d2:decide ((2:Int)<(m':Int))=true:=decide_eq_true (by omega)
   have HV:Hid (¬ (m≤2∧m'≤2)):=fun h=>h2 h.2
   go_enter Tryz.func105,Tryz.ntmps105
   go_wp2_with fail
   go_ret
   exact ⟨by first | exact Tells.yes HV.out | (simp only [d2]; exact Tells.yes HV.out),bel⟩
 ·have d1:decide ((2:Int)<(m:Int))=true:=decide_eq_true (by omega)
  have HV:Hid (¬ (m≤2∧m'≤2)):=fun h=>h1 h.1
  go_enter Tryz.func105,Tryz.ntmps105
  go_wp2_with fail
  go_ret
  exact ⟨by first | exact Tells.yes HV.out | (simp only [d1]; exact Tells.yes HV.out),bel⟩

/-- Rows of at most k numbers of at most two words. -/
def TK (k:Nat) (L:List (List RF)):Prop:=∀ l∈L,l.length≤k∧∀ e∈l,e.few
set_option maxRecDepth 100000 in
set_option maxHeartbeats 4000000 in
theorem rats_any (w:World) (kk:Nat) (v:Value) (L:List (List RF)) (h:RMat w v L) (hkk:kk≤1000) (hL:L.length≤1000000) :
 Calls Tryz.prog 35 #[.int .i64 kk,v] w fun e w'=>Tells (TK kk L) e∧Below w.heap.size w w':=by
 have H:=Lib.hid h
 obtain ⟨A,cA,rfl, -,l1,l2⟩:=h.op
 obtain ⟨m,hm⟩:∃ m,L.length=m:=⟨_,rfl⟩
 have HM:=Lib.hid hm
 rw [hm] at l1 H hL
 rw [hm]
 clear h hm
 go_enter Tryz.func35,Tryz.ntmps35
 go_wp2_with fail
 go_loopw [9] (fun i wr=>∃ (c:Nat),c≤m∧i = .int .i64 c∧Hid (∀ (i:Nat) (l:List RF),i<c→L[i]? = some l→l.length≤kk∧∀ e∈l,e.few)∧Below w.heap.size w wr) (fun i _=>m - (intOf i).toNat)
 case atStart=>exact ⟨0,by omega,rfl,Lib.hid (fun i e hi=>absurd hi (by omega)),bel⟩
 case round=>
  obtain ⟨c,hc,rfl,hall,hB⟩:=hrel
  obtain ⟨wo,rfl⟩:∃ wo:World,wo=wr:=⟨_,rfl⟩
  have y5:=hB.size; (try simp only [zs] at y5)
  by_cases hlt:c<m
  ·obtain ⟨l,he⟩:∃ r,L[c]? = some r:=⟨_,List.getElem?_eq_getElem (by rw [HM.out]; exact hlt)⟩
   obtain ⟨a,D,c1,rfl,hb,x0,hr, -, -⟩:=(H.out.keep (.of_below hB)).at he
   obtain ⟨n,hn⟩:∃ n,l.length=n:=⟨_,rfl⟩
   rw [hn] at x0 hr
   have HE:=Lib.hid he
   have HR:=Lib.hid hr
   have HN:=Lib.hid hn
   have k0:(0:Int)≤(c:Int):=by omega
   have k1:(c:Int)<(m:Int):=by omega
   clear he hr hn
   by_cases hn6:kk<n
   ·have HV:Hid (¬ TK kk L):=fun h=>by have:=(h l (List.mem_of_getElem? HE.out)).1; rw [HN.out] at this; omega
    have d1:decide ((kk:Int)<(n:Int))=true:=decide_eq_true (by omega)
    go_wp2_with fail
    go_ret
    exact ⟨Tells.no HV.out,hB⟩
   ·have d1:decide ((kk:Int)<(n:Int))=false:=decide_eq_false (by omega)
    have hn7:n≤kk:=by omega
    go_wp2_with fail
    refine (containsF_any _ 105 #[] (fun e=>¬ e.few) _ l HR.out (enters Tryz.func105 (by kernel_rfl) (by kernel_rfl)) (show TellsF _ 105 #[] (fun e=>¬ e.few) from fun W v e m m' A B c d _ hv hm hm' _=>by subst hv hm hm'; exact rats1_any W e.n1 e.n2 A B _ _ c d)).mono ?_
    rintro e w2 ⟨⟨b,rfl,hb2⟩,hb3⟩
    have y6:=hb3.size; (try simp only [zs] at y6)
    cases b
    ·have HV:Hid (∀ e∈l,e.few):=fun e he=>Classical.not_not.1 (fun hn=>by have:=hb2.out.2 ⟨e,he,hn⟩; cases this)
     clear hb2
     go_wp2_with fail
     go_roundw
     case rel=>
      refine ⟨c+1,by omega,by go_num,Lib.hid (fun i l' hi hl'=>?_),bel⟩
      by_cases hic:i<c
      ·exact hall.out i l' hic hl'
      ·obtain rfl:i=c:=by omega
       rw [HE.out] at hl'
       injection hl' with hl'
       subst hl'
       exact ⟨by rw [HN.out]; exact hn7,HV.out⟩
     case measure=>simp only [intOf]; omega
    ·have HV:Hid (¬ TK kk L):=fun h=>by
      obtain ⟨e,he,hn⟩:=hb2.out.1 rfl
      exact hn ((h l (List.mem_of_getElem? HE.out)).2 e he)
     clear hb2
     go_wp2_with fail
     go_ret
     exact ⟨Tells.no HV.out,bel⟩
  ·obtain rfl:c=m:=by omega
   have HV:Hid (TK kk L):=fun l hl=>by
    obtain ⟨i,hi,rfl⟩:=List.mem_iff_getElem.1 hl
    exact hall.out i _ (by rw [←HM.out]; exact hi) (List.getElem?_eq_getElem hi)
   go_wp2_with fail
   go_ret
   exact ⟨Tells.yes HV.out,hB⟩

/- channel.Valid, channel.Total. -/

set_option maxRecDepth 100000 in
set_option maxHeartbeats 8000000 in
theorem cvalid1_any (w:World) (A:Option Addr) (cp:Nat) (zs:List Int) (g3 g4:Nat) (wd tot:Int) (h:IntsV w (.slice A zs.length cp) zs) (h3:w.cell? ⟨g3,0,none⟩=some (.int .i64 wd)) (h4:w.cell? ⟨g4,0,none⟩=some (.int .i64 tot)) (b3:g3<w.heap.size) (b4:g4<w.heap.size) :
 Calls Tryz.prog 377 #[.slice A zs.length cp, .pointer (some ⟨g3,0,none⟩), .pointer (some ⟨g4,0,none⟩)] w fun e w'=>Tells (¬ ((zs.length:Int)=wd∧rsumA 0 zs=tot)) e∧Below w.heap.size w w':=by
 have H:=Lib.hid h
 obtain ⟨n,hn⟩:∃ n,zs.length=n:=⟨_,rfl⟩
 have HL:Hid (∀ W,Below w.heap.size w W→W.cell? ⟨g3,0,none⟩=some (.int .i64 wd)∧W.cell? ⟨g4,0,none⟩=some (.int .i64 tot)):=fun W hW=>⟨cell_keep (X:=fun _=>False) h3 b3 id (.of_below hW),cell_keep (X:=fun _=>False) h4 b4 id (.of_below hW)⟩
 obtain ⟨R,hR⟩:∃ R,rsumA 0 zs=R:=⟨_,rfl⟩
 have HR:=Lib.hid hR
 have HI:Hid (∀ W,Below w.heap.size w W→IntsV W (.slice A n cp) zs):=fun W hW=>by have:=H.out.keep (.of_below hW); rw [hn] at this; exact this
 rw [hR,hn]
 clear h h3 h4 H hn hR
 by_cases h1:(n:Int)=wd
 ·have d1:((n:Int) == wd)=true:=beq_iff_eq.2 h1
  have d2:((n:Int) != wd)=false:=by simp only [bne,d1]; rfl
  have H1:=Lib.hid h1
  clear h1
  by_cases h2:R=tot
  ·have d3:(R == tot)=true:=beq_iff_eq.2 h2
   have d4:(R != tot)=false:=by simp only [bne,d3]; rfl
   have H2:=Lib.hid h2
   clear h2
   go_enter Tryz.func377,Tryz.ntmps377
   go_wp2_with fail
   go_region_held3 (fun W=>W.cell? ⟨g3,0,none⟩=some (.int .i64 wd)∧W.cell? ⟨g4,0,none⟩=some (.int .i64 tot))
    (exact HL.out _ bel)
    (first
     | (go_at_call 376; refine (csum_any _ _ zs (HI.out _ bel)).mono ?_; rintro e u1 ⟨he,hb1⟩; rw [HR.out] at he; subst he; have y1:=hb1.size; (try simp only [zs] at y1)))
   all_goals
    go_wp2_with fail
    go_ret
    exact ⟨Tells.no (fun h=>h ⟨H1.out,H2.out⟩),bel⟩
  ·have d3:(R == tot)=false:=beq_eq_false_iff_ne.2 h2
   have d4:(R != tot)=true:=bne_iff_ne.2 h2
   have H2:Hid (¬ R=tot):=h2
   clear h2
   go_enter Tryz.func377,Tryz.ntmps377
   go_wp2_with fail
   go_region_held3 (fun W=>W.cell? ⟨g3,0,none⟩=some (.int .i64 wd)∧W.cell? ⟨g4,0,none⟩=some (.int .i64 tot))
    (exact HL.out _ bel)
    (first
     | (go_at_call 376; refine (csum_any _ _ zs (HI.out _ bel)).mono ?_; rintro e u1 ⟨he,hb1⟩; rw [HR.out] at he; subst he; have y1:=hb1.size; (try simp only [zs] at y1)))
   all_goals
    go_wp2_with fail
    go_ret
    exact ⟨Tells.yes (fun h=>H2.out h.2),bel⟩
 ·have d1:((n:Int) == wd)=false:=beq_eq_false_iff_ne.2 h1
  have d2:((n:Int) != wd)=true:=bne_iff_ne.2 h1
  have H1:Hid (¬ (n:Int)=wd):=h1
  clear h1
  go_enter Tryz.func377,Tryz.ntmps377
  go_wp2_with fail
  refine wp_region_noPanic ?_
  refine wp_region_held_drew (S:=(fun W=>W.cell? ⟨g3,0,none⟩=some (.int .i64 wd)∧W.cell? ⟨g4,0,none⟩=some (.int .i64 tot))) (by kernel_rfl) ?_ (fun hHeld=>?_)
  ·exact HL.out _ bel
  refine takeT 0 hHeld ?_
  (try simp only [Act.put,ly])
  refine takeT 1 hHeld ?_
  (try simp only [Act.put,ly])
  refine takeT 2 hHeld ?_
  (try simp only [Act.put,ly])
  refine takeT 3 hHeld ?_
  (try simp only [Act.put,ly])
  refine takeT 4 hHeld ?_
  (try simp only [Act.put,ly])
  refine offT 5 hHeld ?_
  refine offT 6 hHeld ?_
  refine offT 7 hHeld ?_
  refine offT 8 hHeld ?_
  (try simp only [Act.put,ly])
  refine takeT 9 hHeld ?_
  (try simp only [Act.put,ly])
  refine takeT 10 hHeld ?_
  (try simp only [Act.put,ly])
  refine wpAnyH_done (by kernel_rfl) ?_ _
  refine NoPanic.normal ?_
  go_wp2_with fail
  go_ret
  exact ⟨Tells.yes (fun h=>H1.out h.1),bel⟩
end Go.Proofs.YtbdcjhoedhhabaaGreat

