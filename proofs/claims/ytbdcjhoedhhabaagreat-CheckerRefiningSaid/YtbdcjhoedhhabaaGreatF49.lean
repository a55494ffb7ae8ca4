/- Contracts of the functions that the statements reach, part 49. -/
import Derived.Test.YtbdcjhoedhhabaaGreatRows
import Derived.Test.YtbdcjhoedhhabaaGreatF26
import Derived.Test.YtbdcjhoedhhabaaGreatF27
import Derived.Test.YtbdcjhoedhhabaaGreatF28
import Derived.Test.YtbdcjhoedhhabaaGreatF43
import Derived.Test.YtbdcjhoedhhabaaGreatF48
set_option linter.unusedSimpArgs false
set_option linter.unusedVariables false

/- refinement.Decide, Equivalent. -/
namespace Go.Proofs.YtbdcjhoedhhabaaGreat
open Go.RowKit
attribute [local go_sem ↓] Go.wp_at_zero Go.wp_at_succ

/-- The number of equations of the system of two channels. -/
def neq (L1 L2:List (List Int)):Nat:=L1.length*wid L2+wid L1
/-- The numbers of the system are so small that its tableaux' numbers have at most 44 words. -/
def SZ (L1 L2:List (List Int)):Prop:=VC L1→VC L2→L1.length=L2.length→wid L1*wid L2≤80→neq L1 L2≤80→
 ∃ a:Nat,1≤a∧(∀ x y,x<L1.length→y<wid L1→tot L2*en L1 x y≤a)∧(∀ x z,x<L1.length→z<wid L2→tot L1*en L2 x z≤a)∧(2*((neq L1 L2+1)*a)) ^ neq L1 L2<4294967296 ^ 44
/-- What Decide says. -/
def DecSays (L1 L2:List (List Int)) (code:Int) (b:Bool) (m:Nat) (F:Nat→Nat→Rat) (Kn:Nat) (G:Nat→Nat→Rat):Prop:=
 (¬ (VC L1∧VC L2)→code=1)∧(VC L1∧VC L2→L1.length ≠ L2.length→code=2)∧(VC L1∧VC L2→L1.length=L2.length→(80<wid L1*wid L2∨80<neq L1 L2)→code=4)∧
 (VC L1∧VC L2→L1.length=L2.length→¬ (80<wid L1*wid L2∨80<neq L1 L2)→code=0)∧
 (code=0→PRF L1 L2 b m (fun _=>wid L2) F Kn (fun _=>L1.length) G∧(b=true→m=wid L1)∧(b=false→Kn=wid L2))∧(code ≠ 0→b=false∧m=0∧Kn=0)

/-- A part of a list. -/
theorem Nums.sub {k n m lo c:Nat} {w:World} {X:Nat→Prop} {a:Addr} {f:Nat→Rat} (h:Nums k w X (.slice (some a) n c) n f) (hm:lo+m≤n):Nums k w X (.slice (some (a.add (lo*4))) m m) m (fun i=>f (lo+i)):=by
 obtain ⟨rs,A,cap,h1,h2,h3,h4,h5,h6⟩:=h
 injection h2 with e1 e2 e3
 subst e1
 have key:∀ i,(rs.drop lo)[i]? = rs[lo+i]?:=fun i=>by rw [List.getElem?_drop]
 refine ⟨(rs.drop lo).take m,_,_,by simp; omega,rfl,Nat.le_refl _,by omega,fun hn=>?_,fun i r hr=>?_⟩
 ·obtain ⟨a',ea,hb,hX,hc⟩:=h5 (by omega)
  injection ea with ea
  subst ea
  refine ⟨_,rfl,by rw [addr_block]; exact hb,by rw [addr_block]; exact hX,fun i r hr=>?_⟩
  rw [List.getElem?_take] at hr
  split at hr
  ·rw [key] at hr
   have:=hc _ _ hr
   rw [Nat.add_mul] at this
   rw [addr_add_add]
   exact this
  ·cases hr
 ·rw [List.getElem?_take] at hr
  split at hr
  ·rw [key] at hr
   exact h6 _ _ hr
  ·cases hr
/-- A list of fractions does not lie in a block of three cells. -/
theorem Nums.off3 {k n g:Nat} {w:World} {X:Nat→Prop} {v:Value} {f:Nat→Rat} {t:TypeId} {x y z:Value} (h:Nums k w X v n f) (L:Loc w g t #[x,y,z]) (hc:∀ u∈(#[x,y,z]:Array Value),noW u):Nums k w (fun b=>X b∨b=g) v n f:=
 h.off2 L hc (fun hn a c e=>by
  subst e
  intro hg
  obtain ⟨a',b,B,p,c',b',B',p',c'',ea, -, -,x0,x1,x2,x3, -⟩:=Nums.at h (i:=0) (by omega)
  injection ea with ea
  subst ea
  rw [Nat.zero_mul,addr_zero] at x3
  have e3:a.add 3=⟨g,a.off+3,none⟩:=by unfold Addr.add; rw [if_neg (by decide),hg]
  rw [e3,Loc.cell L] at x3
  have:=(Array.getElem?_eq_some_iff.1 x3).1
  simp at this
  omega)
/-- What Decide returns. -/
def DecRes (L1 L2:List (List Int)) (w:World) (e:Ending) (w':World):Prop:=∃ (b:Bool) (vW vG:Value) (m Kn:Nat) (F G:Nat→Nat→Rat) (code:Int),e = .returned (.tuple #[.agg #[.bool b,vW,vG], .int .i64 code])∧
 Hid (Mat 44 w' (fun _=>False) vW m (fun _=>wid L2) F∧Mat (188*neq L1 L2+41) w' (fun _=>False) vG Kn (fun _=>L1.length) G)∧Hid (DecSays L1 L2 code b m F Kn G)∧Below w.heap.size w w'
theorem sys_szk {L1 L2:List (List Int)} (h:SZ L1 L2) (h1:VC L1) (h2:VC L2) (hl:L1.length=L2.length) (hnk:wid L1*wid L2≤80) (hM:neq L1 L2≤80) :
 Szk 44 (47*neq L1 L2+5) (neq L1 L2) (wid L1*wid L2) (t0 (neq L1 L2) (wid L1*wid L2) (sysF L1.length (wid L2) (ce L1) ((tot L2:Int):Rat)) (sysB L1.length (wid L2) (ce L2) ((tot L1:Int):Rat))) (d1 (neq L1 L2) (wid L1*wid L2)):=by
 obtain ⟨a,ha,hf,hb,hp⟩:=h h1 h2 hl hnk hM
 have hw2:0<wid L2:=h2.2.2.1
 have ht1:=h1.tot
 have ht2:=h2.tot
 refine szkI (a:=a) ha (fun i hi j hj=>?_) (fun i hi=>?_) (by decide) hp (by omega)
 ·unfold sysF
  split
  ·rename_i hlt
   have hx:i / wid L2<L1.length:=by rw [Nat.div_lt_iff_lt_mul hw2]; exact hlt
   have hy:j / wid L2<wid L1:=by rw [Nat.div_lt_iff_lt_mul hw2]; exact hj
   split
   ·refine ⟨tot L2*en L1 (i / wid L2) (j / wid L2),?_,?_⟩
    ·rw [Rat.intCast_mul]; rfl
    ·obtain ⟨l, -, -,h0, -⟩:=h1.en hx hy
     have:=hf _ _ hx hy
     have h3:0≤tot L2*en L1 (i / wid L2) (j / wid L2):=Int.mul_nonneg (by omega) h0
     omega
   ·exact ⟨0,rfl,Nat.zero_le _⟩
  ·split
   ·exact ⟨1,rfl,ha⟩
   ·exact ⟨0,rfl,Nat.zero_le _⟩
 ·unfold sysB
  split
  ·rename_i hlt
   have hx:i / wid L2<L1.length:=by rw [Nat.div_lt_iff_lt_mul hw2]; exact hlt
   have hz:i % wid L2<wid L2:=Nat.mod_lt _ hw2
   refine ⟨tot L1*en L2 (i / wid L2) (i % wid L2),?_,?_⟩
   ·rw [Rat.intCast_mul]; rfl
   ·obtain ⟨l, -, -,h0, -⟩:=h2.en (show i / wid L2<L2.length by rw [←hl]; exact hx) hz
    have:=hb _ _ hx hz
    have h3:0≤tot L1*en L2 (i / wid L2) (i % wid L2):=Int.mul_nonneg (by omega) h0
    omega
  ·exact ⟨1,rfl,ha⟩
/-- A point of the system is a witness. -/
theorem wit_of_pt {L1 L2:List (List Int)} {nx:Nat} {f:Nat→Rat} (h1:VC L1) (h2:VC L2) (hl:L1.length=L2.length) (h:SV (neq L1 L2) (wid L1*wid L2) nx (sysF L1.length (wid L2) (ce L1) ((tot L2:Int):Rat)) f (sysB L1.length (wid L2) (ce L2) ((tot L1:Int):Rat))) :
 WIT L1 L2 (wid L1) (fun _=>wid L2) (fun y z=>f (y*wid L2+z)):=by
 have hnx:=h.1
 subst hnx
 have hw:=wit_of_sv (m:=L1.length) (n:=wid L1) (k:=wid L2) h
 refine ⟨h1,h2,hl,⟨⟨h1.2.2.1,h2.2.2.1,fun i hi=>⟨rfl,fun j hj hn=>?_⟩⟩,fun i hi=>hw.one i hi⟩,rfl,rfl,fun x hx z hz=>hw.eq x hx z hz⟩
 have:=hw.non i hi j hj
 grind
/-- A Farkas vector of the system gives a gain function. -/
theorem gain_of {L1 L2:List (List Int)} {y:Nat→Rat} (h1:VC L1) (h2:VC L2) (hl:L1.length=L2.length) (hy1:sm (neq L1 L2) (fun i=>y i*sysB L1.length (wid L2) (ce L2) ((tot L1:Int):Rat) i)<0)
 (hy2:∀ j,j<wid L1*wid L2→¬ sm (neq L1 L2) (fun i=>y i*sysF L1.length (wid L2) (ce L1) ((tot L2:Int):Rat) i j)<0) :
 GN L1 L2 (wid L2) (fun _=>L1.length) (fun z x=>top (fun z=>y (x*wid L2+z)) (wid L2) - y (x*wid L2+z)):=by
 have hC2:=h2.chan
 rw [←hl] at hC2
 have:=gain_of_fk (m:=L1.length) (n:=wid L1) (k:=wid L2) (y:=y) (most:=fun x=>top (fun z=>y (x*wid L2+z)) (wid L2)) h1.chan hC2 hy1 hy2 (fun x hx z hz=>top_le (fun z=>y (x*wid L2+z)) (wid L2) z hz)
 refine ⟨h1,h2,hl,⟨h2.2.2.1,h1.1,fun i hi=>⟨rfl,fun j hj hn=>?_⟩⟩,rfl,this⟩
 have:=top_le (fun z=>y (j*wid L2+z)) (wid L2) i hi
 grind

set_option maxRecDepth 100000 in
set_option maxHeartbeats 16000000 in
theorem decide_any (w:World) (v1 v2:Value) (L1 L2:List (List Int)) (h1:IMat w v1 L1) (h2:IMat w v2 L2) (hsz:SZ L1 L2) :
 Calls Tryz.prog 61 #[.agg #[v1], .agg #[v2]] w (DecRes L1 L2 w):=by
 have H1:=Lib.hid h1
 have H2:=Lib.hid h2
 have HSZ:=Lib.hid hsz
 obtain ⟨A1,c1,rfl, -,la1,la2⟩:=h1.op
 obtain ⟨A2,c2,rfl, -,lb1,lb2⟩:=h2.op
 obtain ⟨r,hr⟩:∃ r,L1.length=r:=⟨_,rfl⟩
 obtain ⟨s,hs⟩:∃ s,L2.length=s:=⟨_,rfl⟩
 have HR:=Lib.hid hr
 have HS:=Lib.hid hs
 rw [hr] at la1 H1
 rw [hs] at lb1 H2
 rw [hr,hs]
 have HEMPTY:Hid (∀ (W:World) (k:Nat) (F:Nat→Nat→Rat) (N:Nat→Nat),Mat k W (fun _=>False) (.slice none 0 0) 0 N F):=fun W k F N=>⟨[],none,0,rfl,rfl,Nat.le_refl _,Nat.zero_le _,fun h=>absurd rfl h,fun i u h=>by simp at h⟩
 have L:=made1 w #[.slice A1 r c1] 120
 have M:=made2 w (.cells #[.slice A1 r c1] 120) #[.slice A2 s c2] 120
 have R:=made3 w (.cells #[.slice A1 r c1] 120) (.cells #[.slice A2 s c2] 120) #[.bool false, .slice none 0 0, .slice none 0 0] 122
 clear h1 h2 hr hs hsz
 by_cases hp:VC L1∧VC L2∧L1.length=L2.length
 case neg=>
  have HPN:=Lib.hid (show ¬ (VC L1∧VC L2∧L1.length=L2.length) from hp)
  clear hp
  go_enter Tryz.func61,Tryz.ntmps61
  go_wp2_with fail
  refine (pair_any _ _ _ L1 L2 (H1.out.keep kp) (H2.out.keep kp)).mono ?_
  rintro e w1 ⟨code,rfl,HP,hb1⟩
  have z1:=sz3 hb1
  have hp1:code=1∨code=2:=by
   by_cases h0:VC L1∧VC L2
   ·exact .inr (HP.out.2.1 h0 (fun h=>HPN.out ⟨h0.1,h0.2,h⟩))
   ·exact .inl (HP.out.1 h0)
  have HD:Hid (DecSays L1 L2 code false 0 (fun _ _=>0) 0 (fun _ _=>0)):=
   ⟨HP.out.1,HP.out.2.1,fun h0 h=>absurd ⟨h0.1,h0.2,h⟩ HPN.out,fun h0 h=>absurd ⟨h0.1,h0.2,h⟩ HPN.out,fun h=>by omega,fun _=>⟨rfl,rfl,rfl⟩⟩
  have d1:(code == 0)=false:=beq_eq_false_iff_ne.2 (by omega)
  have d2:(code != 0)=true:=bne_iff_ne.2 (by omega)
  obtain ⟨e3,f3,l3⟩:=R.all (w':=w1)
  clear hp1 HP
  go_wp2_with fail
  refine bodyPost_ret (by simp [results,Tryz.results61,go_sem,e3,f3,l3] <;> rfl) rfl ⟨false,_,_,0,0,_,_,code,rfl,⟨HEMPTY.out _ _ _ _,HEMPTY.out _ _ _ _⟩,HD,bel⟩
 have HP1:=Lib.hid hp
 clear hp
 obtain ⟨n2,hn2⟩:∃ n2,wid L2=n2:=⟨_,rfl⟩
 obtain ⟨n1,hn1⟩:∃ n1,wid L1=n1:=⟨_,rfl⟩
 have hr1:0<r:=by have:=HP1.out.1.1; have:=HR.out; omega
 have hr2:r≤256:=by have:=HP1.out.1.2.1; have:=HR.out; omega
 have hs1:0<s:=by have:=HP1.out.2.1.1; have:=HS.out; omega
 have hn1b:1≤n1∧n1≤256:=by rw [←hn1]; exact ⟨HP1.out.1.2.2.1,HP1.out.1.2.2.2.1⟩
 have hn2b:1≤n2∧n2≤256:=by rw [←hn2]; exact ⟨HP1.out.2.1.2.2.1,HP1.out.2.1.2.2.2.1⟩
 obtain ⟨l1',he1⟩:∃ l,L1[0]? = some l:=⟨_,List.getElem?_eq_getElem (by have:=HR.out; omega)⟩
 obtain ⟨l2',he2⟩:∃ l,L2[0]? = some l:=⟨_,List.getElem?_eq_getElem (by have:=HS.out; omega)⟩
 obtain ⟨a1,D1,d1,rfl,hab1,hcell1, -,lc1, -⟩:=H1.out.at he1
 obtain ⟨a2,D2,d2,rfl,hab2,hcell2, -,lc2, -⟩:=H2.out.at he2
 rw [(HP1.out.1.row he1).1,hn1] at hcell1 lc1
 rw [(HP1.out.2.1.row he2).1,hn2] at hcell2 lc2
 rw [addr_zero] at hcell1 hcell2
 have HN1:=Lib.hid hn1
 have HN2:=Lib.hid hn2
 obtain ⟨P,hP⟩:∃ P,n1*n2=P:=⟨_,rfl⟩
 obtain ⟨Q,hQ⟩:∃ P,r*n2=P:=⟨_,rfl⟩
 have hPb:P≤65536:=by rw [←hP]; exact Nat.mul_le_mul hn1b.2 hn2b.2
 have hQb:Q≤65536:=by rw [←hQ]; exact Nat.mul_le_mul hr2 hn2b.2
 have hPi:(n1:Int)*(n2:Int)=(P:Int):=by rw [←hP,Int.natCast_mul]
 have hQi:(r:Int)*(n2:Int)=(Q:Int):=by rw [←hQ,Int.natCast_mul]
 have hPw:IntKind.i64.wrap ((n1:Int)*(n2:Int))=(P:Int):=by rw [hPi,IntKind.wrap_i64]; omega
 have hQw:IntKind.i64.wrap ((r:Int)*(n2:Int))=(Q:Int):=by rw [hQi,IntKind.wrap_i64]; omega
 obtain ⟨S,hS⟩:∃ S,Q+n1=S:=⟨_,rfl⟩
 have hMw:IntKind.i64.wrap ((Q:Int)+(n1:Int))=(S:Int):=by rw [IntKind.wrap_i64]; omega
 have HPP:=Lib.hid hP
 have HQQ:Hid (neq L1 L2=S):=by show _=_; unfold neq; rw [HR.out,hn1,hn2,hQ,hS]
 have HSS:Hid (∀ W,Below w.heap.size w W→W.cell? a1=some (.slice D1 n1 d1)∧W.cell? a2=some (.slice D2 n2 d2)):=fun W hW=>⟨cell_keep (X:=fun _=>False) hcell1 hab1 id (.of_below hW),cell_keep (X:=fun _=>False) hcell2 hab2 id (.of_below hW)⟩
 have i1:(0:Int)<(r:Int):=by omega
 have i2:(0:Int)<(s:Int):=by omega
 clear he1 he2 hcell1 hcell2 hn1 hn2 hP hQ hPi hQi hS
 go_enter Tryz.func61,Tryz.ntmps61
 go_wp2_with fail
 refine (pair_any _ _ _ L1 L2 (H1.out.keep kp) (H2.out.keep kp)).mono ?_
 rintro e w1 ⟨code,rfl,HP,hb1⟩
 obtain rfl:code=0:=HP.out.2.2 ⟨HP1.out.1,HP1.out.2.1⟩ HP1.out.2.2
 have z1:=sz3 hb1
 have L1':Loc w1 w.heap.size _ _:=L.to
 have M1:Loc w1 (w.heap.size+1) _ _:=M.to
 have R1:Loc w1 (w.heap.size+1+1) _ _:=R.to
 have HB1:Hid (Below w.heap.size w w1):=bel
 have q1:=R1.lt
 clear HP L M R hb1
 go_wp2_with fail
 go_upto_region 4 with fail
 go_cut [7,8] (fun p q W=>p = .int .i64 n1∧q = .int .i64 n2∧W=w1.drew)
 case first=>
  go_wp2_with fail
  refine wp_region_noPanic ?_
  refine wp_region_held_drew (S:=(fun W=>(W.cell? ⟨w.heap.size,0,none⟩=some (.slice (some a1) r c1)∧W.cell? ⟨w.heap.size+1,0,none⟩=some (.slice (some a2) s c2))∧W.cell? a1=some (.slice D1 n1 d1)∧W.cell? a2=some (.slice D2 n2 d2))) (by kernel_rfl) ?_ (fun hHeld=>?_)
  ·exact ⟨⟨Loc.cell L1' 0,Loc.cell M1 0⟩,HSS.out w1 HB1.out⟩
  refine takeT 0 hHeld ?_
  (try simp only [Act.put,ly])
  refine takeT 1 hHeld ?_
  (try simp only [Act.put,ly])
  refine takeT 2 hHeld ?_
  (try simp only [Act.put,ly])
  refine takeT 3 hHeld ?_
  (try simp only [Act.put,ly])
  refine takeT 4 hHeld ?_
  (try simp only [Act.put,ly])
  refine takeT 5 hHeld ?_
  (try simp only [Act.put,ly])
  refine takeT 6 hHeld ?_
  (try simp only [Act.put,ly])
  refine takeT 7 hHeld ?_
  (try simp only [Act.put,ly])
  refine takeT 8 hHeld ?_
  (try simp only [Act.put,ly])
  refine takeT 9 hHeld ?_
  (try simp only [Act.put,ly])
  refine takeT 10 hHeld ?_
  (try simp only [Act.put,ly])
  refine takeT 11 hHeld ?_
  (try simp only [Act.put,ly])
  refine wpAnyH_done (by kernel_rfl) ?_ _
  refine NoPanic.normal ?_
  go_wp2_with fail
  go_meet
  exact ⟨rfl,rfl,rfl⟩
 case rest=>
  obtain ⟨rfl,rfl,rfl⟩:=hcut
  obtain ⟨e1,f1, -⟩:=L1'.all (w':=w1)
  obtain ⟨e3,f3,l3⟩:=R1.all (w':=w1)
  have HB1d:Hid (Below w.heap.size w w1.drew):=HB1.out.drew
  by_cases hbig:80<P
  ·have d5:decide ((80:Int)<(P:Int))=true:=decide_eq_true (by omega)
   have HD:Hid (DecSays L1 L2 4 false 0 (fun _ _=>0) 0 (fun _ _=>0)):=
    ⟨fun h=>absurd ⟨HP1.out.1,HP1.out.2.1⟩ h,fun _ h=>absurd HP1.out.2.2 h,fun _ _ _=>rfl,fun _ _ h=>absurd (.inl (by rw [HN1.out,HN2.out,HPP.out]; exact hbig)) h,fun h=>by omega,fun _=>⟨rfl,rfl,rfl⟩⟩
   clear hbig
   go_wp2_with fail
   refine bodyPost_ret (by simp [results,Tryz.results61,go_sem,e3,f3,l3] <;> rfl) rfl ⟨false,_,_,0,0,_,_,4,rfl,⟨HEMPTY.out _ _ _ _,HEMPTY.out _ _ _ _⟩,HD,by have hb:=HB1.out; exact bel⟩
  have d5:decide ((80:Int)<(P:Int))=false:=decide_eq_false (by omega)
  by_cases hbig2:80<S
  ·have d6:decide ((80:Int)<(S:Int))=true:=decide_eq_true (by omega)
   have HD:Hid (DecSays L1 L2 4 false 0 (fun _ _=>0) 0 (fun _ _=>0)):=
    ⟨fun h=>absurd ⟨HP1.out.1,HP1.out.2.1⟩ h,fun _ h=>absurd HP1.out.2.2 h,fun _ _ _=>rfl,fun _ _ h=>absurd (.inr (by rw [HQQ.out]; exact hbig2)) h,fun h=>by omega,fun _=>⟨rfl,rfl,rfl⟩⟩
   clear hbig2 hbig
   go_wp2_with fail
   refine bodyPost_ret (by simp [results,Tryz.results61,go_sem,e3,f3,l3] <;> rfl) rfl ⟨false,_,_,0,0,_,_,4,rfl,⟨HEMPTY.out _ _ _ _,HEMPTY.out _ _ _ _⟩,HD,by have hb:=HB1.out; exact bel⟩
  have d6:decide ((80:Int)<(S:Int))=false:=decide_eq_false (by omega)
  have hM80:S≤80:=by omega
  have hP80:P≤80:=by omega
  have HNE1:Hid (wid L1*wid L2≤80):=by show _≤_; rw [HN1.out,HN2.out,HPP.out]; exact hP80
  have HNE2:Hid (neq L1 L2≤80):=by show _≤_; rw [HQQ.out]; exact hM80
  have HSK:=Lib.hid (sys_szk HSZ.out HP1.out.1 HP1.out.2.1 HP1.out.2.2 HNE1.out HNE2.out)
  have HBIG:Hid (¬ (80<wid L1*wid L2∨80<neq L1 L2)):=fun h=>by have:=HNE1.out; have:=HNE2.out; omega
  obtain ⟨e2,f2, -⟩:=M1.all (w':=w1)
  clear hbig hbig2 e3 f3 l3
  go_wp2_with fail
  have hb1:=HB1.out
  refine (system_any _ _ _ L1 L2 (H1.out.keep (.of_below (bel:Below w.heap.size w _))) (H2.out.keep (.of_below (bel:Below w.heap.size w _))) HP1.out.1 HP1.out.2.1 HP1.out.2.2 HNE1.out HNE2.out).mono ?_
  rintro e w2 ⟨v2,rfl,hsys,hb2⟩
  have HSYS:=Lib.hid hsys
  obtain ⟨A5,c5,A6,c6,rfl, -, -⟩:=hsys
  have y2:=hb2.size; (try simp only [zs] at y2)
  go_wp2_with fail
  have hSys:Sys 2 w2 _ (neq L1 L2) (neq L1 L2) (fun _=>wid L1*wid L2) _ _:=HSYS.out
  refine (solve_any _ _ (neq L1 L2) (neq L1 L2) 2 44 (47*neq L1 L2+5) (fun _=>wid L1*wid L2) (sysF L1.length (wid L2) (ce L1) ((tot L2:Int):Rat)) (sysB L1.length (wid L2) (ce L2) ((tot L1:Int):Rat)) hSys (by decide) (by decide) (by decide) (by decide) (by omega) (by have:=HNE2.out; omega) (fun _=>HSK.out)).mono ?_
  rintro e w3 ⟨b,vX,vY,nx,ny,f,y,code,rfl,hXY,hsays,hb3⟩
  have y3:=hb3.size; (try simp only [zs] at y3)
  have HVS:Hid (VS (neq L1 L2) (neq L1 L2) (fun _=>wid L1*wid L2)):=by
   have h1:1≤wid L1:=HP1.out.1.2.2.1
   have h2:1≤wid L2:=HP1.out.2.1.2.2.1
   refine ⟨by unfold neq; omega,HNE2.out,rfl,Nat.mul_pos h1 h2,HNE1.out,fun _ _=>rfl⟩
  obtain ⟨rfl,hRS⟩:=hsays.out.1 HVS.out
  have HRS:=Lib.hid hRS
  have HX:=Lib.hid hXY.out.1
  have HY:=Lib.hid hXY.out.2
  obtain ⟨AX,cX,rfl, -,lx1,lx2⟩:=hXY.out.1.op
  obtain ⟨AY,cY,rfl, -,ly1,ly2⟩:=hXY.out.2.op
  have HB3:Hid (Below w.heap.size w w3):=bel
  have L3:Loc w3 w.heap.size _ _:=L1'.to
  have R3:Loc w3 (w.heap.size+1+1) _ _:=R1.to
  have q3:=R3.lt
  clear hSys hsays hRS hXY hb1 hb2 hb3 e1 f1 e2 f2 L1' M1 R1
  cases b
  case false=>
   have HFK:Hid (FK (neq L1 L2) (neq L1 L2) (fun _=>wid L1*wid L2) (sysF L1.length (wid L2) (ce L1) ((tot L2:Int):Rat)) (sysB L1.length (wid L2) (ce L2) ((tot L1:Int):Rat)) ny y):=by
    rcases HRS.out with h | h
    ·cases h.1
    ·exact h.2.2
   have hny:ny=S:=by rw [←HQQ.out]; exact HFK.out.2.1
   have hrk:r*n2≤ny:=by rw [hny,← HQQ.out]; unfold neq; rw [HR.out,HN2.out]; omega
   have HRK:=Lib.hid hrk
   have hny2:ny≤1000:=by omega
   have hKY:47*neq L1 L2+5+(47*neq L1 L2+5)+10≤4000000:=by have:=HNE2.out; omega
   have T3:=made1 w3 #[.bool false, .slice AX nx cX, .slice AY ny cY] 75
   obtain ⟨e1,f1, -⟩:=L3.all (w':=w3.alloc (.cells #[.bool false, .slice AX nx cX, .slice AY ny cY] 75))
   clear hny hrk HRS
   go_wp2_with fail
   refine (gain_any _ _ ny _ r n2 y (HY.out.keep kp) HRK.out hr1 hn2b.1 hr2 hn2b.2 hny2 (by omega) hKY).mono ?_
   rintro e w4 ⟨v4,rfl,hmat,⟨g4,rfl⟩,hb4⟩
   have y4:=hb4.size; (try simp only [zs] at y4)
   have R4:Loc w4 (w.heap.size+1+1) _ _:=R3.to
   obtain ⟨e3,f3,l3⟩:=R4.all (w':=w4)
   have hKM:Keep (fun b=>b=w.heap.size+1+1) w4 (((w4.setCell ⟨w.heap.size+1+1,0,none⟩ (.bool false)).setCell ⟨w.heap.size+1+1,1,none⟩ (.slice none 0 0)).setCell ⟨w.heap.size+1+1,2,none⟩ (.slice (some ⟨g4,0,none⟩) n2 n2)):=(((Keep.refl (fun b=>b=w.heap.size+1+1) w4).set (p:=⟨w.heap.size+1+1,0,none⟩) (.inl rfl) _).set (p:=⟨w.heap.size+1+1,1,none⟩) (.inl rfl) _).set (p:=⟨w.heap.size+1+1,2,none⟩) (.inl rfl) _
   have HMF:=Lib.hid ((hmat.keep (hKM.weak (Y:=Old (w3.alloc (.cells #[.bool false, .slice AX nx cX, .slice AY ny cY] 75))) (fun b _ h=>by subst h; show _<_; simp only [World.size_alloc]; omega))).weak (Y:=fun _=>False) (fun _ _ h=>h.elim))
   have HGN:Hid (GN L1 L2 n2 (fun _=>L1.length) (fun z x=>top (fun z=>y (x*n2+z)) n2 - y (x*n2+z))):=by
    have h:=gain_of HP1.out.1 HP1.out.2.1 HP1.out.2.2 HFK.out.2.2.1 HFK.out.2.2.2
    rw [HN2.out] at h
    exact h
   have HD:Hid (DecSays L1 L2 0 false 0 (fun _ _=>0) n2 (fun z x=>top (fun z=>y (x*n2+z)) n2 - y (x*n2+z))):=
    ⟨fun h=>absurd ⟨HP1.out.1,HP1.out.2.1⟩ h,fun _ h=>absurd HP1.out.2.2 h,fun _ _ h=>absurd h HBIG.out,fun _ _ _=>rfl,fun _=>⟨.inr ⟨rfl,rfl,HGN.out⟩,fun h=>(by cases h),fun _=>HN2.out.symm⟩,fun h=>absurd rfl h⟩
   have HBF:Hid (Below w.heap.size w w4):=HB3.out.trans (bel:Below w.heap.size w3 w4)
   have HKE:Hid (47*neq L1 L2+5+(47*neq L1 L2+5)+10+(47*neq L1 L2+5+(47*neq L1 L2+5)+10)+1=188*neq L1 L2+41):=by show _=_; omega
   rw [HKE.out] at HMF
   clear hmat hKM e1 f1
   go_wp2_with fail
   refine bodyPost_ret (by simp [results,Tryz.results61,go_sem,e3,f3,l3] <;> rfl) rfl ⟨false,_,_,0,n2,_,_,0,rfl,⟨HEMPTY.out _ _ _ _,by rw [HR.out]; exact HMF.out⟩,HD,by have hb:=HBF.out; exact bel⟩
  case true=>
   have HPT:Hid (SV (neq L1 L2) (wid L1*wid L2) nx (sysF L1.length (wid L2) (ce L1) ((tot L2:Int):Rat)) f (sysB L1.length (wid L2) (ce L2) ((tot L1:Int):Rat))):=by
    rcases HRS.out with h | h
    ·exact h.2.2.2
    ·cases h.1
   have hnx:nx=P:=by rw [HPT.out.1,HN1.out,HN2.out,HPP.out]
   subst hnx
   have HW:Hid (WIT L1 L2 n1 (fun _=>n2) (fun y z=>f (y*n2+z))):=by
    have h:=wit_of_pt HP1.out.1 HP1.out.2.1 HP1.out.2.2 HPT.out
    rw [HN1.out,HN2.out] at h
    exact h
   have T3:=made1 w3 #[.bool true, .slice AX nx cX, .slice AY ny cY] 75
   have G3:=made2 w3 (.cells #[.bool true, .slice AX nx cX, .slice AY ny cY] 75) #[.bool true, .slice none 0 0, .slice none 0 0] 122
   obtain ⟨w5,hw5⟩:∃ W,(w3.alloc (.cells #[.bool true, .slice AX nx cX, .slice AY ny cY] 75)).alloc (.cells #[.bool true, .slice none 0 0, .slice none 0 0] 122)=W:=⟨_,rfl⟩
   have hsz5:w5.heap.size=w3.heap.size+2:=by rw [←hw5]; simp only [World.size_alloc]
   have HB35:Below w3.heap.size w3 w5:=by rw [←hw5]; exact below2 _ _ _
   have T5:Loc w5 w3.heap.size 75 #[.bool true, .slice AX nx cX, .slice AY ny cY]:=by rw [←hw5]; exact T3.to
   have G5:Loc w5 (w3.heap.size+1) 122 #[.bool true, .slice none 0 0, .slice none 0 0]:=by rw [←hw5]; exact G3
   have R5:Loc w5 (w.heap.size+1+1) _ _:=R3.below HB35
   have HX5:=Lib.hid (HX.out.keep (.of_below HB35))
   have HB5:Hid (Below w.heap.size w w5):=HB3.out.trans (HB35.mono (by omega))
   have HW5:=Lib.hid hw5
   obtain ⟨aX,rfl⟩:∃ a,AX=some a:=by
    have h0:0<nx:=by have:=HVS.out.2.2.2.1; rw [←HPP.out]; exact Nat.mul_pos (by omega) (by omega)
    obtain ⟨a, -, -, -, -, -, -, -, -,e, -⟩:=Nums.at HX.out h0
    exact ⟨a,e⟩
   clear hw5 HB35 T3 G3 R3 L3 HRS
   go_wp2_with fail
   rw [HW5.out]
   go_loopw [60] (fun i wr=>∃ (y:Nat) (vA:Value) (us:List Value),y≤n1∧i = .int .i64 y∧us.length=y∧Loc wr (w3.heap.size+1) 122 #[.bool true,vA, .slice none 0 0]∧OwnL wr w5.heap.size vA us∧Hid (∀ i u,us[i]? = some u→Nums 44 w5 (fun _=>False) u n2 (fun z=>f (i*n2+z)))∧Keep (fun b=>b=w3.heap.size+1) w5 wr) (fun i _=>n1 - (intOf i).toNat)
   case atStart=>exact ⟨0,_,[],by omega,rfl,rfl,G5,World.ownsRow_nil _ _ _ _,Lib.hid (fun i u hu=>by simp at hu),Keep.refl _ _⟩
   case round=>
    have G5':=G5
    clear G5
    obtain ⟨y,vA,us,hy,rfl,hul,Gy,hown,hrows,hKy⟩:=hrel
    obtain ⟨wy,rfl⟩:∃ wy:World,wy=wr:=⟨_,rfl⟩
    have yy:=hKy.size
    have q5:=Gy.lt
    have Ty:=T5.keep hKy (show ¬ w3.heap.size=w3.heap.size+1 by omega)
    have q6:=Ty.lt
    have HUL:=Lib.hid hul
    clear hul
    by_cases hlt:y<n1
    ·obtain ⟨lo,hlo⟩:∃ x,y*n2=x:=⟨_,rfl⟩
     have hhi:lo+n2≤nx:=by
      rw [←hlo,← HPP.out]
      have:(y+1)*n2≤n1*n2:=Nat.mul_le_mul_right n2 hlt
      rw [Nat.succ_mul] at this
      omega
     obtain ⟨hi,hhie⟩:∃ x,lo+n2=x:=⟨_,rfl⟩
     rw [hhie] at hhi
     have hloi:(y:Int)*(n2:Int)=(lo:Int):=by rw [←hlo,Int.natCast_mul]
     have hhii:((y:Int)+1)*(n2:Int)=(hi:Int):=by rw [Int.add_mul,hloi]; omega
     have hlow:IntKind.i64.wrap ((y:Int)*(n2:Int))=(lo:Int):=by rw [hloi,IntKind.wrap_i64]; omega
     have hhiw:IntKind.i64.wrap (((y:Int)+1)*(n2:Int))=(hi:Int):=by rw [hhii,IntKind.wrap_i64]; omega
     have hy1w:IntKind.i64.wrap ((y:Int)+1)=(y:Int)+1:=by rw [IntKind.wrap_i64]; omega
     have k0:(0:Int)≤(lo:Int):=by omega
     have k1:(lo:Int)≤(hi:Int):=by omega
     have k2:(hi:Int)≤(cX:Int):=by omega
     have HLO:=Lib.hid hlo
     have HHI:=Lib.hid hhie
     obtain ⟨A0,m0,c0,rfl⟩:∃ A m c,vA = .slice A m c:=by
      rcases hown.2 with ⟨rfl, -⟩ | ⟨g,cap,cur,rfl, -⟩
      ·exact ⟨_,_,_,rfl⟩
      ·exact ⟨_,_,_,rfl⟩
     have HSW:Hid (∀ W,Loc W (w3.heap.size+1) 122 #[.bool true, .slice A0 m0 c0, .slice none 0 0]→Loc W w3.heap.size 75 #[.bool true, .slice (some aX) nx cX, .slice AY ny cY]→W.cell? ⟨w3.heap.size+1,1,none⟩=some (.slice A0 m0 c0)∧W.cell? ⟨w3.heap.size,1,none⟩=some (.slice (some aX) nx cX)):=fun W h1 h2=>⟨Loc.cell h1 1,Loc.cell h2 1⟩
     have hne:¬ hi=lo:=by omega
     have hdf:hi - lo=n2:=by omega
     clear hlo hhie hloi hhii
     go_wp2_with fail
     refine wp_region_noPanic ?_
     refine wp_region_heldK (k:=19) (S:=(fun W=>W.cell? ⟨w3.heap.size+1,1,none⟩=some (.slice A0 m0 c0)∧W.cell? ⟨w3.heap.size,1,none⟩=some (.slice (some aX) nx cX))) (by kernel_rfl) ?_ (fun hHeld=>?_)
     ·exact HSW.out _ Gy Ty
     refine puK 0 ?_
     (try simp only [Act.put,ly])
     refine tkK 1 ?_
     (try simp only [Act.put,ly])
     refine puK 2 ?_
     (try simp only [Act.put,ly])
     refine tkK 3 ?_
     (try simp only [Act.put,ly])
     refine puK 4 ?_
     (try simp only [Act.put,ly])
     refine puK 5 ?_
     (try simp only [Act.put,ly])
     refine puK 6 ?_
     (try simp only [Act.put,ly])
     refine puK 7 ?_
     (try simp only [Act.put,ly])
     refine puK 8 ?_
     (try simp only [Act.put,ly])
     refine puK 9 ?_
     (try simp only [Act.put,ly])
     refine puK 10 ?_
     (try simp only [Act.put,ly])
     refine puK 11 ?_
     (try simp only [Act.put,ly])
     refine puK 12 ?_
     (try simp only [Act.put,ly])
     refine puK 13 ?_
     (try simp only [Act.put,ly])
     refine puK 14 ?_
     (try simp only [Act.put,ly])
     refine puK 15 ?_
     (try simp only [Act.put,ly])
     clear hne hdf
     refine wpAnyK_ready (rs:=[16]) (by kernel_rfl) (by simp) ?_
     refine AllReadyK.cons rfl (fun KK hKK=>?_) AllReadyK.nil
     go_simp
     (try go_wp2_with fail)
     refine hKK.out _ _ ?_ (fun hHeld=>?_)
     ·(try dsimp only)
      exact HSW.out _ Gy.to Ty.to
     clear hKK KK
     (try simp only [Act.put,ly])
     have Gd:Loc (wy.alloc (.cells #[.slice (some (aX.add (lo*4))) n2 n2] 71)).drew (w3.heap.size+1) 122 #[.bool true, .slice A0 m0 c0, .slice none 0 0]:=Gy.to
     have Td:Loc (wy.alloc (.cells #[.slice (some (aX.add (lo*4))) n2 n2] 71)).drew w3.heap.size _ _:=Ty.to
     have hownA:OwnL (wy.alloc (.cells #[.slice (some (aX.add (lo*4))) n2 n2] 71)).drew w5.heap.size (.slice A0 m0 c0) us:=(show OwnL (wy.alloc (.cells #[.slice (some (aX.add (lo*4))) n2 n2] 71)) w5.heap.size (.slice A0 m0 c0) us from hown.below (below1 _ _))
     have hul200:us.length≤256:=by rw [HUL.out]; omega
     refine wpAnyK_ready (rs:=[17]) (by kernel_rfl) (by simp) ?_
     refine AllReadyK.cons rfl (fun KK hKK=>?_) AllReadyK.nil
     refine step_pushL _ rfl _ _ rfl w5.heap.size (.slice A0 m0 c0) us rfl hownA ⟨wy.heap.size,0,none⟩ 1 1 (us.length+1) [.slice (some (aX.add (lo*4))) n2 n2] rfl rfl rfl (fun j u hu=>World.news_of_block (w:=(wy.alloc (.cells #[.slice (some (aX.add (lo*4))) n2 n2] 71)).drew) (made1 wy #[.slice (some (aX.add (lo*4))) n2 n2] 71) j u (by simpa using hu)) (fun u hu=>⟨_,_,_,List.mem_singleton.1 hu⟩) (by decide) (by omega) (by simp only [size_drew,World.size_alloc]; omega) ?_
     intro gA capA w6 hoa6 hg6 ho6 hl6
     have y6:=hg6.size
     simp only [size_drew,World.size_alloc] at y6 ho6
     have G6:Loc w6 (w3.heap.size+1) 122 #[.bool true, .slice A0 m0 c0, .slice none 0 0]:=loc_other hownA hg6 Gd (by decide)
     have T6:=loc_other hownA hg6 Td (by decide)
     refine hKK.out _ _ (HSW.out _ G6 T6) (fun hHeld=>?_)
     clear hKK KK
     (try simp only [Act.put,ly])
     refine puK 18 ?_
     (try simp only [Act.put,ly])
     obtain ⟨e7,f7,l7⟩:=G6.all (w':=w6)
     refine wpAnyK_ready (rs:=[19]) (by kernel_rfl) (by simp) ?_
     refine AllReadyK.last (by kernel_rfl) rfl (fun KK hKK=>?_) AllReadyK.nil
     go_simp
     refine hKK.out _ _ ?_
     clear hKK KK
     (try simp only [Act.put,ly])
     refine wpAnyK_done (by kernel_rfl) ?_ _
     refine NoPanic.normal ?_
     have G7:Loc (w6.setCell ⟨w3.heap.size+1,1,none⟩ (.slice (some ⟨gA,0,none⟩) (us.length+1) capA)) (w3.heap.size+1) 122 #[.bool true, .slice (some ⟨gA,0,none⟩) (us.length+1) capA, .slice none 0 0]:=by
      have:=G6.set 1 (.slice (some ⟨gA,0,none⟩) (us.length+1) capA)
      simpa using this
     have hA0:∀ b,(Value.slice A0 m0 c0).ownBlock=some b→w5.heap.size≤b:=fun b hb=>(hown.lt b hb).1
     have hK7:Keep (fun b=>b=w3.heap.size+1) w5 (w6.setCell ⟨w3.heap.size+1,1,none⟩ (.slice (some ⟨gA,0,none⟩) (us.length+1) capA)):=
      ((hKy.alloc (.cells #[.slice (some (aX.add (lo*4))) n2 n2] 71)).drew.grown hg6 (fun g hg=> .inr (hA0 g hg))).set (.inl rfl) _
     have hoa7:OwnL (w6.setCell ⟨w3.heap.size+1,1,none⟩ (.slice (some ⟨gA,0,none⟩) (us.length+1) capA)) w5.heap.size (.slice (some ⟨gA,0,none⟩) (us.length+1) capA) (us ++ [.slice (some (aX.add (lo*4))) n2 n2]):=
      hoa6.keep (X:=fun b=>b=w3.heap.size+1) ((Keep.refl (fun b=>b=w3.heap.size+1) w6).set (p:=⟨w3.heap.size+1,1,none⟩) (.inl rfl) _) (fun g hg e=>by subst e; exact hoa6.ne G6 (by decide) hg)
     have HROWS:Hid (∀ i u,(us ++ [.slice (some (aX.add (lo*4))) n2 n2])[i]? = some u→Nums 44 w5 (fun _=>False) u n2 (fun z=>f (i*n2+z))):=fun i u hu=>by
      by_cases hi':i<us.length
      ·rw [List.getElem?_append_left hi'] at hu
       exact hrows.out i u hu
      ·have hlt2:=(List.getElem?_eq_some_iff.1 hu).1
       simp at hlt2
       obtain rfl:i=us.length:=by omega
       simp at hu
       subst hu
       rw [HUL.out]
       rw [HLO.out]
       exact Nums.sub HX5.out (by have:=HHI.out; omega)
     clear hoa6 hg6 hown hownA e7 f7 hA0
     go_wp2_with fail
     go_roundw
     case rel=>exact ⟨y+1,_,_,by omega,by go_num,by simp [HUL.out],G7,hoa7,HROWS,hK7⟩
     case measure=>simp only [intOf]; omega
    ·obtain rfl:y=n1:=by omega
     obtain ⟨gA,capA,rfl⟩:∃ g c,vA = .slice (some ⟨g,0,none⟩) y c:=by
      rcases hown.2 with ⟨-,hn⟩ | ⟨g,cap,cur,rfl, -⟩
      ·rw [HUL.out] at hn; omega
      ·rw [HUL.out]; exact ⟨_,_,rfl⟩
     have Ry:=R5.keep hKy (show ¬ w.heap.size+1+1=w3.heap.size+1 by omega)
     have hRl:=Ry.lt
     obtain ⟨e1,f1, -⟩:=Gy.all (w':=wy)
     obtain ⟨e3,f3,l3⟩:=Ry.all (w':=wy)
     have hk4:Keep (fun b=>b=w.heap.size+1+1) wy (((wy.setCell ⟨w.heap.size+1+1,0,none⟩ (.bool true)).setCell ⟨w.heap.size+1+1,1,none⟩ (.slice (some ⟨gA,0,none⟩) y capA)).setCell ⟨w.heap.size+1+1,2,none⟩ (.slice none 0 0)):=(((Keep.refl (fun b=>b=w.heap.size+1+1) wy).set (p:=⟨w.heap.size+1+1,0,none⟩) (.inl rfl) _).set (p:=⟨w.heap.size+1+1,1,none⟩) (.inl rfl) _).set (p:=⟨w.heap.size+1+1,2,none⟩) (.inl rfl) _
     have hnW:∀ u∈(#[.bool false, .slice none 0 0, .slice none 0 0]:Array Value),noW u:=by
      intro u hu
      simp at hu
      rcases hu with rfl | rfl | rfl <;> first | exact noW_bool _ | exact noW_slice _ _ _
     have hnW2:∀ u∈(#[.bool true, .slice none 0 0, .slice none 0 0]:Array Value),noW u:=by
      intro u hu
      simp at hu
      rcases hu with rfl | rfl | rfl <;> first | exact noW_bool _ | exact noW_slice _ _ _
     have HMAT:Hid (Mat 44 (((wy.setCell ⟨w.heap.size+1+1,0,none⟩ (.bool true)).setCell ⟨w.heap.size+1+1,1,none⟩ (.slice (some ⟨gA,0,none⟩) y capA)).setCell ⟨w.heap.size+1+1,2,none⟩ (.slice none 0 0)) (fun _=>False) (.slice (some ⟨gA,0,none⟩) y capA) y (fun _=>n2) (fun y z=>f (y*n2+z))):=by
      refine (hown.keep hk4 (fun g hg e=>by have:=(hown.lt g hg).1; omega)).mat HUL.out (by omega) (fun i u hu=>?_)
      have h1:=(hrows.out i u hu).off3 G5' hnW2
      have h2:=(h1.keep (hKy.weak (fun b _ hb=> .inr hb))).weak (Y:=fun _=>False) (fun _ _ h=>h.elim)
      exact ((h2.off3 Ry hnW).keep (hk4.weak (fun b _ hb=> .inr hb))).weak (fun _ _ h=>h.elim)
     have HD:Hid (DecSays L1 L2 0 true y (fun y z=>f (y*n2+z)) 0 (fun _ _=>0)):=
      ⟨fun h=>absurd ⟨HP1.out.1,HP1.out.2.1⟩ h,fun _ h=>absurd HP1.out.2.2 h,fun _ _ h=>absurd h HBIG.out,fun _ _ _=>rfl,fun _=>⟨.inl ⟨rfl,rfl,by rw [HN2.out]; exact HW.out⟩,fun _=>HN1.out.symm,fun h=>(by cases h)⟩,fun h=>absurd rfl h⟩
     have HBF:Hid (Below w.heap.size w wy):=HB5.out.trans (hKy.low (by omega) (fun b hb h=>by omega))
     clear hk4 hnW hnW2 hown hrows hKy
     go_wp2_with fail
     refine bodyPost_ret (by simp [results,Tryz.results61,go_sem,e3,f3,l3] <;> rfl) rfl ⟨true,_,_,y,0,_,_,0,rfl,⟨by rw [HN2.out]; exact HMAT.out,HEMPTY.out _ _ _ _⟩,HD,by have hb:=HBF.out; exact bel⟩
end Go.Proofs.YtbdcjhoedhhabaaGreat

/- Arguments opened: lists of integers, channels, a refining. -/
namespace Go.Proofs.YtbdcjhoedhhabaaGreat
open Go.ChangeShapes Go.WideShapes Go.ChangeAt Go.RowKit Go.Joins
theorem cellsInt1:Tryz.prog.cellsOf 3=1:=by kernel_rfl
theorem cellsInts:Tryz.prog.cellsOf 27=1:=by kernel_rfl
theorem cellsIMat:Tryz.prog.cellsOf 82=1:=by kernel_rfl
theorem cellsChan:Tryz.prog.cellsOf 120=1:=by kernel_rfl
theorem cellsRefi:Tryz.prog.cellsOf 122=3:=by kernel_rfl

theorem open_Ints {H:Type} {enc:TypeId×Value→H} {W:World} {base:Nat} {fuel:Nat} {v:Value} {x:DataW H×List MemPlace}
 (h:DataW.trod enc Tryz.prog W base (fun _=>true) true fuel 27 [v] = some x):∃ zs,IntsV W v zs:=by
 rcases open_ints Tryz.underlying27 Tryz.underlying3 cellsInt1 h with ⟨hcs,_⟩ | ⟨a,len,cap,zs,hcs,_,hl,hm,hz,_,hcell,hwz⟩
 ·simp at hcs
  subst hcs
  exact ⟨[],none,0,rfl,Nat.le_refl _,Nat.zero_le _,fun h=>absurd rfl h,fun z hz=>by simp at hz⟩
 ·simp at hcs
  subst hcs
  have hz':zs.length=cap:=by simpa using hz
  have hlen:(zs.take len).length=len:=by simp; omega
  refine ⟨zs.take len,_,_,by rw [hlen],by rw [hlen]; exact hl,hm,fun hn=>⟨a,rfl,?_,fun j u hu=>?_⟩,fun z hz=>?_⟩
  ·rw [hlen] at hn
   have h0:=hcell 0 (by omega)
   rw [addr_zero] at h0
   exact World.block_lt_of_cell? W a h0
  ·have hj:j<len:=by have:=(List.getElem?_eq_some_iff.1 hu).1; simp at this; omega
   have hjz:j<zs.length:=by omega
   rw [hcell j hjz]
   rw [List.getElem?_take,if_pos hj,List.getElem?_eq_getElem hjz] at hu
   injection hu with hu
   rw [←hu]
   simp [hjz]
  ·have:=bounds_i64 (hwz z (List.mem_of_mem_take hz))
   omega

set_option maxRecDepth 100000 in
theorem open_IMat {H:Type} {enc:TypeId×Value→H} {W:World} {base:Nat} {fuel:Nat} {v:Value} {x:DataW H×List MemPlace}
 (h:DataW.trod enc Tryz.prog W base (fun _=>true) true fuel 82 [v] = some x):∃ L,IMat W v L:=by
 rcases DataW.trod_slice Tryz.underlying82 h with ⟨hcs,_⟩ | ⟨a,len,cap,elems,rest,n,_,hcs,_,hb,hl,hm,hlen,hel,_⟩
 ·simp at hcs
  subst hcs
  exact ⟨[],none,0,rfl,Nat.le_refl _,Nat.zero_le _,fun h=>absurd rfl h⟩
 ·simp at hcs
  subst hcs
  have key:∀ i,i<len→∃ l,(∃ B c,W.cell? (a.add i)=some (.slice B l.length c)∧IntsV W (.slice B l.length c) l)∧a.block<W.heap.size:=fun i hi=>by
   have hq:=hel i hi
   rw [cellsInts,List.getElem?_eq_getElem (l:=elems) (i:=i) (by omega),Option.bind_eq_some_iff,Nat.mul_one] at hq
   obtain ⟨cs,hcs,ht⟩:=hq
   obtain ⟨_,hn,hc⟩:=World.cells?_some hcs
   match cs,hn with
   | [c0], _ =>
     obtain ⟨l,hr⟩:=open_Ints ht
     have hbl0:=World.cells?_block hcs (show 0<1 by decide)
     have hbl:a.block<W.heap.size:=by rw [add_block] at hbl0; exact hbl0
     obtain ⟨B,c,e,hr2, -, -⟩:=hr.op
     have h0:=hc 0 (by decide)
     rw [addr_zero] at h0
     refine ⟨l,⟨B,c,?_,hr2⟩,hbl⟩
     rw [←e]; exact h0
  obtain ⟨L,hl',hp⟩:=list_of _ len (fun i hi=>key i hi)
  subst hl'
  refine ⟨L,some a,cap,rfl,hl,hm,fun hz=>⟨a,rfl,?_,fun i e he=>(hp i e he).1⟩⟩
  obtain ⟨e,he⟩:=key 0 (by omega)
  exact he.2

set_option maxRecDepth 100000 in
theorem open_Channel {H:Type} {enc:TypeId×Value→H} {W:World} {base:Nat} {r:Reach} {b0:Nat} {v:Value} {d:DataW H} {p:List MemPlace}
 (hv:Value.okWide Tryz.prog W r b0 120 v) (h:DataW.Trod enc Tryz.prog W base (fun _=>true) true 120 v d p):∃ v0 L,v = .agg #[v0]∧IMat W v0 L:=by
 obtain ⟨cs,rfl,hsz⟩:=okWide_struct Tryz.underlying120 hv
 obtain ⟨l⟩:=cs
 match l,hsz.trans cellsChan with
 | [c0], _ =>
   obtain ⟨fuel,hf⟩:=h
   obtain ⟨xs,n,_,_,_,hlen,hg⟩:=DataW.trod_struct Tryz.underlying120 hf
   match xs,hlen with
   | [y0], _ =>
     have g0:DataW.trod enc Tryz.prog W base (fun _=>true) true n 82 (([c0].drop 0).take (Tryz.prog.cellsOf 82)) = [y0][0]?:=hg 0 _ rfl
     rw [cellsIMat] at g0
     have h0:DataW.trod enc Tryz.prog W base (fun _=>true) true n 82 [c0] = some y0:=g0
     obtain ⟨L,h2⟩:=open_IMat h0
     exact ⟨c0,L,rfl,h2⟩
set_option maxRecDepth 100000 in
theorem open_Refining {H:Type} {enc:TypeId×Value→H} {W:World} {base:Nat} {r:Reach} {b0:Nat} {v:Value} {d:DataW H} {p:List MemPlace}
 (hv:Value.okWide Tryz.prog W r b0 122 v) (h:DataW.Trod enc Tryz.prog W base (fun _=>true) true 122 v d p):∃ b v1 v2 L1 L2,v = .agg #[.bool b,v1,v2]∧RMat W v1 L1∧RMat W v2 L2:=by
 obtain ⟨cs,rfl,hsz⟩:=okWide_struct Tryz.underlying122 hv
 obtain ⟨l⟩:=cs
 match l,hsz.trans cellsRefi with
 | [c0, c1, c2], _ =>
   obtain ⟨fuel,hf⟩:=h
   obtain ⟨xs,n,_,_,_,hlen,hg⟩:=DataW.trod_struct Tryz.underlying122 hf
   match xs,hlen with
   | [y0, y1, y2], _ =>
     have g0:DataW.trod enc Tryz.prog W base (fun _=>true) true n 4 (([c0,c1,c2].drop 0).take (Tryz.prog.cellsOf 4)) = [y0,y1,y2][0]?:=hg 0 _ rfl
     have g1:DataW.trod enc Tryz.prog W base (fun _=>true) true n 70 (([c0,c1,c2].drop 1).take (Tryz.prog.cellsOf 70)) = [y0,y1,y2][1]?:=hg 1 _ rfl
     have g2:DataW.trod enc Tryz.prog W base (fun _=>true) true n 70 (([c0,c1,c2].drop 2).take (Tryz.prog.cellsOf 70)) = [y0,y1,y2][2]?:=hg 2 _ rfl
     rw [cellsBool] at g0
     rw [cellsMat] at g1 g2
     have h0:DataW.trod enc Tryz.prog W base (fun _=>true) true n 4 [c0] = some y0:=g0
     have h1:DataW.trod enc Tryz.prog W base (fun _=>true) true n 70 [c1] = some y1:=g1
     have h2:DataW.trod enc Tryz.prog W base (fun _=>true) true n 70 [c2] = some y2:=g2
     obtain ⟨b,e,_⟩:=DataW.trod_bool Tryz.underlying4 h0
     simp at e
     subst e
     obtain ⟨L1,h3⟩:=open_RMat h1
     obtain ⟨L2,h4⟩:=open_RMat h2
     exact ⟨b,c1,c2,L1,L2,rfl,h3,h4⟩
end Go.Proofs.YtbdcjhoedhhabaaGreat

