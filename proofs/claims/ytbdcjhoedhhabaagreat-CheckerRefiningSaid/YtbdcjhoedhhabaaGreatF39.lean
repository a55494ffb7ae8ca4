/- Contracts of the functions that the statements reach, part 39. -/
import Derived.Test.YtbdcjhoedhhabaaGreatRows
import Derived.Test.YtbdcjhoedhhabaaGreatF24
import Derived.Test.YtbdcjhoedhhabaaGreatF27
import Derived.Test.YtbdcjhoedhhabaaGreatF32
import Derived.Test.YtbdcjhoedhhabaaGreatF38
set_option linter.unusedSimpArgs false
set_option linter.unusedVariables false

/- checker.Refining. -/
namespace Go.Proofs.YtbdcjhoedhhabaaGreat
open Go.RowKit
attribute [local go_sem ↓] Go.wp_at_zero Go.wp_at_succ

/-- The code of a proof about two channels. -/
def RefCode (L1 L2:List (List Int)) (P:Prop) (code:Int):Prop:=
 (¬ (VC L1∧VC L2)→code=1)∧(VC L1∧VC L2→L1.length ≠ L2.length→code=2)∧(VC L1∧VC L2→L1.length=L2.length→P→code=0)∧(VC L1∧VC L2→L1.length=L2.length→¬ P→code=13)

set_option maxRecDepth 100000 in
set_option maxHeartbeats 16000000 in
theorem krefining_any (w:World) (v1 v2 vw vg:Value) (b:Bool) (L1 L2:List (List Int)) (m Kn k B:Nat) (N N':Nat→Nat) (F F':Nat→Nat→Rat) (h1:IMat w v1 L1) (h2:IMat w v2 L2) (h:Mat k w (fun _=>False) vw m N F) (h':Mat k w (fun _=>False) vg Kn N' F')
 (hm:m≤200) (hN:∀ i,i<m→N i≤200) (hKn:Kn≤200) (hw1:wid L1≤200) (hw2:wid L2≤200) (hL:L1.length≤200) (hk1:1≤k) (hk:k≤900) (hB:(2+k+1)*L1.length+2≤B) (hB2:B≤2000) :
 Calls Tryz.prog 63 #[.agg #[v1], .agg #[v2], .agg #[.bool b,vw,vg]] w fun e w'=>(∃ code:Int,e = .returned (.int .i64 code)∧Hid (RefCode L1 L2 (PRF L1 L2 b m N F Kn N' F') code))∧Below w.heap.size w w':=by
 have HNN:=Lib.hid hN
 have HBB:=Lib.hid hB
 have HLL:=Lib.hid hL
 have H10:=Lib.hid h1
 have H20:=Lib.hid h2
 have H0:=Lib.hid h
 have H0':=Lib.hid h'
 obtain ⟨A1,c1,rfl, -,la1,la2⟩:=h1.op
 obtain ⟨A2,c2,rfl, -,lb1,lb2⟩:=h2.op
 obtain ⟨A,cA,rfl, -,l1,l2⟩:=h.op
 obtain ⟨A',cA',rfl, -,l1',l2'⟩:=h'.op
 obtain ⟨r,hr⟩:∃ r,L1.length=r:=⟨_,rfl⟩
 obtain ⟨s,hs⟩:∃ s,L2.length=s:=⟨_,rfl⟩
 have HR:=Lib.hid hr
 have HS:=Lib.hid hs
 have HI1:Hid (IMat w (.slice A1 r c1) L1):=by have h9:=H10.out; rw [hr] at h9; exact h9
 have HI2:Hid (IMat w (.slice A2 s c2) L2):=by have h9:=H20.out; rw [hs] at h9; exact h9
 rw [hr] at la1 ⊢
 rw [hs] at lb1 ⊢
 obtain ⟨w0,hw0⟩:∃ W,((w.alloc (.cells #[.slice A1 r c1] 120)).alloc (.cells #[.slice A2 s c2] 120)).alloc (.cells #[.bool b, .slice A m cA, .slice A' Kn cA'] 122)=W:=⟨_,rfl⟩
 have HW0:=Lib.hid hw0
 have L0:Loc w0 w.heap.size 120 #[.slice A1 r c1]:=by rw [←hw0]; exact Loc.alloc (Loc.alloc (made1 w _ _) _) _
 have M0:Loc w0 (w.heap.size+1) 120 #[.slice A2 s c2]:=by rw [←hw0]; exact Loc.alloc (made2 w _ _ _) _
 have N0:Loc w0 (w.heap.size+1+1) 122 #[.bool b, .slice A m cA, .slice A' Kn cA']:=by rw [←hw0]; exact made3 w _ _ _ _
 have HB0:Hid (Below w.heap.size w w0):=by show Below _ _ _; rw [←hw0]; exact bel
 have hs0:w.heap.size+1+1<w0.heap.size:=N0.lt
 have HLM:Hid (∀ W,Below w0.heap.size w0 W→(W.cell? ⟨w.heap.size,0,none⟩=some (.slice A1 r c1)∧W.cell? ⟨w.heap.size+1,0,none⟩=some (.slice A2 s c2))∧(W.cell? ⟨w.heap.size+1+1,0,none⟩=some (.bool b)∧W.cell? ⟨w.heap.size+1+1,1,none⟩=some (.slice A m cA))∧W.cell? ⟨w.heap.size+1+1,2,none⟩=some (.slice A' Kn cA')):=fun W hW=>
  ⟨⟨Loc.cell (L0.below hW) 0,Loc.cell (M0.below hW) 0⟩,⟨Loc.cell (N0.below hW) 0,Loc.cell (N0.below hW) 1⟩,Loc.cell (N0.below hW) 2⟩
 have H1:Hid (IMat w0 (.slice A1 r c1) L1):=HI1.out.keep (.of_below HB0.out)
 have H2:Hid (IMat w0 (.slice A2 s c2) L2):=HI2.out.keep (.of_below HB0.out)
 have H:Hid (Mat k w0 (fun _=>False) (.slice A m cA) m N F):=Mat.keep H0.out (.of_below HB0.out)
 have H':Hid (Mat k w0 (fun _=>False) (.slice A' Kn cA') Kn N' F'):=Mat.keep H0'.out (.of_below HB0.out)
 have HBW:Hid (∀ W,Below w0.heap.size w0 W→Below w.heap.size w W):=fun W hW=>HB0.out.trans (hW.mono (by omega))
 obtain ⟨⟨c01,c02⟩,⟨c03,c04⟩,c05⟩:=HLM.out w0 (Below.refl _ _)
 have q1:w.heap.size<w0.heap.size:=by omega
 have q2:w.heap.size+1<w0.heap.size:=by omega
 clear hr hs h h' h1 h2 H10 H20 H0 H0' HI1 HI2 hw0 L0 M0 N0 hB hN hL
 go_enter Tryz.func63,Tryz.ntmps63
 go_wp2_with (rw [HW0.out])
 refine (ktotal_any _ _ L1 H1.out).mono ?_
 rintro e w1 ⟨⟨t1,rfl,ht1⟩,hb1⟩
 have y1:=hb1.size; (try simp only [zs] at y1)
 clear c01 c02 c03 c04 c05 q1 q2
 by_cases hV1:VC L1
 case neg=>
  have HV:Hid (RefCode L1 L2 (PRF L1 L2 b m N F Kn N' F') 1):=⟨fun _=>rfl,fun h=>absurd h.1 hV1,fun h=>absurd h.1 hV1,fun h=>absurd h.1 hV1⟩
  obtain rfl:t1=0:=ht1.out.2 hV1
  clear ht1 hV1
  go_wp2_with fail
  go_ret
  exact ⟨⟨_,rfl,HV⟩,HBW.out _ hb1⟩
 have HV1:=Lib.hid hV1
 have d1:(t1 == 0)=false:=beq_eq_false_iff_ne.2 (by rw [ht1.out.1 hV1]; have:=hV1.tot; omega)
 obtain ⟨⟨c01,c02⟩,⟨c03,c04⟩,c05⟩:=HLM.out w1 hb1
 have q2:w.heap.size+1<w1.heap.size:=by omega
 clear ht1 hV1
 go_wp2_with fail
 refine (ktotal_any _ _ L2 (H2.out.keep (.of_below hb1))).mono ?_
 rintro e w2 ⟨⟨t2,rfl,ht2⟩,hb2⟩
 have hb2:Below w0.heap.size w0 w2:=hb1.trans (hb2.mono y1)
 have y2:=hb2.size; (try simp only [zs] at y2)
 clear c01 c02 c03 c04 c05 q2
 by_cases hV2:VC L2
 case neg=>
  have HV:Hid (RefCode L1 L2 (PRF L1 L2 b m N F Kn N' F') 1):=⟨fun _=>rfl,fun h=>absurd h.2 hV2,fun h=>absurd h.2 hV2,fun h=>absurd h.2 hV2⟩
  obtain rfl:t2=0:=ht2.out.2 hV2
  clear ht2 hV2
  go_wp2_with fail
  go_ret
  exact ⟨⟨_,rfl,HV⟩,HBW.out _ hb2⟩
 have HV2:=Lib.hid hV2
 have d2:(t2 == 0)=false:=beq_eq_false_iff_ne.2 (by rw [ht2.out.1 hV2]; have:=hV2.tot; omega)
 have HB2:=Lib.hid hb2
 obtain ⟨⟨c01,c02⟩,⟨c03,c04⟩,c05⟩:=HLM.out w2 hb2
 have q1:w.heap.size<w2.heap.size:=by omega
 have q2:w.heap.size+1<w2.heap.size:=by omega
 have q3:w.heap.size+1+1<w2.heap.size:=by omega
 clear ht2 hV2
 by_cases hrs:r=s
 case neg=>
  have HV:Hid (RefCode L1 L2 (PRF L1 L2 b m N F Kn N' F') 2):=by
   have hne:L1.length ≠ L2.length:=by rw [HR.out,HS.out]; exact hrs
   exact ⟨fun h=>absurd ⟨HV1.out,HV2.out⟩ h,fun _ _=>rfl,fun _ h=>absurd h hne,fun _ h=>absurd h hne⟩
  have d3:((r:Int) == (s:Int))=false:=beq_eq_false_iff_ne.2 (by omega)
  have d4:((r:Int) != (s:Int))=true:=bne_iff_ne.2 (by omega)
  clear hrs
  go_wp2_with fail
  go_ret
  exact ⟨⟨_,rfl,HV⟩,HBW.out _ HB2.out⟩
 have HLE:Hid (L1.length=L2.length):=by show _=_; rw [HR.out,HS.out]; exact hrs
 have d3:((r:Int) == (s:Int))=true:=beq_iff_eq.2 (by omega)
 have d4:((r:Int) != (s:Int))=false:=by simp only [bne,d3]; rfl
 have HYES:Hid (PRF L1 L2 b m N F Kn N' F'→RefCode L1 L2 (PRF L1 L2 b m N F Kn N' F') 0):=fun h=>⟨fun h=>absurd ⟨HV1.out,HV2.out⟩ h,fun _ h=>absurd HLE.out h,fun _ _ _=>rfl,fun _ _ h'=>absurd h h'⟩
 have HNO:Hid (¬ PRF L1 L2 b m N F Kn N' F'→RefCode L1 L2 (PRF L1 L2 b m N F Kn N' F') 13):=fun h=>⟨fun h=>absurd ⟨HV1.out,HV2.out⟩ h,fun _ h=>absurd HLE.out h,fun _ _ h'=>absurd h' h,fun _ _ _=>rfl⟩
 clear hrs hb1 hb2
 cases b
 case true=>
  by_cases hz:Kn=0
  case neg=>
   have HV:=Lib.hid (HNO.out (fun h=>by
    rcases h with ⟨-,h, -⟩ | ⟨h, -⟩
    ·exact hz h
    ·cases h))
   have d5:((Kn:Int) == 0)=false:=beq_eq_false_iff_ne.2 (by omega)
   clear hz
   go_wp2_with fail
   go_ret
   exact ⟨⟨_,rfl,HV⟩,HBW.out _ HB2.out⟩
  have HKZ:=Lib.hid hz
  have d5:((Kn:Int) == 0)=true:=beq_iff_eq.2 (by omega)
  clear hz
  go_wp2_with fail
  refine (kwitness_any _ _ _ _ L1 L2 m k N F (H1.out.keep (.of_below HB2.out)) (H2.out.keep (.of_below HB2.out)) (Mat.keep H.out (.of_below HB2.out)) HV1.out HV2.out HLE.out hm HNN.out hk1 hk).mono ?_
  rintro e w3 ⟨⟨x,rfl,hx⟩,hb3⟩
  have y3:=hb3.size; (try simp only [zs] at y3)
  have HB3:Hid (Below w0.heap.size w0 w3):=HB2.out.trans (hb3.mono y2)
  clear c01 c02 c03 c04 c05
  obtain ⟨⟨c01,c02⟩,⟨c03,c04⟩,c05⟩:=HLM.out w3 HB3.out
  have q4:w.heap.size+1+1<w3.heap.size:=by omega
  cases x
  case true=>
   have HV:=Lib.hid (HYES.out (.inl ⟨rfl,HKZ.out,hx.out.1 rfl⟩))
   clear hx
   go_wp2_with fail
   go_ret
   exact ⟨⟨_,rfl,HV⟩,HBW.out _ HB3.out⟩
  case false=>
   have HV:=Lib.hid (HNO.out (fun h=>by
    rcases h with ⟨-, -,h⟩ | ⟨h, -⟩
    ·have:=hx.out.2 h
     cases this
    ·cases h))
   clear hx
   go_wp2_with fail
   go_ret
   exact ⟨⟨_,rfl,HV⟩,HBW.out _ HB3.out⟩
 case false=>
  by_cases hz:m=0
  case neg=>
   have HV:=Lib.hid (HNO.out (fun h=>by
    rcases h with ⟨h, -⟩ | ⟨-,h, -⟩
    ·cases h
    ·exact hz h))
   have d5:((m:Int) == 0)=false:=beq_eq_false_iff_ne.2 (by omega)
   clear hz
   go_wp2_with fail
   go_ret
   exact ⟨⟨_,rfl,HV⟩,HBW.out _ HB2.out⟩
  have HKZ:=Lib.hid hz
  have d5:((m:Int) == 0)=true:=beq_iff_eq.2 (by omega)
  clear hz
  go_wp2_with fail
  refine (kseparates_any _ _ _ _ L1 L2 Kn k B N' F' (H1.out.keep (.of_below HB2.out)) (H2.out.keep (.of_below HB2.out)) (Mat.keep H'.out (.of_below HB2.out)) HV1.out HV2.out HLE.out hKn hw1 hw2 HLL.out hk1 hk HBB.out hB2).mono ?_
  rintro e w3 ⟨⟨x,rfl,hx⟩,hb3⟩
  have y3:=hb3.size; (try simp only [zs] at y3)
  have HB3:Hid (Below w0.heap.size w0 w3):=HB2.out.trans (hb3.mono y2)
  cases x
  case true=>
   have HV:=Lib.hid (HYES.out (.inr ⟨rfl,HKZ.out,hx.out.1 rfl⟩))
   clear hx
   go_wp2_with fail
   go_ret
   exact ⟨⟨_,rfl,HV⟩,HBW.out _ HB3.out⟩
  case false=>
   have HV:=Lib.hid (HNO.out (fun h=>by
    rcases h with ⟨h, -⟩ | ⟨-, -,h⟩
    ·cases h
    ·have:=hx.out.2 h
     cases this))
   clear hx
   go_wp2_with fail
   go_ret
   exact ⟨⟨_,rfl,HV⟩,HBW.out _ HB3.out⟩
end Go.Proofs.YtbdcjhoedhhabaaGreat

/- Lists of lists that grow; blocks of different types; facts whose kept-out blocks are told anew (as in Nl9, Nl11, which serve layer 8). -/
namespace Go.Proofs.YtbdcjhoedhhabaaGreat
open Go.RowKit

theorem info_rats:(Tryz.prog.info? 71).map (fun i=>(i.zero,i.size,i.bytes))=some (some (.slice none 0 0),1,24):=by kernel_rfl
/-- A list of lists that lies in a block of its own, at or above base. -/
def OwnL (w:World) (base:Nat) (v:Value) (us:List Value):Prop:=w.ownsRow base 71 1 v us.length us
def isL (u:Value):Prop:=∃ B p c,u = .slice B p c
theorem isL.one {u:Value} (h:isL u):u.oneCell'=true:=by
 obtain ⟨B,p,c,rfl⟩:=h; rfl
theorem OwnL.below {w w':World} {base:Nat} {v:Value} {us:List Value} (h:OwnL w base v us) (hb:Below w.heap.size w w'):OwnL w' base v us:=by
 refine ⟨h.1,?_⟩
 rcases h.2 with ⟨h',hn⟩ | ⟨g',cap',cur,h',h3,hg',h1,h2,hsz,htake⟩
 ·exact .inl ⟨h',hn⟩
 ·exact .inr ⟨g',cap',cur,h',h3,by rw [hb.block g' (Array.getElem?_eq_some_iff.1 hg').1]; exact hg',h1,h2,hsz,htake⟩
theorem OwnL.mat {w:World} {base g k cap M:Nat} {us:List Value} {N:Nat→Nat} {F:Nat→Nat→Rat} (h:OwnL w base (.slice (some ⟨g,0,none⟩) M cap) us) (hM:us.length=M) (hn:0<M) (hu:∀ i u,us[i]? = some u→Nums k w (fun _=>False) u (N i) (F i)) :
 Mat k w (fun _=>False) (.slice (some ⟨g,0,none⟩) M cap) M N F:=by
 subst hM
 have hg:=h.lt g rfl
 have h1:us.length≤cap∧cap≤maxLen:=by
  rcases h.2 with ⟨h',_⟩ | ⟨g',cap',cur,h',_,_,h1,h2,_⟩
  ·simp at h'
  ·simp only [Value.slice.injEq,Option.some.injEq,Addr.mk.injEq,and_true,true_and] at h'
   obtain ⟨rfl,rfl⟩:=h'
   exact ⟨h1,h2⟩
 refine ⟨us,_,_,rfl,rfl,h1.1,h1.2,fun _=>⟨_,rfl,hg.2,id,fun i u hu=>?_⟩,hu⟩
 have e:(⟨g,0,none⟩:Addr).add i=⟨g,i,none⟩:=by simp [Addr.add]; intro h; omega
 have hi:=(List.getElem?_eq_some_iff.1 hu).1
 rw [e,World.ownsRow.cellAt h i (by omega)]
 exact hu
theorem wp_pushL {o:Oper} {a:Act} {K:Act→World→Prop} {Q:Exit→Act→World→Prop} (w:World) (s x:Operand) (ho:o.op = .call { callee:= .builtin .append,args:=#[s,x],argTypes:=#[70,70] })
 (base:Nat) (v:Value) (us:List Value) (hs:a.eval s=v) (hown:OwnL w base v us) (ad:Addr) (c m T:Nat) (news:List Value) (hx:a.eval x = .slice (some ad) m c) (hlen:news.length=m) (hT:us.length+m=T) (hnews:∀ j u,news[j]? = some u→w.cell? (ad.add j)=some u)
 (h1:∀ u∈news,isL u) (hm:0<m) (hn:T≤2000) (hbase:base≤w.heap.size)
 (h:∀ g cap w',OwnL w' base (.slice (some ⟨g,0,none⟩) T cap) (us ++ news)→w.grownBy w' v.ownBlock→(v.ownBlock=some g∨g=w.heap.size)→g<w'.heap.size→K (a.put o.dst (.slice (some ⟨g,0,none⟩) T cap)) w') :
 Oper.wp Tryz.prog o a w K Q:=by
 obtain ⟨i,hi,hz0,hz1,hz2⟩:=info_parts info_rats
 subst hT
 refine wp_append_lies w s x 70 ho base 71 i _ 1 24 Tryz.underlying70 hi hz0 hz1 hz2 rfl (by decide) v us.length us hs hown ad m c news hx (by omega) hnews (fun u hu=>(h1 u hu).one) hm (by unfold maxLen; omega) (by omega) hbase _ rfl ?_
 intro g cap w' h1 h2 h3 h4
 refine h g cap w' ?_ h2 h3 h4
 unfold OwnL
 rw [List.length_append,hlen]
 exact h1
theorem step_pushL {ops:Array Oper} {o:Oper} {a:Act} {K:Act→World→Prop} {Q:Exit→Act→World→Prop} {E:Prop} (w:World) (hgd:o.guard=none) (s x:Operand) (ho:o.op = .call { callee:= .builtin .append,args:=#[s,x],argTypes:=#[70,70] })
 (base:Nat) (v:Value) (us:List Value) (hs:a.eval s=v) (hown:OwnL w base v us) (ad:Addr) (c m T:Nat) (news:List Value) (hx:a.eval x = .slice (some ad) m c) (hlen:news.length=m) (hT:us.length+m=T) (hnews:∀ j u,news[j]? = some u→w.cell? (ad.add j)=some u)
 (h1:∀ u∈news,isL u) (hm:0<m) (hn:T≤2000) (hbase:base≤w.heap.size)
 (h:∀ g cap w',OwnL w' base (.slice (some ⟨g,0,none⟩) T cap) (us ++ news)→w.grownBy w' v.ownBlock→(v.ownBlock=some g∨g=w.heap.size)→g<w'.heap.size→K (a.put o.dst (.slice (some ⟨g,0,none⟩) T cap)) w') :
 if Region.wanted o (yielded ops a.tmps)=true then Oper.wp Tryz.prog o a w K Q else E:=by
 have hw:Region.wanted o (yielded ops a.tmps)=true:=by simp [Region.wanted,hgd]
 rw [if_pos hw]
 exact wp_pushL w s x ho base v us hs hown ad c m T news hx hlen hT hnews h1 hm hn hbase h

section
variable {W W1:World} {h base base2 sz sz2 n n2 k B:Nat} {t e e2:TypeId} {cs:Array Value} {v v2:Value} {xs xs2:List Value} {rs:List R4} {f:Nat→Rat}
theorem loc_other (hown:W.ownsRow base e sz v n xs) (hg:W.grownBy W1 v.ownBlock) (L:Loc W h t cs) (hne:t ≠ e):Loc W1 h t cs:=by
 refine (hg.block h L.lt (fun eq=>?_)).trans L
 rcases hown.2 with ⟨rfl,_⟩ | ⟨g,cap,cur,rfl,_,hgg,_⟩
 ·cases eq
 ·injection eq with eq
  simp at eq
  subst eq
  unfold Loc at L
  rw [hgg] at L
  injection L with L
  injection L with e1 e2 e3
  exact hne e2.symm
theorem own_other (hown:W.ownsRow base e sz v n xs) (hg:W.grownBy W1 v.ownBlock) (h2:W.ownsRow base2 e2 sz2 v2 n2 xs2) (hne:e2 ≠ e):W1.ownsRow base2 e2 sz2 v2 n2 xs2:=by
 refine h2.kept hg ?_
 rcases h2.2 with ⟨rfl,_⟩ | ⟨g,cap,cur,rfl,_,hgg,_⟩
 ·exact .inl rfl
 ·right
  intro eq
  rcases hown.2 with ⟨rfl,_⟩ | ⟨g',cap',cur',rfl,_,hgg',_⟩
  ·cases eq
  ·injection eq with eq
   simp at eq
   subst eq
   rw [hgg] at hgg'
   injection hgg' with L
   injection L with e1 e2 e3
   exact hne e2
end

section
variable {k n:Nat} {W W2:World} {X Y:Nat→Prop} {v:Value} {q:Rat} {f:Nat→Rat} {rs:List R4}
theorem Keep.both (h:Keep X W W2):Keep (fun b=>X b∨Y b) W W2:=h.weak (fun _ _ h=> .inl h)
theorem RatL.turn (h:RatL k W X v q) (hk:Keep X W W2) (hY:∀ b,b<W.heap.size→Y b→X b):RatL k W2 Y v q:=
 ((h.weak (Y:=fun b=>X b∨Y b) (fun b hb h=>h.elim id (hY b hb))).keep hk.both).weak (fun _ _ h=> .inr h)
theorem Nums.turn (h:Nums k W X v n f) (hk:Keep X W W2) (hY:∀ b,b<W.heap.size→Y b→X b):Nums k W2 Y v n f:=
 ((h.weak (Y:=fun b=>X b∨Y b) (fun b hb h=>h.elim id (hY b hb))).keep hk.both).weak (fun _ _ h=> .inr h)
theorem ValL.turn (h:ValL k W X rs f) (hk:Keep X W W2) (hY:∀ b,b<W.heap.size→Y b→X b):ValL k W2 Y rs f:=fun i r hr=>(h i r hr).turn hk hY
theorem OwnL.keep {base:Nat} {us:List Value} (h:OwnL W base v us) (hb:Keep X W W2) (hX:∀ g,v.ownBlock=some g→¬ X g):OwnL W2 base v us:=by
 refine ⟨h.1,?_⟩
 rcases h.2 with ⟨h',hn⟩ | ⟨g',cap',cur,h',h3,hg',h1,h2,hsz,htake⟩
 ·exact .inl ⟨h',hn⟩
 ·exact .inr ⟨g',cap',cur,h',h3,by rw [hb.block g' (Array.getElem?_eq_some_iff.1 hg').1 (hX g' (by rw [h']; rfl))]; exact hg',h1,h2,hsz,htake⟩
theorem OwnL.ne {base g:Nat} {us:List Value} {t:TypeId} {cs:Array Value} (h:OwnL W base v us) (L:Loc W g t cs) (ht:t ≠ 71):v.ownBlock ≠ some g:=fun e=>by
 rcases h.2 with ⟨h',_⟩ | ⟨g',cap',cur,h',_,hg',_⟩
 ·rw [h'] at e; cases e
 ·rw [h'] at e
  injection e with e
  simp at e
  subst e
  unfold Loc at L
  rw [hg'] at L
  injection L with L
  injection L with e1 e2
  exact ht e2.symm
theorem OwnR.ne {base g:Nat} {t:TypeId} {cs:Array Value} (h:OwnR W base v rs) (L:Loc W g t cs) (ht:t ≠ 213):v.ownBlock ≠ some g:=fun e=>by
 rcases h.2 with ⟨h',_⟩ | ⟨g',cap',cur,h',_,hg',_⟩
 ·rw [h'] at e; cases e
 ·rw [h'] at e
  injection e with e
  simp at e
  subst e
  unfold Loc at L
  rw [hg'] at L
  injection L with L
  injection L with e1 e2
  exact ht e2.symm
end
end Go.Proofs.YtbdcjhoedhhabaaGreat

