/- Contracts of the functions that the statements reach, part 23. -/
import Derived.Test.YtbdcjhoedhhabaaGreatRows
import Derived.Deep.LoopGhost
import Derived.Laws.IdiomStrings
import Derived.Deep.RegionHeld3
import Derived.Deep.DrawnRows
import Derived.Deep.DeepCutAuto
import Derived.Test.YtbdcjhoedhhabaaGreatF18
import Derived.Test.YtbdcjhoedhhabaaGreatF19
import Derived.Test.YtbdcjhoedhhabaaGreatF21
import Derived.Test.YtbdcjhoedhhabaaGreatF22
set_option linter.unusedSimpArgs false
set_option linter.unusedVariables false

/- Decimal texts. Plain arithmetic. -/
namespace Go.Proofs.YtbdcjhoedhhabaaGreat

/-- The number of little-endian decimal digits. -/
def dval:List Nat→Nat
 | []=>0
 | d :: ds=>d+10*dval ds
def Ds (ds:List Nat):Prop:=∀ d∈ds,d<10

@[simp] theorem dval_nil:dval [] = 0:=rfl
@[simp] theorem dval_cons (d:Nat) (ds:List Nat):dval (d :: ds)=d+10*dval ds:=rfl
theorem Ds.cons {x:Nat} {xs:List Nat}:Ds (x :: xs)↔x<10∧Ds xs:=by simp [Ds]
theorem Ds.append {xs ys:List Nat}:Ds (xs ++ ys)↔Ds xs∧Ds ys:=by
 simp only [Ds,List.mem_append]
 exact ⟨fun h=>⟨fun x hx=>h x (.inl hx),fun x hx=>h x (.inr hx)⟩,fun h x hx=>hx.elim (h.1 x) (h.2 x)⟩
theorem Ds.take {xs:List Nat} (h:Ds xs) (n:Nat):Ds (xs.take n):=fun x hx=>h x (List.mem_of_mem_take hx)
/-- The characters of digits. -/
def chars (ds:List Nat):List Nat:=ds.map (48 + ·)
@[simp] theorem chars_length (ds:List Nat):(chars ds).length=ds.length:=by simp [chars]
/-- Bytes out of numbers. -/
def bytesOf (xs:List Nat):List UInt8:=xs.map UInt8.ofNat
@[simp] theorem bytesOf_length (xs:List Nat):(bytesOf xs).length=xs.length:=by simp [bytesOf]
end Go.Proofs.YtbdcjhoedhhabaaGreat

/- Parse: what it answers; the plain law. -/
namespace Go.Proofs.YtbdcjhoedhhabaaGreat
open Go.RowKit

def good (c:UInt8):Prop:=48≤c.toNat∧c.toNat≤57
instance (c:UInt8):Decidable (good c):=inferInstanceAs (Decidable (_∧_))
/-- No number's canonical digits. -/
def synt (neg:Bool) (ds:List UInt8):Prop:=ds = []∨(ds.head? = some 48∧(1<ds.length∨neg=true))
instance (neg:Bool) (ds:List UInt8):Decidable (synt neg ds):=inferInstanceAs (Decidable (_∨_))
/-! The text of what was parsed. -/

/- Parse of package integer. -/

theorem IntV.zero (w:World) (X:Nat→Prop):IntV w X (.agg #[.bool false, .slice none 0 0]) 0:=by
 refine ⟨_,rfl,?_⟩
 have:dig (0:Int).natAbs = []:=dig_zero
 rw [this]
 exact Words.nil _ _

theorem Words.one {w:World} {t:TypeId} {X:Nat→Prop} (d:Nat) (h:d<4294967296) (z:Int) (e:z=(d:Nat)) (hX:∀ b,X b→b<w.heap.size) :
 Words (w.alloc (.cells #[.int .u32 z] t)) X (.slice (some ⟨w.heap.size,0,none⟩) 1 1) [d]:=by
 subst e
 exact Words.lit (t:=t) [d] (Loc.new _ _ _) (by simpa using h) (fun h=>by have:=hX _ h; omega) (by unfold maxLen; simp)
end Go.Proofs.YtbdcjhoedhhabaaGreat

/- Of and Small of package integer and of the reference; same of the law. -/
namespace Go.Proofs.YtbdcjhoedhhabaaGreat
open Go.RowKit
attribute [local go_sem ↓] Go.wp_at_zero Go.wp_at_succ

/-- The two words of an int. -/
theorem words2_val (m:Nat) (h:m<18446744073709551616):val [m % 4294967296,m / 4294967296] = m:=by
 simp; omega

theorem Words.two {w:World} {o:Obj} {t:TypeId} {X:Nat→Prop} (m:Nat) (h:m<18446744073709551616) (z1 z2:Int) (e1:z1=((m % 4294967296:Nat):Int)) (e2:z2=((m / 4294967296:Nat):Int)) (hX:∀ b,X b→b<w.heap.size) :
 Words ((w.alloc o).alloc (.cells #[.int .u32 z1, .int .u32 z2] t)) X (.slice (some ⟨w.heap.size+1,0,none⟩) 2 2) [m % 4294967296,m / 4294967296]:=by
 subst e1 e2
 refine Words.lit (t:=t) [m % 4294967296,m / 4294967296] ?_ (by simp; omega) (fun h=>by have:=hX _ h; omega) (by unfold maxLen; simp)
 have:=Loc.new (w.alloc o) #[.int .u32 ((m % 4294967296:Nat):Int), .int .u32 ((m / 4294967296:Nat):Int)] t
 simpa [nums] using this

set_option maxHeartbeats 400000 in
theorem of_any (w:World) (n:Int) (h0 : -9223372036854775808≤n) (h1:n≤9223372036854775807) :
 Calls Tryz.prog 448 #[.int .i64 n] w fun e w'=>∃ v',e = .returned v'∧IntV w' (Old w) v' n∧Below w.heap.size w w':=by
 obtain ⟨m,hm⟩:∃ m,m=n.natAbs:=⟨_,rfl⟩
 have hs:sv (decide (n<0)) [m % 4294967296,m / 4294967296] = n:=by unfold sv; rw [words2_val m (by omega)]; split <;> simp_all <;> omega
 have HT:Hid (n<0→sv true [m % 4294967296,m / 4294967296] = n):=fun h=>by rw [←hs]; simp [h]
 have HF:Hid (¬ n<0→sv false [m % 4294967296,m / 4294967296] = n):=fun h=>by rw [←hs]; simp [h]
 have HM:=Lib.hid hm
 clear hs hm
 by_cases hn:n<0
 all_goals
  go_enter Tryz.func448,Tryz.ntmps448
  go_wp2_with fail
  refine (signed_any _ (Old w) _ _ [m % 4294967296,m / 4294967296] (Words.two m (by have:=HM.out; omega) _ _ (by have:=HM.out; (try simp only [IntKind.wrap_u64]); omega) (by have:=HM.out; (try simp only [IntKind.wrap_u64]); omega) (by simp [Old])) (by simp)).mono ?_
  rintro e w2 ⟨v2,rfl,h2,hb2⟩
  first | rw [HT.out (by omega)] at h2 | rw [HF.out (by omega)] at h2
  obtain ⟨b2,A2,n2,c2,rfl,h2⟩:=h2.op
  obtain ⟨Lr,_,hB,hsz2⟩:=locs2 hb2
  have cc:=Lr.cell
  have cf:=Lr.frz
  go_wp2_with fail
  refine bodyPost_ret (by simp [results,Tryz.results448,go_sem,cc,cf] <;> rfl) rfl ⟨_,rfl,?_,below_set2 hB (by omega) _ _⟩
  exact IntV.stored (g:=w.heap.size) h2 (by simp only [Old,World.size_alloc]; omega) _ _ (by intro b _ hb; simp only [Old,World.size_alloc] at hb ⊢; omega)

/- Of of the reference; Small of both. -/

/-- Does an integer fit an int? -/
def fits (z:Int):Bool:=decide (-9223372036854775808≤z∧z≤9223372036854775807)

/- Divide of the program. -/

/-- The floor of a quotient, as the code makes it. -/
def qF (x y:Int):Int:=if x.sign*y.sign<0 then (if x.natAbs % y.natAbs=0 then -((x.natAbs / y.natAbs:Nat):Int) else -((x.natAbs / y.natAbs:Nat):Int) - 1) else ((x.natAbs / y.natAbs:Nat):Int)


/-- A box filled: what it holds, and what else is kept. -/
theorem fill_box {W:World} {g:Nat} {t:TypeId} {a0 a1 u v:Value} (L:Loc W g t #[a0,a1]) :
 Loc ((W.setCell ⟨g,0,none⟩ u).setCell ⟨g,1,none⟩ v) g t #[u,v]∧(∀ {h t' cs},Loc W h t' cs→h ≠ g→Loc ((W.setCell ⟨g,0,none⟩ u).setCell ⟨g,1,none⟩ v) h t' cs):=by
 constructor
 ·have:=(L.set 0 u).set 1 v
  simpa using this
 ·intro h t' cs Lh hne
  exact (Lh.far (p:=⟨g,0,none⟩) hne u).far (p:=⟨g,1,none⟩) hne v

set_option maxHeartbeats 2000000 in
theorem divide_any (w:World) (X:Nat→Prop) (v1 v2:Value) (n1 n2:Bool) (xs ys:List Nat) (h1:IntR w X v1 n1 xs) (h2:IntR w X v2 n2 ys) (hz:val ys ≠ 0) (hs1:xs.length≤100000000) (hs2:ys.length≤100000000) :
 Calls Tryz.prog 527 #[v1,v2] w fun e w'=>∃ q r,e = .returned (.tuple #[q,r, .int .i64 0])∧IntV w' (Old w) q (qF (sv n1 xs) (sv n2 ys))∧IntV w' (Old w) r (sv n1 xs - qF (sv n1 xs) (sv n2 ys)*sv n2 ys)∧Below w.heap.size w w':=by
 obtain ⟨A,c,rfl,_,_,H1⟩:=h1.open_
 obtain ⟨B,d,rfl,_,_,H2⟩:=h2.open_
 have SL2:=Lib.hid (sv_len n2 ys H2.2)
 have l1:=trimL_len xs
 have l2:=trimL_len ys
 have c1:=can_trimL H1.2
 have c2:=can_trimL H2.2
 have l3:0<(trimL ys).length:=by rw [trimL_dig H2.2,dig_len_pos]; omega
 have HV1:=Lib.hid (val_trimL xs)
 have HV2:=Lib.hid (val_trimL ys)
 obtain ⟨sx,hsx⟩:∃ s,(sv n1 xs).sign=s:=⟨_,rfl⟩
 obtain ⟨sy,hsy⟩:∃ s,(sv n2 ys).sign=s:=⟨_,rfl⟩
 have bx : -1≤sx∧sx≤1:=by rcases sign_cases (sv n1 xs) with ⟨_,h⟩ | ⟨_,h⟩ | ⟨_,h⟩ <;> omega
 have hby:sy = -1∨sy=0∨sy=1:=by rcases sign_cases (sv n2 ys) with ⟨_,h⟩ | ⟨_,h⟩ | ⟨_,h⟩ <;> omega
 obtain ⟨P,hP⟩:∃ P,sx*sy=P:=⟨_,rfl⟩
 have hPb : -1≤P∧P≤1:=by rcases hby with rfl | rfl | rfl <;> omega
 have hwP:IntKind.i64.wrap P=P:=by rw [IntKind.wrap_i64]; omega
 have HSX:=Lib.hid hsx
 have HSY:=Lib.hid hsy
 obtain ⟨Z,hZ⟩:∃ Z,qF (sv n1 xs) (sv n2 ys)=Z:=⟨_,rfl⟩
 have HZ:=Lib.hid hZ
 have hq:Z=if P<0 then (if val xs % val ys=0 then -((val xs / val ys:Nat):Int) else -((val xs / val ys:Nat):Int) - 1) else ((val xs / val ys:Nat):Int):=by
  rw [←hZ]; unfold qF; rw [hsx,hsy,hP,sv_abs,sv_abs]
 have HQ:=Lib.hid hq
 rw [hZ]
 clear hsx hsy hby hZ hq
 go_enter Tryz.func527,Tryz.ntmps527
 go_wp2_with fail
 refine (trim_any _ X _ ys (H2.below (below4 w _ _ _ _))).mono ?_
 rintro e w1 ⟨v1,rfl,ha,rfl⟩
 obtain ⟨A1,c1',rfl,_,_,Ha⟩:=ha.open_
 obtain ⟨L2,L3,L4,L5,hB0,hsz0⟩:=locs4 (Below.refl _ ((((w.alloc (.cells #[.bool n1, .slice A xs.length c] 211)).alloc (.cells #[.bool n2, .slice B ys.length d] 211)).alloc (.cells #[.bool false, .slice none 0 0] 211)).alloc (.cells #[.bool false, .slice none 0 0] 211)))
 have H10:=(H1.weak (Y:=fun b=>w.heap.size≤b∧b<w.heap.size+1+1+1+1) (fun b h1 h2=>by omega)).below hB0
 clear H1
 generalize ((((w.alloc (.cells #[.bool n1, .slice A xs.length c] 211)).alloc (.cells #[.bool n2, .slice B ys.length d] 211)).alloc (.cells #[.bool false, .slice none 0 0] 211)).alloc (.cells #[.bool false, .slice none 0 0] 211))=w0 at *
 have cx:=L2.cell
 have cy:=L3.cell
 go_wp2_with fail
 refine (trim_any _ _ _ xs H10).mono ?_
 rintro e w1 ⟨v2,rfl,hb,rfl⟩
 go_wp2_with fail
 refine (over_any _ (fun b=>w.heap.size≤b∧b<w.heap.size+1+1+1+1) (fun b h=>by omega) _ _ (trimL xs) (trimL ys) hb (ha.weak (fun _ _ h=>h.elim)) c1 c2 l3 (by omega) (by omega)).mono ?_
 rintro e w1 ⟨q1,r1,qs,rs,rfl,hq1,hr1,hqv,hrv,hql,hrl,hb1⟩
 rw [HV1.out,HV2.out] at hqv hrv
 have HQV:=Lib.hid hqv
 have HRV:=Lib.hid hrv
 clear hqv hrv cx cy ha hb
 have M2:=L2.below hb1
 have M3:=L3.below hb1
 have M4:=L4.below hb1
 have M5:=L5.below hb1
 have hB1:=hB0.trans (hb1.mono (by omega))
 have hx1:=h1.below hB1
 have hy1:=h2.below hB1
 have hsz1:w.heap.size+1+1+1<w1.heap.size:=by have:=hb1.size; omega
 clear L2 L3 L4 L5 H10 H2 hb1 hB0 hsz0
 go_wp2_with fail
 have KS:Hid (∀ W,Below (w.heap.size+2) w1 W→Loc W w.heap.size 211 #[.bool n1, .slice A xs.length c]∧Loc W (w.heap.size+1) 211 #[.bool n2, .slice B ys.length d]):=fun W hW=>⟨M2.below' hW (by omega),M3.below' hW (by omega)⟩
 go_region_held3 (fun w'=>(w'.cell? ⟨w.heap.size,0,none⟩=some (.bool n1)∧w'.cell? ⟨w.heap.size,1,none⟩=some (.slice A xs.length c))∧w'.cell? ⟨w.heap.size+1,0,none⟩=some (.bool n2)∧w'.cell? ⟨w.heap.size+1,1,none⟩=some (.slice B ys.length d))
  (first | exact cells_of (KS.out _ (((k3.mono (by omega)).setCell (by simp) _).setCell (by simp) _)) | exact cells_of (KS.out _ (k3.mono (by omega))) | exact cells_of (KS.out _ (k2.mono (by omega))) | exact cells_of (KS.out _ (k1.mono (by omega))) | exact cells_of (KS.out _ (Below.refl _ _).drew) | go_keep)
  (first
   | (go_at_call_of 422 (Value.agg #[Value.bool n1,Value.slice A xs.length c]); refine (sign_any _ X _ n1 xs (hx1.below (Below.refl _ _).drew)).mono ?_; rintro e u1 ⟨he,hb1⟩; rw [HSX.out] at he; subst he; have k1:=below_undrew hb1)
   | (go_at_call_of 422 (Value.agg #[Value.bool n2,Value.slice B ys.length d]); refine (sign_any _ X _ n2 ys (hy1.below k1)).mono ?_; rintro e u2 ⟨he,hb2⟩; rw [HSY.out] at he; subst he; have k2:=k1.trans (hb2.mono k1.size))
   | (go_at_call 427; refine (signed_any _ _ _ q1 qs (hq1.below k2) (by omega)).mono ?_; rintro e u3 ⟨v3,rfl,h3,hb3⟩; have k3:=k2.trans (hb3.mono k2.size); have hu2:=k2.size; obtain ⟨b3,A3,m3,c3,rfl,h3⟩:=h3.op; have c4:=(M4.below k3).cell; have f4:=(M4.below k3).frz))
 all_goals
  have P4:=M4.below k3
  obtain ⟨N4,hfar⟩:=fill_box (u:= .bool b3) (v:= .slice A3 m3 c3) P4
  have N2:=hfar (M2.below k3) (by omega)
  have N3:=hfar (M3.below k3) (by omega)
  have N5:=hfar (M5.below k3) (by omega)
  have hB3:=hB1.trans (k3.mono (by omega))
  have hB5:=(hB3.setCell (p:=⟨w.heap.size+1+1,0,none⟩) (by show w.heap.size≤w.heap.size+1+1; omega) (.bool b3)).setCell (p:=⟨w.heap.size+1+1,1,none⟩) (by show w.heap.size≤w.heap.size+1+1; omega) (.slice A3 m3 c3)
  have hkp:Keep (fun b=>w.heap.size≤b∧b<w.heap.size+1+1+1+1) u3 ((u3.setCell ⟨w.heap.size+1+1,0,none⟩ (.bool b3)).setCell ⟨w.heap.size+1+1,1,none⟩ (.slice A3 m3 c3)):=((Keep.refl _ _).set (p:=⟨w.heap.size+1+1,0,none⟩) (.inl (by show w.heap.size≤w.heap.size+1+1∧w.heap.size+1+1<w.heap.size+1+1+1+1; omega)) _).set (p:=⟨w.heap.size+1+1,1,none⟩) (.inl (by show w.heap.size≤w.heap.size+1+1∧w.heap.size+1+1<w.heap.size+1+1+1+1; omega)) _
  have hq5:=(h3.weak (Y:=fun b=>b<w.heap.size+1+1+1+1) (fun b h1 h2=>by show b<_; omega)).keep (hkp.weak (fun b _ h=>h.2))
  have hr5:=(hr1.below k3).keep hkp
  have hsz5:w.heap.size+1+1+1<((u3.setCell ⟨w.heap.size+1+1,0,none⟩ (.bool b3)).setCell ⟨w.heap.size+1+1,1,none⟩ (.slice A3 m3 c3)).heap.size:=N5.lt
  clear KS M2 M3 M4 M5 P4 hfar hkp hB3 hr1 h3 hb3 hb2 hb1 c4 f4 k1 k2 k3 hq1 hx1 hy1 hB1 hu2
  generalize (u3.setCell ⟨w.heap.size+1+1,0,none⟩ (.bool b3)).setCell ⟨w.heap.size+1+1,1,none⟩ (.slice A3 m3 c3)=w5 at *
  have hx5:=h1.below hB5
  have hy5:=h2.below hB5
  go_upto_region 6 with fail
  go_cut [45] (fun x W=>∃ bb:Bool,x = .bool bb∧bb=decide (P<0∧val xs % val ys ≠ 0)∧Below w5.heap.size w5 W)
  case first=>
   have KS:Hid (∀ W,Below (w.heap.size+2) w5 W→Loc W w.heap.size 211 #[.bool n1, .slice A xs.length c]∧Loc W (w.heap.size+1) 211 #[.bool n2, .slice B ys.length d]):=fun W hW=>⟨N2.below' hW (by omega),N3.below' hW (by omega)⟩
   go_wp2_with fail
   have hlt:=trimL_dig hr5.2
   have hlp:=dig_len_pos (val rs)
   rw [←hlt,HRV.out] at hlp
   have HLP:=Lib.hid hlp
   clear hlt hlp
   by_cases hneg:P<0
   ·have hd:decide (P<0)=true:=decide_eq_true hneg
    have HNEG:=Lib.hid hneg
    clear hneg
    go_region_held3 (fun w'=>(w'.cell? ⟨w.heap.size,0,none⟩=some (.bool n1)∧w'.cell? ⟨w.heap.size,1,none⟩=some (.slice A xs.length c))∧w'.cell? ⟨w.heap.size+1,0,none⟩=some (.bool n2)∧w'.cell? ⟨w.heap.size+1,1,none⟩=some (.slice B ys.length d))
     (first | exact cells_of (KS.out _ (k2.mono (by omega))) | exact cells_of (KS.out _ (k1.mono (by omega))) | exact cells_of (KS.out _ (Below.refl _ _).drew) | go_keep)
     (first
      | (go_at_call_of 422 (Value.agg #[Value.bool n1,Value.slice A xs.length c]); refine (sign_any _ X _ n1 xs (hx5.below (Below.refl _ _).drew)).mono ?_; rintro e u1 ⟨he,hb1⟩; rw [HSX.out] at he; subst he; have k1:=below_undrew hb1)
      | (go_at_call_of 422 (Value.agg #[Value.bool n2,Value.slice B ys.length d]); refine (sign_any _ X _ n2 ys (hy5.below k1)).mono ?_; rintro e u2 ⟨he,hb2⟩; rw [HSY.out] at he; subst he; have k2:=k1.trans (hb2.mono k1.size))
      | (go_at_call 426; refine (trim_any _ _ _ rs (hr5.below k2)).mono ?_; rintro e u3 ⟨v3,rfl,h3,rfl⟩; obtain ⟨A6,c6,rfl,_,_,h3⟩:=h3.open_))
    all_goals
     clear KS
     go_wp2_with fail
     go_meet
     exact ⟨_,rfl,(decide_eq_decide.2 ⟨fun h=>⟨HNEG.out,by have:=HLP.out.1 h; omega⟩,fun h=>HLP.out.2 (by omega)⟩),k2⟩
   ·obtain ⟨nb,hnb⟩:∃ nb,decide (P<0)=nb:=⟨_,rfl⟩
    have hnf:nb=false:=by rw [←hnb]; exact decide_eq_false hneg
    subst hnf
    have hnp:¬ P<0:=hneg
    have hnq:(P<0)=False:=eq_false hneg
    have HNEG:=Lib.hid hneg
    clear hneg
    have e2:∀ i,w5.drew.cell? ⟨w.heap.size,i,none⟩=#[Value.bool n1,Value.slice A xs.length c][i]?:=N2.cell
    have e3:∀ i,w5.drew.cell? ⟨w.heap.size+1,i,none⟩=#[Value.bool n2,Value.slice B ys.length d][i]?:=N3.cell
    first
     | (go_region_with (first
      | (go_at_call_of 422 (Value.agg #[Value.bool n1,Value.slice A xs.length c]); refine (sign_any _ X _ n1 xs (hx5.below (Below.refl _ _).drew)).mono ?_; rintro e u1 ⟨he,hb1⟩; rw [HSX.out] at he; subst he; have k1:=below_undrew hb1; have e2:=(N2.below k1).cell; have e3:=(N3.below k1).cell)
      | (go_at_call_of 422 (Value.agg #[Value.bool n2,Value.slice B ys.length d]); refine (sign_any _ X _ n2 ys (hy5.below k1)).mono ?_; rintro e u2 ⟨he,hb2⟩; rw [HSY.out] at he; subst he; have k2:=k1.trans (hb2.mono k1.size))))
     | fail "region"
    all_goals
     clear KS
     go_wp2_with fail
     go_meet
     exact ⟨_,rfl,by rw [eq_comm,decide_eq_false_iff_not]; exact fun h=>by have h1:=HNEG.out; have h2:=h.1; omega,k2⟩
  case rest=>
   obtain ⟨bb,rfl,hbb,k6⟩:=hcut
   have HBB:=Lib.hid hbb
   clear hbb
   have M2:=N2.below k6
   have M3:=N3.below k6
   have M4:=N4.below k6
   have M5:=N5.below k6
   have hq6:=hq5.below k6
   have hB6:=hB5.trans (k6.mono (by omega))
   have hsz6:w.heap.size+1+1+1<wc.heap.size:=M5.lt
   clear N2 N3 N4 N5 hq5 hx5 hy5 hB5 hr5 k6 hsz5
   go_upto_if 45 with fail
   go_cut [46] (fun _ W=>∃ (b:Bool) (D:Option Addr) (m k:Nat),Loc W w.heap.size 211 #[.bool n1, .slice A xs.length c]∧Loc W (w.heap.size+1) 211 #[.bool n2, .slice B ys.length d]∧Loc W (w.heap.size+1+1) 211 #[.bool b, .slice D m k]∧Loc W (w.heap.size+1+1+1) 211 #[.bool false, .slice none 0 0]∧
    IntV W (fun b=>b<w.heap.size+1+1+1+1) (.agg #[.bool b, .slice D m k]) Z∧Below w.heap.size w W)
   case first=>
    cases bb
    ·have hc:=of_decide_eq_false HBB.out.symm
     have hz2:sv (decide (P<0)) qs=Z:=by
      rw [HQ.out]
      by_cases hneg:P<0
      ·have hr0:val xs % val ys=0:=by
        rcases Nat.eq_zero_or_pos (val xs % val ys) with h | h
        ·exact h
        ·exact absurd ⟨hneg,by omega⟩ hc
       rw [decide_eq_true hneg,sv_true,HQV.out,if_pos hneg,if_pos hr0]
      ·rw [decide_eq_false hneg,sv_false,HQV.out,if_neg hneg]
     rw [hz2] at hq6
     clear hz2 hc
     go_wp2_with fail
     go_meet
     exact ⟨_,_,_,_,M2,M3,M4,M5,hq6,hB6⟩
    ·have hc:=of_decide_eq_true HBB.out.symm
     have hz2:=HQ.out
     rw [if_pos hc.1,if_neg hc.2] at hz2
     have HZ2:=Lib.hid hz2
     rw [decide_eq_true hc.1,sv_true,HQV.out] at hq6
     have hlq:(dig (-((val xs / val ys:Nat):Int)).natAbs).length≤xs.length:=by
      rw [Int.natAbs_neg,Int.natAbs_natCast]
      exact Nat.le_trans (dig_len_mono (Nat.div_le_self _ _)) (by rw [←HV1.out]; exact Nat.le_trans (dig_val_len c1.1) l1)
     have HLQ:=Lib.hid hlq
     clear hz2 hlq hc
     go_wp2_with fail
     have KS:Hid (∀ W,Below (w.heap.size+1+1+1) wc W→W.cell? ⟨w.heap.size+1+1,0,none⟩=some (.bool b3)∧W.cell? ⟨w.heap.size+1+1,1,none⟩=some (.slice A3 m3 c3)):=fun W hW=>⟨(M4.below' hW (by omega)).cell 0,(M4.below' hW (by omega)).cell 1⟩
     have HL1:Hid ((dig (1:Int).natAbs).length≤1000000000000):=by
      have h:(dig 1).length≤1:=dig_len_le (by decide)
      exact Nat.le_trans h (by decide)
     have hof:=fun w'=>of_any w' 1 (by decide) (by decide)
     have d0:∀ i,wc.drew.cell? ⟨w.heap.size+1+1,i,none⟩=#[Value.bool b3,Value.slice A3 m3 c3][i]?:=M4.cell
     go_region_with (first
      | (go_at_call 448; refine (hof _).mono ?_; rintro e u1 ⟨v7,rfl,h7,hb7⟩; have k1:=below_undrew hb7; obtain ⟨b7,A7,m7,c7,rfl,h7⟩:=h7.op; have d4:=(M4.below k1).cell)
      | (go_at_call 558; refine (sub_any _ (fun _=>False) _ _ _ _ _ _ ((hq6.weak (fun _ _ h=>h.elim)).below k1) (h7.weak (fun _ _ h=>h.elim)) (by have:=HLQ.out; omega) HL1.out).mono ?_; rintro e u2 ⟨v8,rfl,h8,hb8⟩; have k2:=k1.trans (hb8.mono k1.size); obtain ⟨b8,A8,m8,c8,rfl,h8⟩:=h8.op; have c4:=(M4.below k2).cell; have f4:=(M4.below k2).frz))
     all_goals
      rw [sv_dig,sv_dig,← HZ2.out] at h8
      obtain ⟨R4,hfar⟩:=fill_box (u:= .bool b8) (v:= .slice A8 m8 c8) (M4.below k2)
      have R2:=hfar (M2.below k2) (by omega)
      have R3:=hfar (M3.below k2) (by omega)
      have R5:=hfar (M5.below k2) (by omega)
      have hu1:=k1.size
      have hB8:=((hB6.trans (k2.mono (by omega))).setCell (p:=⟨w.heap.size+1+1,0,none⟩) (by show w.heap.size≤w.heap.size+1+1; omega) (.bool b8)).setCell (p:=⟨w.heap.size+1+1,1,none⟩) (by show w.heap.size≤w.heap.size+1+1; omega) (.slice A8 m8 c8)
      have hkp:Keep (fun b=>b<w.heap.size+1+1+1+1) u2 ((u2.setCell ⟨w.heap.size+1+1,0,none⟩ (.bool b8)).setCell ⟨w.heap.size+1+1,1,none⟩ (.slice A8 m8 c8)):=((Keep.refl _ _).set (p:=⟨w.heap.size+1+1,0,none⟩) (.inl (by show w.heap.size+1+1<w.heap.size+1+1+1+1; omega)) _).set (p:=⟨w.heap.size+1+1,1,none⟩) (.inl (by show w.heap.size+1+1<w.heap.size+1+1+1+1; omega)) _
      have h9:=(h8.weak (Y:=fun b=>b<w.heap.size+1+1+1+1) (fun b h1 h2=>by show b<_; omega)).keep hkp
      clear c4 f4 d0 hkp
      go_wp2_with fail
      go_meet
      exact ⟨_,_,_,_,R2,R3,R4,R5,h9,hB8⟩
   case rest=>
    obtain ⟨b9,D,m9,k9,N2,N3,N4,N5,hq9,hB9⟩:=hcut
    have hsz9:w.heap.size+1+1+1<wc.heap.size:=N5.lt
    have hx9:=h1.below hB9
    have hy9:=h2.below hB9
    have hzl:(dig Z.natAbs).length≤xs.length+1:=by
     have hb:(dig ((val xs / val ys:Nat):Int).natAbs).length≤xs.length:=by
      rw [Int.natAbs_natCast]
      exact Nat.le_trans (dig_len_mono (Nat.div_le_self _ _)) (by rw [←HV1.out]; exact Nat.le_trans (dig_val_len c1.1) l1)
     have h0:(dig (1:Int).natAbs).length≤xs.length+0∨xs.length=0:=by
      rcases Nat.eq_zero_or_pos xs.length with h | h
      ·exact .inr h
      ·exact .inl (Nat.le_trans (show (dig 1).length≤1 from dig_len_le (by decide)) (by omega))
     rw [HQ.out]
     split
     ·split
      ·rw [Int.natAbs_neg]; omega
      ·rcases h0 with h0 | h0
       ·exact sub_len _ _ _ (by rw [Int.natAbs_neg]; exact hb) (by simpa using h0)
       ·have hx0:val xs=0:=by
         have:=List.length_eq_zero_iff.1 h0
         subst this; rfl
        rename_i hr
        exact absurd (by rw [hx0,Nat.zero_mod]) hr
     ·omega
    have HZL:=Lib.hid hzl
    have hpl:(dig (Z*sv n2 ys).natAbs).length≤xs.length+1+ys.length:=by
     have h:=len_mul (ws_dig Z.natAbs) (ws_dig (sv n2 ys).natAbs)
     rw [val_dig,val_dig,← Int.natAbs_mul] at h
     have:=SL2.out
     omega
    have HPL:=Lib.hid hpl
    clear hpl
    have KS:Hid (∀ W,Below (w.heap.size+1+1+1) wc W→((W.cell? ⟨w.heap.size,0,none⟩=some (.bool n1)∧W.cell? ⟨w.heap.size,1,none⟩=some (.slice A xs.length c))∧W.cell? ⟨w.heap.size+1,0,none⟩=some (.bool n2)∧W.cell? ⟨w.heap.size+1,1,none⟩=some (.slice B ys.length d))∧W.cell? ⟨w.heap.size+1+1,0,none⟩=some (.bool b9)∧W.cell? ⟨w.heap.size+1+1,1,none⟩=some (.slice D m9 k9)):=fun W hW=>⟨cells_of ⟨N2.below' hW (by omega),N3.below' hW (by omega)⟩,(N4.below' hW (by omega)).cell 0,(N4.below' hW (by omega)).cell 1⟩
    clear hzl hq6 hB6 M2 M3 M4 M5 hsz6 h1 h2
    go_wp2_with fail
    go_region_held3 (fun W=>((W.cell? ⟨w.heap.size,0,none⟩=some (.bool n1)∧W.cell? ⟨w.heap.size,1,none⟩=some (.slice A xs.length c))∧W.cell? ⟨w.heap.size+1,0,none⟩=some (.bool n2)∧W.cell? ⟨w.heap.size+1,1,none⟩=some (.slice B ys.length d))∧W.cell? ⟨w.heap.size+1+1,0,none⟩=some (.bool b9)∧W.cell? ⟨w.heap.size+1+1,1,none⟩=some (.slice D m9 k9))
     (first | exact ⟨cells_of ⟨R5.2 (R4.2 (N2.below k2) (by omega)) (by omega),R5.2 (R4.2 (N3.below k2) (by omega)) (by omega)⟩,(R5.2 R4.1 (by omega)).cell 0,(R5.2 R4.1 (by omega)).cell 1⟩ | exact ⟨cells_of ⟨R4.2 (N2.below k2) (by omega),R4.2 (N3.below k2) (by omega)⟩,R4.1.cell 0,R4.1.cell 1⟩ | exact KS.out _ (k2.mono (by omega)) | exact KS.out _ (k1.mono (by omega)) | exact KS.out _ (Below.refl _ _).drew)
     (first
      | (go_at_call 350; refine (mul_any _ (fun _=>False) _ _ _ _ _ _ ((hq9.weak (fun _ _ h=>h.elim)).below (Below.refl _ _).drew) ((hy9.weak (fun _ _ h=>h.elim)).below (Below.refl _ _).drew) (by have:=HZL.out; omega) (by omega)).mono ?_; rintro e u1 ⟨v7,rfl,h7,hb7⟩; rw [sv_dig] at h7; have k1:=below_undrew hb7; obtain ⟨b7,A7,m7,c7,rfl,h7⟩:=h7.op)
      | (go_at_call 558; refine (sub_any _ (fun _=>False) _ _ _ _ _ _ ((hx9.weak (fun _ _ h=>h.elim)).below k1) (h7.weak (fun _ _ h=>h.elim)) (by omega) (by have:=HPL.out; omega)).mono ?_; rintro e u2 ⟨v8,rfl,h8,hb8⟩; rw [sv_dig] at h8; have k2:=k1.trans (hb8.mono k1.size); obtain ⟨b8,A8,m8,c8,rfl,h8⟩:=h8.op; have c4:=(N4.below k2).cell; have f4:=(N4.below k2).frz; have c5:=(N5.below k2).cell; have f5:=(N5.below k2).frz; have R4:=fill_box (u:= .bool b9) (v:= .slice D m9 k9) (N4.below k2); have R5:=fill_box (u:= .bool b8) (v:= .slice A8 m8 c8) (R4.2 (N5.below k2) (by omega))))
    all_goals
     have hu1:=k1.size
     have hkp:Keep (fun b=>b<w.heap.size+1+1+1+1) u2 ((((u2.setCell ⟨w.heap.size+1+1,0,none⟩ (.bool b9)).setCell ⟨w.heap.size+1+1,1,none⟩ (.slice D m9 k9)).setCell ⟨w.heap.size+1+1+1,0,none⟩ (.bool b8)).setCell ⟨w.heap.size+1+1+1,1,none⟩ (.slice A8 m8 c8)):=
      ((((Keep.refl _ _).set (p:=⟨w.heap.size+1+1,0,none⟩) (.inl (by show w.heap.size+1+1<w.heap.size+1+1+1+1; omega)) _).set (p:=⟨w.heap.size+1+1,1,none⟩) (.inl (by show w.heap.size+1+1<w.heap.size+1+1+1+1; omega)) _).set (p:=⟨w.heap.size+1+1+1,0,none⟩) (.inl (by show w.heap.size+1+1+1<w.heap.size+1+1+1+1; omega)) _).set (p:=⟨w.heap.size+1+1+1,1,none⟩) (.inl (by show w.heap.size+1+1+1<w.heap.size+1+1+1+1; omega)) _
     have hB8:=((((hB9.trans (k2.mono (by omega))).setCell (p:=⟨w.heap.size+1+1,0,none⟩) (by show w.heap.size≤w.heap.size+1+1; omega) (.bool b9)).setCell (p:=⟨w.heap.size+1+1,1,none⟩) (by show w.heap.size≤w.heap.size+1+1; omega) (.slice D m9 k9)).setCell (p:=⟨w.heap.size+1+1+1,0,none⟩) (by show w.heap.size≤w.heap.size+1+1+1; omega) (.bool b8)).setCell (p:=⟨w.heap.size+1+1+1,1,none⟩) (by show w.heap.size≤w.heap.size+1+1+1; omega) (.slice A8 m8 c8)
     have hf1:=((hq9.below k2).keep hkp).weak (Y:=Old w) (fun b _ h=>by have h:b<w.heap.size:=h; omega)
     have hf2:=((h8.weak (Y:=fun b=>b<w.heap.size+1+1+1+1) (fun b h1 h2=>by show b<_; omega)).keep hkp).weak (Y:=Old w) (fun b _ h=>by have h:b<w.heap.size:=h; omega)
     have cc:=R5.1.cell
     have cd:=(R5.2 R4.1 (by omega)).cell
     clear KS hkp c4 f4 c5 f5 R4 R5
     go_wp2_with fail
     refine bodyPost_ret (by simp [results,Tryz.results527,go_sem,cc,cd] <;> rfl) rfl ⟨_,_,rfl,hf1,hf2,hB8⟩
end Go.Proofs.YtbdcjhoedhhabaaGreat

/- Fractions: the plain law of New: what it makes is Lean's own canonical quotient. -/
namespace Go.Proofs.YtbdcjhoedhhabaaGreat
open Go.RowKit

theorem qF_exact (x:Int) (G:Nat) (hG:0<G) (h:x.natAbs % G=0):qF x (G:Int)=x / (G:Int):=by
 have hd:=Nat.div_add_mod x.natAbs G
 rw [h,Nat.add_zero] at hd
 have hk:((x.natAbs / G:Nat):Int)*(G:Int)=(x.natAbs:Int):=by
  rw [Int.mul_comm]; rw [←Int.natCast_mul,hd]
 have hq:qF x (G:Int)*(G:Int)=x:=by
  unfold qF
  rw [Int.natAbs_natCast,h,if_pos rfl,Int.sign_eq_one_of_pos (by omega:(0:Int)<(G:Int)),Int.mul_one]
  rcases sign_cases x with ⟨h1,h2⟩ | ⟨h1,h2⟩ | ⟨h1,h2⟩
  ·rw [h2,if_pos (by decide),Int.neg_mul,hk]; omega
  ·rw [h2,if_neg (by decide),hk]; omega
  ·rw [h2,if_neg (by decide),hk]; omega
 have h2:=Int.mul_ediv_cancel (qF x (G:Int)) (show (G:Int) ≠ 0 by omega)
 rw [hq] at h2
 exact h2.symm

/-- New's two fields, at a denominator and a numerator that are not 0. -/
theorem new_fields (n d:Int) (hd:d ≠ 0) (hn:n ≠ 0) :
 qF (if d<0 then -n else n) ((Nat.gcd n.natAbs d.natAbs:Nat):Int)=(Rat.divInt n d).num∧qF (if d<0 then -d else d) ((Nat.gcd n.natAbs d.natAbs:Nat):Int)=((Rat.divInt n d).den:Int):=by
 have hg:0<Nat.gcd n.natAbs d.natAbs:=Nat.gcd_pos_of_pos_left _ (by omega)
 have h1:(if d<0 then -n else n).natAbs=n.natAbs:=by split <;> omega
 have h2:(if d<0 then -d else d).natAbs=d.natAbs:=by split <;> omega
 rw [qF_exact _ _ hg (by rw [h1]; exact Nat.mod_eq_zero_of_dvd (Nat.gcd_dvd_left _ _)),qF_exact _ _ hg (by rw [h2]; exact Nat.mod_eq_zero_of_dvd (Nat.gcd_dvd_right _ _)),Rat.num_divInt,Rat.den_divInt,if_neg hd]
 have hgc:Int.gcd d n=Nat.gcd n.natAbs d.natAbs:=by rw [Int.gcd_comm]; rfl
 rw [hgc]
 constructor
 ·split
  ·rename_i h; rw [Int.sign_eq_neg_one_of_neg h,Int.neg_mul,Int.one_mul]
  ·rw [Int.sign_eq_one_of_pos (by omega),Int.one_mul]
 ·rw [Int.natCast_ediv]
  congr 1
  split <;> omega

theorem rat_den0 (x:Rat):((x.den:Nat):Int) ≠ 0:=by have:=x.den_nz; omega
theorem rat_add (x y:Rat):Rat.divInt (x.num*y.den+y.num*x.den) (x.den*y.den)=x+y:=by
 rw [←Rat.divInt_add_divInt _ _ (rat_den0 x) (rat_den0 y),Rat.num_divInt_den,Rat.num_divInt_den]
theorem rat_mul (x y:Rat):Rat.divInt (x.num*y.num) (x.den*y.den)=x*y:=by
 rw [←Rat.divInt_mul_divInt,Rat.num_divInt_den,Rat.num_divInt_den]
theorem rat_div (x y:Rat):Rat.divInt (x.num*y.den) (x.den*y.num)=x / y:=by
 rw [Rat.div_def,← Rat.divInt_mul_divInt,Rat.num_divInt_den]
 congr 1
 have h:=Rat.inv_divInt y.num (y.den:Int)
 rw [Rat.num_divInt_den] at h
 exact h.symm
theorem rat_neg (x:Rat):(-x).num = -x.num∧(-x).den=x.den:=⟨Rat.neg_num x,Rat.neg_den x⟩
theorem rat_sub (x y:Rat):Rat.divInt (x.num*y.den - y.num*x.den) (x.den*y.den)=x - y:=by
 rw [Rat.sub_eq_add_neg,← rat_add x (-y),(rat_neg y).1,(rat_neg y).2,Int.neg_mul,Int.sub_eq_add_neg]
theorem divInt_sign (n d:Int) (hd:0<d):(Rat.divInt n d).num.sign=n.sign:=by
 rw [Rat.num_divInt,Int.sign_eq_one_of_pos hd,Int.one_mul]
 have hg:0<Int.gcd d n:=Int.gcd_pos_of_ne_zero_left _ (by omega)
 obtain ⟨k,hk⟩:=Int.gcd_dvd_right (a:=d) (b:=n)
 have e:n / ((Int.gcd d n:Nat):Int)=k:=by
  conv=>lhs; arg 1; rw [hk]
  exact Int.mul_ediv_cancel_left _ (by omega)
 rw [e]
 conv=>rhs; rw [hk]
 rw [Int.sign_mul,Int.sign_eq_one_of_pos (show (0:Int)<((Int.gcd d n:Nat):Int) by omega),Int.one_mul]
theorem rat_cmp (x y:Rat):(x.num*y.den - y.num*x.den).sign=(x - y).num.sign:=by
 rw [←rat_sub,divInt_sign]
 exact Int.mul_pos (by have:=x.den_nz; omega) (by have:=y.den_nz; omega)

/-- The sign that Compare answers. -/
def rcmp (x y:Rat):Int:=(x - y).num.sign
theorem rcmp_le (x y:Rat):rcmp x y≤0↔x≤y:=by
 have h : -(x - y)=y - x:=Rat.neg_sub x y
 have h2:(y - x).num = -(x - y).num:=by rw [←h,Rat.neg_num]
 rw [Rat.le_iff_sub_nonneg,← Rat.num_nonneg,h2]
 unfold rcmp
 rcases sign_cases (x - y).num with ⟨a,e⟩ | ⟨a,e⟩ | ⟨a,e⟩ <;> omega
theorem rcmp_neg (x y:Rat):rcmp y x = -rcmp x y:=by
 unfold rcmp
 rw [←Rat.neg_sub x y,Rat.neg_num,Int.sign_neg]
theorem rcmp_zero (x y:Rat):rcmp x y=0↔x=y:=by
 constructor
 ·intro h
  exact Rat.le_antisymm ((rcmp_le x y).1 (by omega)) ((rcmp_le y x).1 (by rw [rcmp_neg]; omega))
 ·rintro rfl
  unfold rcmp
  rw [Rat.sub_self]; rfl
end Go.Proofs.YtbdcjhoedhhabaaGreat

/- divWords of the reference: quotient and remainder, a word at a time, each by halving. -/
namespace Go.Proofs.YtbdcjhoedhhabaaGreat
open Go.RowKit
attribute [local go_sem ↓] Go.wp_at_zero Go.wp_at_succ

/- Gcd, the program's and the reference's. -/

/-- The number that a slice of words reads as. -/
def rd (w:World):Value→Nat
 | .slice (some a) n _=>val ((List.range n).map fun i=>match w.cell? (a.add i) with | some (.int _ x)=>x.toNat | _=>0)
 | _=>0
theorem Words.rd {w:World} {X:Nat→Prop} {v:Value} {xs:List Nat} (h:Words w X v xs):rd w v=val xs:=by
 obtain ⟨A,c,rfl,_,_,H⟩:=h.open_
 rcases A with _ | a
 ·have h0:xs = []:=by
   rcases xs with _ | ⟨y,ys⟩
   ·rfl
   ·obtain ⟨_,e,_⟩:=H.at_ (k:=0) (by simp)
    cases e
  subst h0
  rfl
 ·show val _=_
  congr 1
  apply List.ext_getElem
  ·simp
  ·intro i h1 h2
   obtain ⟨a',e,_,_,hc⟩:=H.at_ (k:=i) h2
   injection e with e
   subst e
   simp [hc]
theorem gcd_step (a b:Nat):Nat.gcd b (a % b)=Nat.gcd a b:=by
 rw [Nat.gcd_comm b,← Nat.gcd_rec,Nat.gcd_comm]

set_option maxHeartbeats 2000000 in
theorem gcd_any (w:World) (X:Nat→Prop) (v1 v2:Value) (n1 n2:Bool) (xs ys:List Nat) (h1:IntR w X v1 n1 xs) (h2:IntR w X v2 n2 ys) (hs1:xs.length≤100000000000) (hs2:ys.length≤100000000000) :
 Calls Tryz.prog 491 #[v1,v2] w fun e w'=>∃ v',e = .returned v'∧IntV w' (Old w) v' ((Nat.gcd (val xs) (val ys):Nat):Int)∧Below w.heap.size w w':=by
 obtain ⟨A,c,rfl,_,_,H1⟩:=h1.open_
 obtain ⟨B,d,rfl,_,_,H2⟩:=h2.open_
 have l1:=trimL_len xs
 have l2:=trimL_len ys
 have c1:=can_trimL H1.2
 have c2:=can_trimL H2.2
 have HV1:=Lib.hid (val_trimL xs)
 have HV2:=Lib.hid (val_trimL ys)
 generalize hG:Nat.gcd (val xs) (val ys)=G
 have HG:=Lib.hid hG
 clear hG
 go_enter Tryz.func491,Tryz.ntmps491
 go_wp2_with fail
 have KS:=boxes3 w #[.bool n1, .slice A xs.length c] #[.bool n2, .slice B ys.length d] #[.bool false, .slice none 0 0] 211 211 211
 have K1:=(H1.weak (Y:=fun _=>False) (fun _ _ h=>h.elim)).below (below3 w (.cells #[.bool n1, .slice A xs.length c] 211) (.cells #[.bool n2, .slice B ys.length d] 211) (.cells #[.bool false, .slice none 0 0] 211))
 have K2:=(H2.weak (Y:=fun _=>False) (fun _ _ h=>h.elim)).below (below3 w (.cells #[.bool n1, .slice A xs.length c] 211) (.cells #[.bool n2, .slice B ys.length d] 211) (.cells #[.bool false, .slice none 0 0] 211))
 obtain ⟨-, -,Lr,hB0,hsz0⟩:=locs3 (c1:=#[.bool n1, .slice A xs.length c]) (c2:=#[.bool n2, .slice B ys.length d]) (c3:=#[.bool false, .slice none 0 0]) (t1:=211) (t2:=211) (t3:=211) (Below.refl _ (((w.alloc _).alloc _).alloc _))
 generalize (((w.alloc (.cells #[.bool n1, .slice A xs.length c] 211)).alloc (.cells #[.bool n2, .slice B ys.length d] 211)).alloc (.cells #[.bool false, .slice none 0 0] 211))=w1 at *
 clear H1 H2 h1 h2
 go_region_held3 (fun w'=>(w'.cell? ⟨w.heap.size,0,none⟩=some (.bool n1)∧w'.cell? ⟨w.heap.size,1,none⟩=some (.slice A xs.length c))∧w'.cell? ⟨w.heap.size+1,0,none⟩=some (.bool n2)∧w'.cell? ⟨w.heap.size+1,1,none⟩=some (.slice B ys.length d))
  (first | exact cells_of (KS.out _ (Below.refl _ _).drew) | go_keep)
  (first
   | (go_at_call_of 426 (Value.slice A xs.length c); refine (trim_any _ (fun _=>False) (.slice A xs.length c) xs (K1.below (Below.refl _ _).drew)).mono ?_; rintro e wa ⟨va,rfl,ha,rfl⟩)
   | (go_at_call_of 426 (Value.slice B ys.length d); refine (trim_any _ (fun _=>False) (.slice B ys.length d) ys (K2.below (Below.refl _ _).drew)).mono ?_; rintro e wb ⟨vb,rfl,hb,rfl⟩))
 all_goals
  clear KS
  go_wp2_with fail
  go_loopw [5,6] (fun x y wr=>∃ (es bs:List Nat),Words wr (fun _=>False) x es∧Words wr (fun _=>False) y bs∧Can es∧Can bs∧Nat.gcd (val es) (val bs)=G∧es.length≤xs.length+ys.length∧bs.length≤xs.length+ys.length∧Loc wr (w.heap.size+1+1) 211 #[.bool false, .slice none 0 0]∧Below w.heap.size w wr) (fun _ y wr=>rd wr y)
  case atStart=>exact ⟨_,_,ha.drew,hb.drew,c1,c2,by rw [HV1.out,HV2.out,HG.out],by omega,by omega,Lr.drew,hB0.drew⟩
  case round=>
   obtain ⟨es,bs,hx,hy,hcx,hcy,hg,hl1,hl2,hL,hbr⟩:=hrel
   have HGG:=Lib.hid hg
   have HRD:=Lib.hid hy.rd
   clear hg
   by_cases hb0:bs.length=0
   ·obtain rfl:=List.length_eq_zero_iff.1 hb0
    obtain ⟨A2,m2,rfl,_,_,H2⟩:=hy.open_
    rw [List.length_nil] at *
    clear hb0
    go_wp2_with fail
    refine (signed_any _ (fun _=>False) false _ es hx (by omega)).mono ?_
    rintro e w5 ⟨v5,rfl,h5,hb5⟩
    have hgv:=HGG.out
    rw [show val [] = 0 from rfl,Nat.gcd_zero_right] at hgv
    rw [sv_false,hgv] at h5
    obtain ⟨bs5,As5,n5,cs5,rfl,h5⟩:=h5.op
    have L5:=hL.below hb5
    have cc:=L5.cell
    have cf:=L5.frz
    have hsz5:=hbr.size
    have hB5:=hbr.trans (hb5.mono hbr.size)
    have hlL:=hL.lt
    go_wp2_with fail
    refine bodyPost_ret (by simp [results,Tryz.results491,go_sem,cc,cf] <;> rfl) rfl ⟨_,rfl,IntV.stored (g:=w.heap.size+1+1) (Y:=Old w) h5 (by simp only [Old]; omega) _ _ (by intro b _ hb; simp only [Old] at hb ⊢; omega),below_set2 hB5 (by omega) _ _⟩
   ·obtain ⟨A2,m2,rfl,_,_,H2⟩:=hy.open_
    have hb1:0<bs.length:=by omega
    have hbp:0<val bs:=hcy.pos (by intro e; subst e; simp at hb0)
    have HBP:=Lib.hid hbp
    clear hbp
    go_wp2_with fail
    refine (over_any _ (fun _=>False) (fun _ h=>h.elim) _ _ es bs hx hy hcx hcy hb1 (by omega) (by omega)).mono ?_
    rintro e w5 ⟨q5,r5,qs,rs,rfl,hq5,hr5,hqv,hrv,hql,hrl,hb5⟩
    have HRV:=Lib.hid hrv
    clear hqv hrv
    go_wp2_with fail
    refine (trim_any _ _ _ rs hr5).mono ?_
    rintro e w6 ⟨v6,rfl,h6,rfl⟩
    have hl6:=trimL_len rs
    have hc6:=can_trimL hr5.2
    have HV6:=Lib.hid (val_trimL rs)
    have HRD6:=Lib.hid h6.rd
    go_wp2_with fail
    go_roundw
    case rel=>exact ⟨bs,trimL rs,hy.below hb5,h6,hcy,hc6,by rw [HV6.out,HRV.out,gcd_step]; exact HGG.out,by omega,by omega,hL.below hb5,hbr.trans (hb5.mono hbr.size)⟩
    case measure=>
     rw [HRD6.out,HRD.out,HV6.out,HRV.out]
     exact Nat.mod_lt _ HBP.out
end Go.Proofs.YtbdcjhoedhhabaaGreat

