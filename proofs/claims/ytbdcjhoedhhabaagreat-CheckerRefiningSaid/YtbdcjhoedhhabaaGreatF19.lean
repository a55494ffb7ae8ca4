/- Contracts of the functions that the statements reach, part 19. -/
import Derived.Test.YtbdcjhoedhhabaaGreatRows
import Derived.Laws.BitsAllLaws
import Derived.Deep.QuietTactic
import Derived.BigQuiet
import Derived.Lib.EndianBits
import Derived.Test.YtbdcjhoedhhabaaGreatF3
import Derived.Test.YtbdcjhoedhhabaaGreatF18
set_option linter.unusedSimpArgs false
set_option linter.unusedVariables false

/- Facts carried from the world of their birth to the world at hand: the way between the two is found by itself. -/
namespace Go.Proofs.YtbdcjhoedhhabaaGreat
open Go.RowKit

theorem size_set (w:World) (p:Addr) (u:Value):(w.setCell p u).heap.size=w.heap.size:=by simp [World.setCell]
theorem size_drew (w:World):w.drew.heap.size=w.heap.size:=rfl
theorem size_drewN (w:World) (n:Nat):(w.drewN n).heap.size=w.heap.size:=rfl
/-- The four sizes in one. -/
abbrev zs:=And.intro @World.size_alloc (And.intro @size_set (And.intro @size_drew @size_drewN))

/-- Block g holds in w' what it held in w. -/
def Stay (g:Nat) (w w':World):Prop:=g<w.heap.size→(w'.heap[g]? = w.heap[g]?∧g<w'.heap.size)
section
variable {X:Nat→Prop} {g B:Nat} {w w' E:World} {p:Addr} {u:Value} {t:TypeId} {cs:Array Value}
theorem Stay.refl:Stay g w w:=fun h=>⟨rfl,h⟩
theorem Stay.drew (h:Stay g w E):Stay g w E.drew:=h
theorem Stay.drewN {n:Nat} (h:Stay g w E):Stay g w (E.drewN n):=h
theorem Stay.below (h:Stay g w E) (k:Below E.heap.size E w'):Stay g w w':=fun hg=>⟨(k.block g (h hg).2).trans (h hg).1,Nat.lt_of_lt_of_le (h hg).2 k.size⟩
theorem Stay.alloc {o:Obj} (h:Stay g w E):Stay g w (E.alloc o):=h.below (below1 _ _)
theorem Stay.far (h:Stay g w E) (hp:g ≠ p.block):Stay g w (E.setCell p u):=fun hg=>⟨(Below.heap_setCell _ _ _ _ hp).trans (h hg).1,by rw [size_set]; exact (h hg).2⟩
theorem Stay.grown {row:Option Nat} (h:Stay g w E) (k:E.grownBy w' row) (hr:row ≠ some g):Stay g w w':=fun hg=>⟨(k.block g (h hg).2 (fun e=>hr e.symm)).trans (h hg).1,Nat.lt_of_lt_of_le (h hg).2 k.size⟩

theorem Keep.on (k:Keep X w E) (h:Below E.heap.size E w'):Keep X w w':=k.below h
theorem Keep.drewN {n:Nat} (k:Keep X w E):Keep X w (E.drewN n):=⟨k.size,k.block,k.env⟩
theorem Below.on (k:Below B w E) (h:Below E.heap.size E w') (hB:B≤E.heap.size):Below B w w':=k.trans (h.mono hB)
theorem Below.drewN (k:Below B w E) {n:Nat}:Below B w (E.drewN n):=below_drewN k n

/-- The carrying of a block that is known whole. -/
theorem Loc.to (h:Loc w g t cs)
 (k:Stay g w w':=by
  repeat (first
   | (with_reducible exact Stay.refl) | (with_reducible refine Stay.drew ?_) | (with_reducible refine Stay.alloc ?_) | (with_reducible refine Stay.drewN ?_)
   | (with_reducible refine Stay.far ?_ ?_; rotate_left; (first | (simp only [Old,World.size_alloc,size_set,size_drew,size_drewN,ne_eq]; omega) | omega))
   | (with_reducible refine Stay.below ?_ (by assumption)))
  fail_if_success exfalso):Loc w' g t cs:=(k h.lt).1.trans h
theorem Loc.cells (h:Loc w g t cs)
 (k:Stay g w w':=by
  repeat (first
   | (with_reducible exact Stay.refl) | (with_reducible refine Stay.drew ?_) | (with_reducible refine Stay.alloc ?_) | (with_reducible refine Stay.drewN ?_)
   | (with_reducible refine Stay.far ?_ ?_; rotate_left; (first | (simp only [Old,World.size_alloc,size_set,size_drew,size_drewN,ne_eq]; omega) | omega))
   | (with_reducible refine Stay.below ?_ (by assumption)))
  fail_if_success exfalso):∀ i,w'.cell? ⟨g,i,none⟩=cs[i]?:=Loc.cell (h.to k)
theorem Loc.c (i:Nat) (h:Loc w g t cs)
 (k:Stay g w w':=by
  repeat (first
   | (with_reducible exact Stay.refl) | (with_reducible refine Stay.drew ?_) | (with_reducible refine Stay.alloc ?_) | (with_reducible refine Stay.drewN ?_)
   | (with_reducible refine Stay.far ?_ ?_; rotate_left; (first | (simp only [Old,World.size_alloc,size_set,size_drew,size_drewN,ne_eq]; omega) | omega))
   | (with_reducible refine Stay.below ?_ (by assumption)))
  fail_if_success exfalso):w'.cell? ⟨g,i,none⟩=cs[i]?:=Loc.cell (h.to k) i
/-- What the walk asks of a block: its cells, that none is frozen, that it lies in the heap. -/
theorem Loc.all (h:Loc w g t cs)
 (k:Stay g w w':=by
  repeat (first
   | (with_reducible exact Stay.refl) | (with_reducible refine Stay.drew ?_) | (with_reducible refine Stay.alloc ?_) | (with_reducible refine Stay.drewN ?_)
   | (with_reducible refine Stay.far ?_ ?_; rotate_left; (first | (simp only [Old,World.size_alloc,size_set,size_drew,size_drewN,ne_eq]; omega) | omega))
   | (with_reducible refine Stay.below ?_ (by assumption)))
  fail_if_success exfalso):(∀ i,w'.cell? ⟨g,i,none⟩=cs[i]?)∧(∀ i,w'.frozen? ⟨g,i,none⟩=false)∧g<w'.heap.size:=⟨Loc.cell (h.to k),Loc.frz (h.to k),Loc.lt (h.to k)⟩

variable {neg:Bool} {xs:List Nat} {v:Value} {z:Int} {Y:Nat→Prop}
theorem IntR.to (h:IntR w X v neg xs)
 (k:Keep X w w':=by
  repeat (first
   | (with_reducible exact Keep.refl _ _) | (with_reducible refine Keep.drew ?_) | (with_reducible refine Keep.alloc ?_ _) | (with_reducible refine Keep.drewN ?_)
   | (with_reducible refine Keep.set ?_ ?_ _; rotate_left; (first | (right; simp only [World.size_alloc,size_set,size_drew,size_drewN]; omega) | (right; omega) | (left; simp only [Old,World.size_alloc,size_set,size_drew,size_drewN]; omega) | (left; dsimp only; omega)))
   | (with_reducible refine Keep.on ?_ (by assumption)))
  fail_if_success exfalso):IntR w' (fun _=>False) v neg xs:=(h.keep k).weak (fun _ _ h=>h.elim)
theorem IntV.to (h:IntV w X v z)
 (k:Keep X w w':=by
  repeat (first
   | (with_reducible exact Keep.refl _ _) | (with_reducible refine Keep.drew ?_) | (with_reducible refine Keep.alloc ?_ _) | (with_reducible refine Keep.drewN ?_)
   | (with_reducible refine Keep.set ?_ ?_ _; rotate_left; (first | (right; simp only [World.size_alloc,size_set,size_drew,size_drewN]; omega) | (right; omega) | (left; simp only [Old,World.size_alloc,size_set,size_drew,size_drewN]; omega) | (left; dsimp only; omega)))
   | (with_reducible refine Keep.on ?_ (by assumption)))
  fail_if_success exfalso):IntV w' (fun _=>False) v z:=(h.keep k).weak (fun _ _ h=>h.elim)
/-- The same, the blocks that are kept out told anew. -/
theorem IntV.out (h:IntV w X v z)
 (k:Keep (fun b=>X b∨Y b) w w':=by
  repeat (first
   | (with_reducible exact Keep.refl _ _) | (with_reducible refine Keep.drew ?_) | (with_reducible refine Keep.alloc ?_ _) | (with_reducible refine Keep.drewN ?_)
   | (with_reducible refine Keep.set ?_ ?_ _; rotate_left; (first | (right; simp only [World.size_alloc,size_set,size_drew,size_drewN]; omega) | (right; omega) | (left; simp only [Old,World.size_alloc,size_set,size_drew,size_drewN]; omega) | (left; dsimp only; omega) | (left; left; simp only [Old,World.size_alloc,size_set,size_drew,size_drewN]; omega) | (left; right; simp only [Old,World.size_alloc,size_set,size_drew,size_drewN]; omega) | (left; right; dsimp only; omega)))
   | (with_reducible refine Keep.on ?_ (by assumption)))
  fail_if_success exfalso)
 (hY:∀ b,b<w.heap.size→Y b→X b:=by intro b hw hb; (try simp only [Old,World.size_alloc,size_set,size_drew,size_drewN] at hw hb ⊢); first | omega | (exfalso; omega)):IntV w' Y v z:=((h.weak (Y:=fun b=>X b∨Y b) (fun b hb hxy=>hxy.elim id (hY b hb))).keep k).weak (fun b _ h=>Or.inr h)

theorem IntR.out (h:IntR w X v neg xs)
 (k:Keep (fun b=>X b∨Y b) w w':=by
  repeat (first
   | (with_reducible exact Keep.refl _ _) | (with_reducible refine Keep.drew ?_) | (with_reducible refine Keep.alloc ?_ _) | (with_reducible refine Keep.drewN ?_)
   | (with_reducible refine Keep.set ?_ ?_ _; rotate_left; (first | (right; simp only [World.size_alloc,size_set,size_drew,size_drewN]; omega) | (right; omega) | (left; simp only [Old,World.size_alloc,size_set,size_drew,size_drewN]; omega) | (left; dsimp only; omega) | (left; left; simp only [Old,World.size_alloc,size_set,size_drew,size_drewN]; omega) | (left; right; simp only [Old,World.size_alloc,size_set,size_drew,size_drewN]; omega) | (left; right; dsimp only; omega)))
   | (with_reducible refine Keep.on ?_ (by assumption)))
  fail_if_success exfalso)
 (hY:∀ b,b<w.heap.size→Y b→X b:=by intro b hw hb; (try simp only [Old,World.size_alloc,size_set,size_drew,size_drewN] at hw hb ⊢); first | omega | (exfalso; omega)):IntR w' Y v neg xs:=((h.weak (Y:=fun b=>X b∨Y b) (fun b hb hxy=>hxy.elim id (hY b hb))).keep k).weak (fun b _ h=>Or.inr h)

theorem IntR.ws (h:IntR w X v neg xs):Ws xs:=let ⟨_,_,h⟩:=h; h.2
/-- The shape, its parts letters, and the fact again. -/
theorem IntR.op (h:IntR w X v neg xs):∃ A c,v = .agg #[.bool neg, .slice A xs.length c]∧IntR w X (.agg #[.bool neg, .slice A xs.length c]) neg xs:=by
 have h0:=h
 obtain ⟨A,c,rfl,_⟩:=h.open_
 exact ⟨A,c,rfl,h0⟩
/-- Nothing below the call's first block has turned. -/
theorem bel (k:Below B w w':=by
 repeat (first
  | (with_reducible exact Below.refl _ _) | (with_reducible refine Below.drew ?_) | (with_reducible refine Below.drewN ?_)
  | (with_reducible refine Below.alloc ?_ ?_ _; rotate_left; (first | (simp only [World.size_alloc,size_set,size_drew,size_drewN]; omega) | omega))
  | (with_reducible refine Below.setCell ?_ ?_ _; rotate_left; (first | (simp only [World.size_alloc,size_set,size_drew,size_drewN]; omega) | omega))
  | (with_reducible refine Below.on ?_ (by assumption) ?_; rotate_left; (first | (simp only [World.size_alloc,size_set,size_drew,size_drewN]; omega) | omega)))
 fail_if_success exfalso):Below B w w':=k

/-- A new block, by its number. -/
theorem Loc.made (w:World) (cs:Array Value) (t:TypeId) {n:Nat} (h:n=w.heap.size:=by first | rfl | (simp only [World.size_alloc,size_set,size_drew,size_drewN]; omega)):Loc (w.alloc (.cells cs t)) n t cs:=by subst h; exact Loc.new w cs t
theorem made1 (w:World) (cs:Array Value) (t:TypeId):Loc (w.alloc (.cells cs t)) w.heap.size t cs:=Loc.new _ _ _
theorem made2 (w:World) (o1:Obj) (cs:Array Value) (t:TypeId):Loc ((w.alloc o1).alloc (.cells cs t)) (w.heap.size+1) t cs:=by simpa only [World.size_alloc] using Loc.new (w.alloc o1) cs t
theorem made3 (w:World) (o1 o2:Obj) (cs:Array Value) (t:TypeId):Loc (((w.alloc o1).alloc o2).alloc (.cells cs t)) (w.heap.size+1+1) t cs:=by simpa only [World.size_alloc] using Loc.new ((w.alloc o1).alloc o2) cs t
theorem sz1 {B:Nat} {w w':World} {o1:Obj} (h:Below B (w.alloc o1) w'):w.heap.size<w'.heap.size:=by have:=h.size; simp only [World.size_alloc] at this; omega
theorem sz2 {B:Nat} {w w':World} {o1 o2:Obj} (h:Below B ((w.alloc o1).alloc o2) w'):w.heap.size<w'.heap.size∧w.heap.size+1<w'.heap.size:=by have:=h.size; simp only [World.size_alloc] at this; omega
theorem sz3 {B:Nat} {w w':World} {o1 o2 o3:Obj} (h:Below B (((w.alloc o1).alloc o2).alloc o3) w'):w.heap.size<w'.heap.size∧w.heap.size+1<w'.heap.size∧w.heap.size+1+1<w'.heap.size:=by have:=h.size; simp only [World.size_alloc] at this; omega
theorem Loc.fill2 {a b u v:Value} (L:Loc w g t #[a,b]):Loc ((w.setCell ⟨g,0,none⟩ u).setCell ⟨g,1,none⟩ v) g t #[u,v]:=by
 have:=(L.set 0 u).set 1 v
 simpa using this
theorem Loc.fill4 {a b c d u v x y:Value} (L:Loc w g t #[a,b,c,d]):Loc ((((w.setCell ⟨g,0,none⟩ u).setCell ⟨g,1,none⟩ v).setCell ⟨g,2,none⟩ x).setCell ⟨g,3,none⟩ y) g t #[u,v,x,y]:=by
 have:=(((L.set 0 u).set 1 v).set 2 x).set 3 y
 simpa using this
/-- Two stores of two cells each, in either order. -/
theorem Loc.two_first {g':Nat} {a b x y x' y':Value} (h:g ≠ g') (L:Loc w g t #[a,b]):Loc ((((w.setCell ⟨g,0,none⟩ x).setCell ⟨g,1,none⟩ y).setCell ⟨g',0,none⟩ x').setCell ⟨g',1,none⟩ y') g t #[x,y]:=((Loc.fill2 L).far (p:=⟨g',0,none⟩) h _).far (p:=⟨g',1,none⟩) h _
theorem Loc.two_last {g':Nat} {a b x y x' y':Value} (h:g ≠ g') (L:Loc w g t #[a,b]):Loc ((((w.setCell ⟨g',0,none⟩ x').setCell ⟨g',1,none⟩ y').setCell ⟨g,0,none⟩ x).setCell ⟨g,1,none⟩ y) g t #[x,y]:=Loc.fill2 ((L.far (p:=⟨g',0,none⟩) h _).far (p:=⟨g',1,none⟩) h _)
/-- Two stores of four cells each, in either order. -/
theorem Loc.two4_first {g':Nat} {a b c d x1 x2 x3 x4 y1 y2 y3 y4:Value} (h:g ≠ g') (L:Loc w g t #[a,b,c,d]):Loc ((((((((w.setCell ⟨g,0,none⟩ x1).setCell ⟨g,1,none⟩ x2).setCell ⟨g,2,none⟩ x3).setCell ⟨g,3,none⟩ x4).setCell ⟨g',0,none⟩ y1).setCell ⟨g',1,none⟩ y2).setCell ⟨g',2,none⟩ y3).setCell ⟨g',3,none⟩ y4) g t #[x1,x2,x3,x4]:=
 ((((Loc.fill4 L).far (p:=⟨g',0,none⟩) h _).far (p:=⟨g',1,none⟩) h _).far (p:=⟨g',2,none⟩) h _).far (p:=⟨g',3,none⟩) h _
theorem Loc.two4_last {g':Nat} {a b c d x1 x2 x3 x4 y1 y2 y3 y4:Value} (h:g ≠ g') (L:Loc w g t #[a,b,c,d]):Loc ((((((((w.setCell ⟨g',0,none⟩ y1).setCell ⟨g',1,none⟩ y2).setCell ⟨g',2,none⟩ y3).setCell ⟨g',3,none⟩ y4).setCell ⟨g,0,none⟩ x1).setCell ⟨g,1,none⟩ x2).setCell ⟨g,2,none⟩ x3).setCell ⟨g,3,none⟩ x4) g t #[x1,x2,x3,x4]:=
 Loc.fill4 ((((L.far (p:=⟨g',0,none⟩) h _).far (p:=⟨g',1,none⟩) h _).far (p:=⟨g',2,none⟩) h _).far (p:=⟨g',3,none⟩) h _)
end

/- math/bits: Sub32, Add32, Div32. -/

/-- The borrow of x - y - b. -/
def bor (x y b:Nat):Nat:=if x<y+b then 1 else 0
theorem bor_le (x y b:Nat):bor x y b≤1:=by unfold bor; split <;> omega
/-- The word of x - y - b. -/
def dif (x y b:Nat):Nat:=(x+4294967296 - y - b) % 4294967296
theorem dif_lt (x y b:Nat):dif x y b<4294967296:=by unfold dif; omega
theorem dif_bor (x y b:Nat) (hx:x<4294967296) (hy:y<4294967296) (hb:b≤1):dif x y b+y+b=x+4294967296*bor x y b:=by
 unfold dif bor
 split <;> omega

theorem top_bit (n:Nat) (h:n<4294967296):n / 2147483648=if n.testBit 31 then 1 else 0:=by
 rw [Nat.testBit_eq_decide_div_mod_eq]
 by_cases h1:n / 2 ^ 31 % 2=1
 ·simp only [h1,decide_true,if_true]; omega
 ·simp only [h1,decide_false]; simp; omega

theorem test_top (n:Nat) (h:n<4294967296):n.testBit 31=decide (2147483648≤n):=by
 rw [Nat.testBit_eq_decide_div_mod_eq]
 congr 1
 simp only [eq_iff_iff]
 constructor <;> intro _ <;> omega

theorem sub32_bits (x y b:Nat) (hx:x<4294967296) (hy:y<4294967296) (hb:b≤1) :
 bits BinOp.or IntKind.u32 (bits BinOp.and IntKind.u32 (bits BinOp.xor IntKind.u32 IntKind.u32.max (x:Int)) (y:Int))
  (bits BinOp.and IntKind.u32 (bits BinOp.xor IntKind.u32 IntKind.u32.max (bits BinOp.xor IntKind.u32 (x:Int) (y:Int))) (((x:Int) - (y:Int) - (b:Int)) % 4294967296)) / 2147483648=((bor x y b:Nat):Int):=by
 have hm:IntKind.u32.max=((4294967295:Nat):Int):=by decide
 have hd:((x:Int) - (y:Int) - (b:Int)) % 4294967296=((dif x y b:Nat):Int):=by unfold dif; omega
 have hdl:=dif_lt x y b
 have x1:x ^^^ y<4294967296:=Nat.xor_lt_two_pow (n:=32) hx hy
 have x2:4294967295 ^^^ (x ^^^ y)<4294967296:=Nat.xor_lt_two_pow (n:=32) (by omega) x1
 have x3:4294967295 ^^^ x<4294967296:=Nat.xor_lt_two_pow (n:=32) (by omega) hx
 have x4:(4294967295 ^^^ x) &&& y<4294967296:=Nat.and_lt_two_pow (n:=32) _ hy
 have x5:(4294967295 ^^^ (x ^^^ y)) &&& dif x y b<4294967296:=Nat.and_lt_two_pow (n:=32) _ hdl
 have x6:((4294967295 ^^^ x) &&& y) ||| ((4294967295 ^^^ (x ^^^ y)) &&& dif x y b)<4294967296:=Nat.or_lt_two_pow (n:=32) x4 x5
 rw [hm,hd,u32_xor_nat _ _ (by omega) hx,u32_and_nat _ _ x3 hy,u32_xor_nat _ _ hx hy,u32_xor_nat _ _ (by omega) x1,u32_and_nat _ _ x2 hdl,u32_or_nat _ _ x4 x5]
 have key:(((4294967295 ^^^ x) &&& y) ||| ((4294967295 ^^^ (x ^^^ y)) &&& dif x y b)) / 2147483648=bor x y b:=by
  rw [top_bit _ x6,Nat.testBit_or,Nat.testBit_and,Nat.testBit_and,Nat.testBit_xor,Nat.testBit_xor,Nat.testBit_xor,test_top x hx,test_top y hy,test_top _ hdl,test_top 4294967295 (by omega)]
  unfold dif bor
  by_cases h1:2147483648≤x <;> by_cases h2:2147483648≤y <;> by_cases h3:2147483648≤(x+4294967296 - y - b) % 4294967296 <;> by_cases h4:x<y+b <;> simp [h1,h2,h3,h4] <;> omega
 rw [←key]
 omega

set_option maxHeartbeats 400000 in
theorem sub32_any (w:World) (x y b:Nat) (hx:x<4294967296) (hy:y<4294967296) (hb:b≤1) :
 Calls Tryz.prog 498 #[.int .u32 x, .int .u32 y, .int .u32 b] w fun e w'=>e = .returned (.tuple #[.int .u32 (dif x y b:Nat), .int .u32 (bor x y b:Nat)])∧w=w':=by
 have h:=sub32_bits x y b hx hy hb
 have hd:((x:Int) - (y:Int) - (b:Int)) % 4294967296=((dif x y b:Nat):Int):=by unfold dif; omega
 have H:=Lib.hid h
 have HD:=Lib.hid hd
 clear h hd
 go_enter Tryz.func498,Tryz.ntmps498
 go_wp2
 go_ret2
 refine ⟨?_,rfl⟩
 rw [←H.out,← HD.out]
 rfl

set_option maxHeartbeats 400000 in
theorem add32_any (w:World) (x y b:Nat) (hx:x<4294967296) (hy:y<4294967296) (hb:b≤1) :
 Calls Tryz.prog 574 #[.int .u32 x, .int .u32 y, .int .u32 b] w fun e w'=>e = .returned (.tuple #[.int .u32 (((x+y+b) % 4294967296:Nat):Int), .int .u32 (((x+y+b) / 4294967296:Nat):Int)])∧w=w':=by
 go_enter Tryz.func574,Tryz.ntmps574
 go_wp2
 go_ret2
 exact ⟨ret_eq (by simp),rfl⟩

theorem div_lt_32 (hi lo y:Nat) (hx:hi<y) (hl:lo<4294967296):(hi*4294967296+lo) / y<4294967296:=by
 rw [Nat.div_lt_iff_lt_mul (by omega)]
 have:(hi+1)*4294967296≤y*4294967296:=Nat.mul_le_mul_right _ hx
 rw [Nat.mul_comm 4294967296]
 omega

theorem join_u64 (hi lo:Nat) (hx:hi<4294967296) (hl:lo<4294967296):bits BinOp.or IntKind.u64 ((hi:Int)*4294967296) (lo:Int)=((hi*4294967296+lo:Nat):Int):=by
 have h:=bits_join .u64 64 (by decide) (fun n h0 h1=>by rw [IntKind.wrap_u64]; omega) 32 ((hi:Int)*4294967296) (lo:Int) (by omega) (by omega) (by omega) (by omega) (by omega) (by omega)
 rw [h]; omega

set_option maxHeartbeats 400000 in
theorem div32_any (w:World) (hi lo y:Nat) (hx:hi<y) (hl:lo<4294967296) (hy:y<4294967296) :
 Calls Tryz.prog 573 #[.int .u32 hi, .int .u32 lo, .int .u32 y] w fun e w'=>e = .returned (.tuple #[.int .u32 (((hi*4294967296+lo) / y:Nat):Int), .int .u32 (((hi*4294967296+lo) % y:Nat):Int)])∧∃ n,w'=w.drewN n:=by
 have h1:((y:Int) != 0)=true:=by rw [bne_iff_ne]; omega
 have h2:decide ((y:Int)≤(hi:Int))=false:=by simp; omega
 have h3:¬ ((y:Int)≤(hi:Int)):=by omega
 have q1:=div_lt_32 hi lo y hx hl
 have r1:(hi*4294967296+lo) % y<4294967296:=Nat.lt_trans (Nat.mod_lt _ (by omega)) hy
 have hz:=join_u64 hi lo (by omega) hl
 generalize hi*4294967296+lo=Z at hz q1 r1 ⊢
 have q2:(Z:Int) / (y:Int)<4294967296:=by rw [←Int.natCast_ediv]; omega
 have r2:(Z:Int) % (y:Int)<4294967296:=by rw [←Int.natCast_emod]; omega
 have q0:0≤(Z:Int) / (y:Int):=Int.ediv_nonneg (by omega) (by omega)
 have r0:0≤(Z:Int) % (y:Int):=Int.emod_nonneg _ (by omega)
 have y1:(1:Int)≤(y:Int):=by omega
 go_enter Tryz.func573,Tryz.ntmps573
 go_wp2
 go_quiet (fail)
 go_wp2
 go_ret2
 exact ⟨ret_eq (by simp),_,rfl⟩

/- The word of a quotient: the plain law of digit. -/

/-- V and U by their upper words: N a power of the base. -/
structure Split (N V U ylo v2 vt ulo u2 u1 u0:Nat):Prop where
 hN:0<N
 hV:V=ylo+N*(v2+4294967296*vt)
 hU:U=ulo+N*(u2+4294967296*(u1+4294967296*u0))
 hy:ylo<N
 hu:ulo<N
 hv2:v2<4294967296
 hu2:u2<4294967296
 hu1:u1<4294967296
 hvt:2147483648≤vt
 hvt2:vt<4294967296
 hlt:U<4294967296*V

section
variable {N V U ylo v2 vt ulo u2 u1 u0:Nat} (S:Split N V U ylo v2 vt ulo u2 u1 u0)
include S
theorem Split.posV:0<V:=by
 have h:=S.hV
 have:N*1≤N*(v2+4294967296*vt):=Nat.mul_le_mul_left _ (by have:=S.hvt; omega)
 have:=S.hN
 omega
theorem Split.top_le:u0≤vt:=by
 have h1:N*(4294967296*(4294967296*u0))≤U:=by
  rw [S.hU]
  have:N*(4294967296*(4294967296*u0))≤N*(u2+4294967296*(u1+4294967296*u0)):=Nat.mul_le_mul_left _ (by omega)
  omega
 have h2:V<N*(v2+4294967296*vt+1):=by
  rw [S.hV,Nat.mul_add N (v2+4294967296*vt) 1]
  have:=S.hy
  omega
 have h3:N*(v2+4294967296*vt+1)≤N*(4294967296*(vt+1)):=Nat.mul_le_mul_left _ (by have:=S.hv2; omega)
 have h4:N*(4294967296*(4294967296*u0))<N*(4294967296*(4294967296*(vt+1))):=by
  have e1:N*(4294967296*(4294967296*(vt+1)))=4294967296*(N*(4294967296*(vt+1))):=by rw [Nat.mul_left_comm]
  rw [e1]
  have:=S.hlt
  omega
 have h5:=Nat.lt_of_mul_lt_mul_left h4
 omega
theorem Split.top_lt:u1+4294967296*u0<4294967296*(vt+1):=by
 have:=S.top_le
 have:=S.hu1
 omega
theorem Split.q_top:U / V*vt≤u1+4294967296*u0:=by
 have h1:=Nat.div_mul_le_self U V
 generalize U / V=q at *
 have h2:q*(N*(4294967296*vt))≤q*V:=Nat.mul_le_mul_left _ (by
  rw [S.hV]
  have:N*(4294967296*vt)≤N*(v2+4294967296*vt):=Nat.mul_le_mul_left _ (by omega)
  omega)
 have h3:U<N*(4294967296*(u1+4294967296*u0+1)):=by
  rw [S.hU]
  have:N*(u2+4294967296*(u1+4294967296*u0)+1)≤N*(4294967296*(u1+4294967296*u0+1)):=Nat.mul_le_mul_left _ (by have:=S.hu2; omega)
  rw [Nat.mul_add N _ 1] at this
  have:=S.hu
  omega
 have e:q*(N*(4294967296*vt))=N*(4294967296*(q*vt)):=by rw [Nat.mul_left_comm q N,Nat.mul_left_comm q 4294967296]
 have h4:N*(4294967296*(q*vt))<N*(4294967296*(u1+4294967296*u0+1)):=by omega
 have h5:=Nat.lt_of_mul_lt_mul_left h4
 omega
theorem Split.q_lt:U / V<4294967296:=by
 rw [Nat.div_lt_iff_lt_mul S.posV]
 exact S.hlt
/-- The test says that the guess is too great. -/
theorem Split.less {g r:Nat} (hg:g*vt+r=u1+4294967296*u0) (h:4294967296≤g∨r*4294967296+u2<g*v2):U / V<g:=by
 rcases h with h | h
 ·have:=S.q_lt; omega
 ·refine Nat.lt_of_not_le fun hle=>?_
  have h1:g*V≤U:=Nat.le_trans (Nat.mul_le_mul_right _ hle) (Nat.div_mul_le_self U V)
  have h2:g*(N*(v2+4294967296*vt))≤g*V:=Nat.mul_le_mul_left _ (by rw [S.hV]; omega)
  have h3:U<N*(u2+4294967296*(u1+4294967296*u0)+1):=by rw [S.hU,Nat.mul_add N _ 1]; have:=S.hu; omega
  have e:g*(N*(v2+4294967296*vt))=N*(g*v2+4294967296*(g*vt)):=by rw [Nat.mul_left_comm g N,Nat.mul_add g,Nat.mul_left_comm g 4294967296]
  have h4:N*(g*v2+4294967296*(g*vt))<N*(u2+4294967296*(u1+4294967296*u0)+1):=by omega
  have h5:=Nat.lt_of_mul_lt_mul_left h4
  omega
/-- The guess at the end is too great by at most one. -/
theorem Split.near {g r:Nat} (hg:g*vt+r=u1+4294967296*u0) (hb:g<4294967296) (h:g*v2≤r*4294967296+u2):g≤U / V+1:=by
 have h1:N*(g*v2+4294967296*(g*vt))≤U:=by
  rw [S.hU]
  have:N*(g*v2+4294967296*(g*vt))≤N*(u2+4294967296*(u1+4294967296*u0)):=Nat.mul_le_mul_left _ (by omega)
  omega
 have h2:g*ylo≤4294967295*N:=Nat.mul_le_mul (by omega) (Nat.le_of_lt S.hy)
 have h3:N*4294967296≤V:=by
  rw [S.hV]
  have:N*4294967296≤N*(v2+4294967296*vt):=Nat.mul_le_mul_left _ (by have:=S.hvt; omega)
  omega
 have e:g*V=g*ylo+N*(g*v2+4294967296*(g*vt)):=by
  have:=S.hV
  rw [this,Nat.mul_add,Nat.mul_left_comm g N,Nat.mul_add g,Nat.mul_left_comm g 4294967296]
 have h4:g*V<U+V:=by have:=S.hN; omega
 have h5:g*V<(U / V+1+1)*V:=by
  have:=Nat.div_add_mod U V
  have h6:=Nat.mod_lt U S.posV
  rw [Nat.add_mul,Nat.add_mul,Nat.mul_comm (U / V) V]
  omega
 have:=Nat.lt_of_mul_lt_mul_right h5
 omega
theorem Split.broke {g r:Nat} (hg:g*vt+r=u1+4294967296*u0) (hr:4294967296≤r):g<4294967296∧g*v2≤r*4294967296+u2:=by
 have h1:=S.top_lt
 have h2:g*vt<4294967296*vt:=by omega
 have h3:=Nat.lt_of_mul_lt_mul_right h2
 refine ⟨h3,?_⟩
 have h4:g*v2≤4294967296*4294967296:=Nat.mul_le_mul (by omega) (by have:=S.hv2; omega)
 omega
theorem Split.first:(u1+4294967296*u0) / vt≤4294967298∧U / V≤(u1+4294967296*u0) / vt:=by
 constructor
 ·rw [←Nat.lt_succ_iff]
  rw [Nat.div_lt_iff_lt_mul (by have:=S.hvt; omega)]
  have:=S.top_lt
  have:=S.hvt
  omega
 ·rw [Nat.le_div_iff_mul_le (by have:=S.hvt; omega)]
  exact S.q_top
end

/-- Multiply and subtract, one word. -/
theorem msub_step (nk ok yk B g c b u y d p c' b':Nat) (hinv:nk+g*yk=ok+B*(c+b)) (hp:p=c+g*y) (hc:c'=p / 4294967296) (hd:d+p % 4294967296+b=u+4294967296*b') :
 (nk+B*d)+g*(yk+B*y)=(ok+B*u)+B*4294967296*(c'+b'):=by
 have h1:=Nat.div_add_mod p 4294967296
 rw [←hc] at h1
 have h2:d+g*y+c+b=u+4294967296*(c'+b'):=by omega
 have h3:B*(d+g*y+c+b)=B*(u+4294967296*(c'+b')):=by rw [h2]
 simp only [Nat.mul_add] at h3 hinv ⊢
 rw [Nat.mul_left_comm g B y,Nat.mul_assoc B 4294967296 c',Nat.mul_assoc B 4294967296 b']
 omega
/-- Add back, one word. -/
theorem addb_step (nk ok yk B c u y:Nat) (hinv:nk+B*c=ok+yk) :
 (nk+B*((u+y+c) % 4294967296))+B*4294967296*((u+y+c) / 4294967296)=(ok+B*u)+(yk+B*y):=by
 have h1:=Nat.div_add_mod (u+y+c) 4294967296
 generalize (u+y+c) / 4294967296=e at *
 generalize (u+y+c) % 4294967296=r at *
 have h3:B*(4294967296*e+r)=B*(u+y+c):=by rw [h1]
 simp only [Nat.mul_add] at h3 ⊢
 rw [Nat.mul_assoc B]
 omega
/-- The end of multiply and subtract: nw the n + 1 new words. -/
theorem msub_end {nw g V U T b:Nat} (h:nw+g*V=U+T*b) (hw:nw<T) (hb:b≤1) (hV:0<V) (h1:U / V≤g) (h2:g≤U / V+1) (hUT:U % V<T) :
 (b=0→g=U / V∧nw=U % V)∧(b=1→g=U / V+1∧nw+V=T+U % V):=by
 have hd:=Nat.div_add_mod U V
 rcases (by omega:g=U / V∨g=U / V+1) with hg | hg
 ·rw [hg,Nat.mul_comm] at h
  have h3:nw+U % V=nw+U % V:=rfl
  refine ⟨fun h0=>⟨hg,by rw [h0,Nat.mul_zero] at h; omega⟩,fun h0=>?_⟩
  rw [h0,Nat.mul_one] at h
  omega
 ·rw [hg,Nat.add_mul,Nat.one_mul,Nat.mul_comm (U / V)] at h
  refine ⟨fun h0=>?_,fun h0=>⟨hg,by rw [h0,Nat.mul_one] at h; omega⟩⟩
  rw [h0,Nat.mul_zero] at h
  have:=Nat.mod_lt U hV
  omega

/- A block of words known whole. -/

/-- Block g is just the words zs. -/
def Row (w:World) (g:Nat) (zs:List Nat):Prop:=Loc w g 305 (nums .u32 zs).toArray

section
variable {w w':World} {g:Nat} {zs:List Nat}
theorem Row.of_own {base n:Nat} (h:w.ownsRow base 305 1 (.slice (some ⟨g,0,none⟩) n n) n (nums .u32 zs)):Row w g zs∧zs.length=n:=by
 have hl:=h.1
 rw [nums_length,Nat.mul_one] at hl
 refine ⟨?_,hl⟩
 rcases h.2 with ⟨h',_⟩ | ⟨g',cap',cur,h',_,hg,_,_,hsz,htake⟩
 ·simp at h'
 ·simp only [Value.slice.injEq,Option.some.injEq,Addr.mk.injEq,and_true,true_and] at h'
  obtain ⟨rfl,rfl⟩:=h'
  have:cur.toList=nums .u32 zs:=by
   rw [←htake,List.take_of_length_le (by simp; omega)]
  unfold Row Loc
  rw [hg,← this]
theorem Row.cell (h:Row w g zs) {k:Nat} (hk:k<zs.length):w.cell? ⟨g,k,none⟩=some (.int .u32 ((zs[k]:Nat):Int)):=by
 rw [Loc.cell h,List.getElem?_toArray,nums_get hk]
theorem Row.frz (h:Row w g zs) (k:Nat):w.frozen? ⟨g,k,none⟩=false:=Loc.frz h k
theorem Row.lt (h:Row w g zs):g<w.heap.size:=Loc.lt h
theorem Row.set (h:Row w g zs) (i y:Nat):Row (w.setCell ⟨g,i,none⟩ (.int .u32 ((y:Nat):Int))) g (zs.set i y):=by
 have:=Loc.set h i (.int .u32 ((y:Nat):Int))
 unfold Row
 rw [List.setIfInBounds_toArray,nums_set] at this
 exact this
theorem Row.below (h:Row w g zs) (hb:Below w.heap.size w w'):Row w' g zs:=Loc.below h hb
theorem Row.drewN (h:Row w g zs) (n:Nat):Row (w.drewN n) g zs:=h
theorem Row.words {X:Nat→Prop} (h:Row w g zs) (hw:Ws zs) (hX:¬ X g) (hl:zs.length≤maxLen):Words w X (.slice (some ⟨g,0,none⟩) zs.length zs.length) zs:=Words.lit zs h hw hX hl
end
theorem below_grown {B:Nat} {w0 w w':World} {g:Nat} (h:Below B w0 w) (hg:w.grownBy w' (some g)) (hw:B≤w.heap.size) (hB:B≤g):Below B w0 w':=h.grown hg hw fun k hk=>by injection hk with hk; omega
theorem grown_refl (w:World) (r:Option Nat):w.grownBy w r:=⟨rfl,rfl,rfl,Nat.le_refl _,fun _ _ _=>rfl⟩
theorem keep_grown {X:Nat→Prop} {w w':World} {g:Nat} (h:w.grownBy w' (some g)) (hX:X g):Keep X w w':=(Keep.refl X w).grown h fun k hk=>by injection hk with hk; subst hk; exact .inl hX
end Go.Proofs.YtbdcjhoedhhabaaGreat

