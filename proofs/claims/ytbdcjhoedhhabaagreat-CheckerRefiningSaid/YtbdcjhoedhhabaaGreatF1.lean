/- Contracts of the functions that the statements reach, part 1. -/
import GoSem.Step
import Derived.Orders
set_option linter.unusedSimpArgs false
set_option linter.unusedVariables false

/- The executor of closed runs: an abstract memory of lists, and what each operation does in it. Definitions only. -/
namespace Go.Proofs.YtbdcjhoedhhabaaGreat

/-- A table of small numbers: a binary tree by the digits of n + 1. -/
inductive Tr (α:Type) where
 | nil
 | node (l:Tr α) (v:Option α) (r:Tr α)

namespace Tr
variable {α:Type}
noncomputable def get (t:Tr α):Nat→Option α:=
 Tr.rec (motive:=fun _=>Nat→Option α) (fun _=>none) (fun _ v _ il ir n=>Nat.rec (motive:=fun _=>Option α) v (fun _ _=>Nat.rec (motive:=fun _=>Option α) (ir (Nat.pred (Nat.div n 2))) (fun _ _=>il (Nat.div n 2)) (Nat.mod n 2)) n) t

/-- A table of one member. -/
noncomputable def sing (k:Nat):Nat→Option α→Tr α:=
 Nat.rec (motive:=fun _=>Nat→Option α→Tr α) (fun _ _=> .nil) (fun _ ih n o=>Nat.rec (motive:=fun _=>Tr α) (.node .nil o .nil) (fun _ _=>Nat.rec (motive:=fun _=>Tr α) (.node .nil none (ih (Nat.pred (Nat.div n 2)) o)) (fun _ _=> .node (ih (Nat.div n 2) o) none .nil) (Nat.mod n 2)) n) k

noncomputable def putF (k:Nat) (t:Tr α):Nat→Option α→Tr α:=
 Tr.rec (motive:=fun _=>Nat→Option α→Tr α) (fun n o=>sing k n o) (fun l v r il ir n o=>Nat.rec (motive:=fun _=>Tr α) (.node l o r) (fun _ _=>Nat.rec (motive:=fun _=>Tr α) (.node l v (ir (Nat.pred (Nat.div n 2)) o)) (fun _ _=> .node (il (Nat.div n 2) o) v r) (Nat.mod n 2)) n) t

noncomputable def put (t:Tr α) (n:Nat) (o:Option α):Tr α:=putF (n+1) t n o

/-- Every other member, from the first on. -/
noncomputable def alt:List α→List α
 | []=>[]
 | [x]=>[x]
 | x :: _ :: l=>x :: alt l

/-- The table of a list. -/
noncomputable def build:Nat→List α→Tr α
 | 0,_=> .nil
 | _,[]=> .nil
 | k+1,x :: l=> .node (build k (alt l)) (some x) (build k (alt l.tail))

noncomputable def ofList:Nat→List α→Tr α→Tr α
 | _,[],t=>t
 | n,x :: l,t=>ofList (n+1) l (t.put n (some x))
end Tr

/-- A value, its addresses by the number of a block of the abstract memory. 'sl .. op': a slice; 'op' says that its capacity is at least cap. -/
inductive AV where
 | bool (b:Bool)
 | int (k:IntKind) (n:Int)
 | str (s:ByteArray)
 | nilPtr
 | ptr (b off:Nat)
 | nilSl
 | sl (b off len cap:Nat) (op:Bool)
 | nilMap
 | mp (b:Nat)
 | nilFn
 | fn (f:Nat) (first caps:List AV)
 | agg (cs:List AV)
 | tup (cs:List AV)

noncomputable def AV.undef:AV:= .tup []

/-- The value of a constant without parts. -/
noncomputable def av0:Value→Option AV
 | .bool b=>some (.bool b)
 | .int k n=>some (.int k n)
 | .string s=>some (.str s)
 | .pointer none=>some .nilPtr
 | .slice none 0 0=>some .nilSl
 | .map none=>some .nilMap
 | .nilFunc=>some .nilFn
 | _=>none

/-- The value of a constant; its lists down to the depth given. -/
noncomputable def avOf:Nat→Value→Option AV
 | 0,v=>av0 v
 | d + 1, v => match v with
   | .func (.func f) fs cs=>(fs.toList.mapM (avOf d)).bind fun fs=>(cs.toList.mapM (avOf d)).map fun cs=> .fn f fs cs
   | .agg cs=>(cs.toList.mapM (avOf d)).map .agg
   | .tuple cs=>(cs.toList.mapM (avOf d)).map .tup
   | v=>av0 v

noncomputable def AV.cells:AV→List AV
 | .agg cs=>cs
 | v=>[v]

/-- What a block holds: cells (those of an appended slice: el cells an element), or a map's entries (key, value, birth) and clock. -/
inductive Blk where
 | cells (cs:List AV) (el:Nat)
 | map (es:List (AV×AV×Nat)) (clock:Nat)

/-- A memory: the blocks, the next number, and the numbers of the old blocks that were written. -/
structure Mem where
 blks:Tr Blk
 next:Nat
 wr:List Nat

/-- The tables of a program: types and functions. -/
structure Tabs where
 ty:Tr TypeInfo
 fn:Tr Func
 /-- The types of structs and arrays of plain values that are compared. -/
 eqs:List Nat

noncomputable def Tabs.un (T:Tabs) (t:Nat):Option TypeDesc:=
 match T.ty.get t with
 | some i => match i.desc with
   | .named _ u=>(T.ty.get u).map (·.desc)
   | d=>some d
 | none=>none

noncomputable def Tabs.isAgg (T:Tabs) (t:Nat):Option Bool:=
 match T.un t with
 | some (.struct _)=>some true
 | some (.array _ _)=>some true
 | some _=>some false
 | none=>none

noncomputable def Tabs.zero (T:Tabs) (t:Nat):Option AV:=(T.ty.get t).bind fun i=>i.zero.bind (avOf 3)

noncomputable def sizeA (T:Tabs) (t:Nat):Option Nat:=(T.ty.get t).map (·.size)

abbrev Regs:=Tr AV

noncomputable def Regs.at (r:Regs) (t:Nat):AV:=(Tr.get r t).getD .undef

noncomputable def evA (r:Regs):Operand→Option AV
 | .tmp t=>some (r.at t)
 | .const v=>avOf 3 v
 | .func f=>some (.fn f [] [])
 | .global _=>none

noncomputable def evL (r:Regs):List Operand→Option (List AV)
 | []=>some []
 | x :: l => match evA r x with
   | some v => match evL r l with
     | some vs=>some (v :: vs)
     | none=>none
   | none=>none

/-- What an operation does. -/
inductive Eff where
 | val (v:AV) (m:Mem)
 | skip (m:Mem)
 | call (f:Nat) (args:List AV)

noncomputable def Mem.new (m:Mem) (b:Blk):Mem:={ m with blks:=m.blks.put m.next (some b),next:=m.next+1 }
noncomputable def Mem.set (m:Mem) (n:Nat) (b:Option Blk):Mem:={ m with blks:=m.blks.put n b,wr:=n :: m.wr }

noncomputable def cellsAt (m:Mem) (b off n:Nat):Option (List AV):=
 match m.blks.get b with
 | some (.cells cs _)=>let l:=(cs.drop off).take n; bif Nat.beq l.length n then some l else none
 | _=>none

/-- Does a value fill one cell? -/
noncomputable def AV.one:AV→Bool
 | .agg _=>false
 | .tup _=>false
 | _=>true

noncomputable def putCells:List AV→Nat→List AV→Option (List AV)
 | cs,0,[]=>some cs
 | _ :: cs,0,v :: vs=>bif v.one then (putCells cs 0 vs).map (v :: ·) else none
 | c :: cs,n+1,vs=>(putCells cs n vs).map (c :: ·)
 | _,_,_=>none

noncomputable def loadA (T:Tabs) (m:Mem) (t b off:Nat):Option AV:=
 match T.isAgg t,T.ty.get t with
 | some true,some i=>(cellsAt m b off i.size).map .agg
 | some false, some _ => match cellsAt m b off 1 with
   | some [v]=>some v
   | _=>none
 | _,_=>none

noncomputable def storeA (T:Tabs) (m:Mem) (t b off:Nat) (v:AV):Option Mem:=
 match T.ty.get t,m.blks.get b with
 | some i,some (.cells cs el)=>bif Nat.beq v.cells.length i.size then (putCells cs off v.cells).map fun cs=>m.set b (some (.cells cs el)) else none
 | _,_=>none

noncomputable def partA (T:Tabs) (t:Nat) (cs:List AV) (off:Nat):Option AV:=
 match T.isAgg t,T.ty.get t with
 | some true,some i=>some (.agg ((cs.drop off).take i.size))
 | some false,some _=>cs[off]?
 | _,_=>none

noncomputable def rep (zs:List AV):Nat→List AV
 | 0=>[]
 | n+1=>zs ++ rep zs n

/-- The zeros of so many elements. -/
noncomputable def zerosA (T:Tabs) (e n len:Nat):Option (List AV):=
 bif Nat.beq (len*n) 0 then some [] else match T.zero e with
  | some z=>bif Nat.beq z.cells.length n then some (rep z.cells len) else none
  | none=>none

/-- The parts of a composite, each at its place. -/
noncomputable def fillA (place:Nat→Option (Nat×Nat)):List AV→List (Nat×AV)→Option (List AV)
 | cs,[]=>some cs
 | cs, (i, v) :: ps => match place i with
   | some (off,size)=>bif Nat.beq v.cells.length size then (putCells cs off v.cells).bind fun cs=>fillA place cs ps else none
   | none=>none

/-- The places of a struct's fields. -/
noncomputable def placesA (T:Tabs):List Field→Option (List (Nat×Nat))
 | []=>some []
 | f :: fs => match sizeA T f.type with
   | some n => match placesA T fs with
     | some ps=>some ((f.offset,n) :: ps)
     | none=>none
   | none=>none

noncomputable def evParts (r:Regs):List (Nat×Operand)→Option (List (Nat×AV))
 | []=>some []
 | (i, x) :: l => match evA r x with
   | some v => match evParts r l with
     | some vs=>some ((i,v) :: vs)
     | none=>none
   | none=>none

noncomputable def ile (a b:Int):Bool:=
 match a,b with
 | .ofNat a, .ofNat b=>Nat.ble a b
 | .negSucc _, .ofNat _=>true
 | .ofNat _, .negSucc _=>false
 | .negSucc a, .negSucc b=>Nat.ble b a

noncomputable def ieq (a b:Int):Bool:=
 match a,b with
 | .ofNat a, .ofNat b=>Nat.beq a b
 | .negSucc a, .negSucc b=>Nat.beq a b
 | _,_=>false

noncomputable def small (a:Nat):Bool:=Nat.ble a 9223372036854775807

/-- The integer kept in the range of its kind; most are there already. -/
noncomputable def wrapA (k:IntKind) (n:Int):Int:=
 match k,n with
 | .i64, .ofNat a=>bif small a then n else k.wrap n
 | .i64, .negSucc a=>bif small a then n else k.wrap n
 | _,_=>k.wrap n

noncomputable def arithA (op:BinOp) (k:IntKind) (a b:Int):Option AV:=
 match op with
 | .add=>some (.int k (wrapA k (a+b)))
 | .sub=>some (.int k (wrapA k (a - b)))
 | .mul=>some (.int k (wrapA k (a*b)))
 | .quo=>bif ieq b 0 then none else some (.int k (wrapA k (a.tdiv b)))
 | .rem=>bif ieq b 0 then none else some (.int k (a.tmod b))
 | .eql=>some (.bool (ieq a b))
 | .neq=>some (.bool (!ieq a b))
 | .lss=>some (.bool (!ile b a))
 | .leq=>some (.bool (ile a b))
 | .gtr=>some (.bool (!ile a b))
 | .geq=>some (.bool (ile b a))
 | .and=>some (.int k (k.wrap (BitVec.ofInt k.bits a &&& BitVec.ofInt k.bits b).toNat))
 | .or=>some (.int k (k.wrap (BitVec.ofInt k.bits a ||| BitVec.ofInt k.bits b).toNat))
 | .xor=>some (.int k (k.wrap (BitVec.ofInt k.bits a ^^^ BitVec.ofInt k.bits b).toNat))
 | .andNot=>some (.int k (k.wrap (BitVec.ofInt k.bits a &&& ~~~(BitVec.ofInt k.bits b)).toNat))
 | _=>none

noncomputable def shiftA (op:BinOp) (k:IntKind) (a b:Int):Option AV:=
 match b with
 | .negSucc _=>none
 | .ofNat b =>
   match op with
   | .shl=>some (.int k (wrapA k (a*2 ^ (Nat.min b k.bits))))
   | .shr=>some (.int k (a.fdiv (2 ^ (Nat.min b k.bits))))
   | _=>none

noncomputable def kindEq (j k:IntKind):Bool:=
 match j,k with
 | .i8, .i8 | .i16, .i16 | .i32, .i32 | .i64, .i64 | .u8, .u8 | .u16, .u16 | .u32, .u32 | .u64, .u64=>true
 | _,_=>false

noncomputable def intA (op:BinOp) (k:IntKind) (a:Int) (j:IntKind) (b:Int):Option AV:=
 match op with
 | .shl=>shiftA .shl k a b
 | .shr=>shiftA .shr k a b
 | op=>bif kindEq k j then arithA op k a b else none

noncomputable def strA (op:BinOp) (a b:ByteArray):Option AV:=
 match op with
 | .eql=>some (.bool (a.data.toList == b.data.toList))
 | .neq=>some (.bool (!(a.data.toList == b.data.toList)))
 | .lss=>some (.bool (Op.bytesLess a.data.toList b.data.toList))
 | _=>none

noncomputable def eqNil:AV→AV→Option Bool
 | .nilSl, .nilSl=>some true
 | .nilSl, .sl ..=>some false
 | .sl .., .nilSl=>some false
 | _,_=>none

noncomputable def eqOp (op:BinOp) (b:Bool):Option AV:=
 match op with
 | .eql=>some (.bool b)
 | .neq=>some (.bool !b)
 | _=>none

noncomputable def unA (op:UnOp) (x:AV):Option AV:=
 match op,x with
 | .not, .bool b=>some (.bool !b)
 | .neg, .int k n=>some (.int k (wrapA k (0 - n)))
 | .xor, .int k n=>arithA .xor k (if k.signed then -1 else k.max) n
 | _,_=>none

/-- Two plain values of a type compared. -/
noncomputable def eqPlain (T:Tabs) (t:Nat) (x y:AV):Option Bool:=
 match T.un t,x,y with
 | some (.int _), .int j a, .int k b=>bif kindEq j k then some (ieq a b) else none
 | some .bool, .bool a, .bool b=>some (a == b)
 | some .string, .str a, .str b=>some (a.data.toList == b.data.toList)
 | _,_,_=>none

noncomputable def eqFields (T:Tabs) (xs ys:List AV):List Field→Option Bool
 | []=>some true
 | f :: fs => bif !(f.name == "_") then
     match xs[f.offset]?,ys[f.offset]? with
     | some x, some y => match eqPlain T f.type x y with
       | some true=>eqFields T xs ys fs
       | r=>r
     | _,_=>none
   else none

noncomputable def eqElems (T:Tabs) (e:Nat) (xs ys:List AV):Nat→Nat→Option Bool
 | 0,_=>some true
 | n + 1, i => match xs[i]?, ys[i]? with
   | some x, some y => match eqPlain T e x y with
     | some true=>eqElems T e xs ys n (i+1)
     | r=>r
   | _,_=>none

/-- Structs and arrays of plain values compared. -/
noncomputable def eqAgg (T:Tabs) (t:Nat) (xs ys:List AV):Option Bool:=
 bif T.eqs.any (Nat.beq t) then
  match T.un t with
  | some (.struct fs)=>eqFields T xs ys fs.toList
  | some (.array n e)=>match sizeA T e with | some 1=>eqElems T e xs ys n 0 | _=>none
  | _=>none
 else none

noncomputable def cmpA (T:Tabs) (t:Nat) (op:BinOp) (a b:AV):Option AV:=
 match a,b with
 | .int k a, .int j b=>intA op k a j b
 | .bool a, .bool b => match T.un t with
   | some .bool=>eqOp op (a == b)
   | _=>none
 | .str a, .str b=>strA op a b
 | .agg xs, .agg ys=>(eqAgg T t xs ys).bind (eqOp op)
 | a, b => match T.un t with
   | some (.slice _)=>(eqNil a b).bind (eqOp op)
   | _=>none

noncomputable def optNat (r:Regs):Option Operand→Option (Option Nat)
 | none=>some none
 | some x => match evA r x with
   | some (.int _ (.ofNat n))=>some (some n)
   | _=>none

noncomputable def fieldOf (T:Tabs) (t f:Nat):Option Field:=
 match T.un t with
 | some (.struct fs)=>fs[f]?
 | _=>none

noncomputable def elemOf (T:Tabs) (t:Nat):Option (Nat×Nat):=
 match T.un t with
 | some (.slice e)=>(sizeA T e).map fun n=>(e,n)
 | _=>none

/-- A part of a slice. -/
noncomputable def sliceA (T:Tabs) (t:Nat) (x:AV) (lo hi:Option Nat):Option AV:=
 match elemOf T t,x with
 | some _, .nilSl=>bif Nat.beq (lo.getD 0) 0 && Nat.beq (hi.getD 0) 0 then some .nilSl else none
 | some (_, size), .sl b off len cap op =>
   let l:=lo.getD 0
   let h:=hi.getD len
   bif Nat.ble l h && Nat.ble h cap then
    (bif Nat.beq l 0 || Nat.blt l cap then some (.sl b (off + l * size) (h - l) (cap - l) op)
     else bif op then none else some (.sl b off 0 0 false)) else none
 | _,_=>none

noncomputable def setEntry:List (AV×AV×Nat)→Nat→AV→AV→List (AV×AV×Nat)
 | [],_,_,_=>[]
 | (_,_,n) :: es,0,k,v=>(k,v,n) :: es
 | e :: es,i+1,k,v=>e :: setEntry es i k v

noncomputable def setBorn:List (AV×AV×Nat)→Nat→AV→Option (List (AV×AV×Nat))
 | [],_,_=>none
 | (k,x,n) :: es,b,v=>bif Nat.beq n b then some ((k,v,n) :: es) else (setBorn es b v).map ((k,x,n) :: ·)

noncomputable def mapOf (m:Mem) (b:Nat):Option (List (AV×AV×Nat)×Nat):=
 match m.blks.get b with
 | some (.map es c)=>some (es,c)
 | _=>none

noncomputable def mapTy (T:Tabs) (t:Nat):Option (Nat×Nat):=
 match T.un t with
 | some (.map k e)=>some (k,e)
 | _=>none

/-- Two keys of a map compared: plain values, or arrays of plain values. -/
noncomputable def keyEq (T:Tabs) (t:Nat) (x y:AV):Option Bool:=
 match x,y with
 | .agg xs, .agg ys => match T.un t with
   | some (.array n e) => match sizeA T e with
     | some 1=>bif Nat.beq xs.length n && Nat.beq ys.length n then eqElems T e xs ys n 0 else none
     | _=>none
   | _=>none
 | x,y=>eqPlain T t x y

/-- The entry of a key: its place, value and birth. -/
noncomputable def findA (T:Tabs) (t:Nat) (k:AV):List (AV×AV×Nat)→Nat→Option (Option (Nat×AV×Nat))
 | [],_=>some none
 | (x, v, n) :: es, i => match keyEq T t k x with
   | some true=>some (some (i,v,n))
   | some false=>findA T t k es (i+1)
   | none=>none

/-- The entry of a key that is one. -/
noncomputable def entA (T:Tabs) (t:Nat) (k:AV) (es:List (AV×AV×Nat)):Option (Option (Nat×AV×Nat)):=
 match keyEq T t k k with
 | some true=>findA T t k es 0
 | _=>none

/-- What an appended slice holds: its length and its cells. -/
noncomputable def srcA (m:Mem) (size:Nat):AV→Option (Nat×List AV)
 | .nilSl=>some (0,[])
 | .sl b off n _ _=>(cellsAt m b off (n*size)).map fun l=>(n,l)
 | _=>none

/-- Has the zero of a type so many cells? -/
noncomputable def zeroHas (T:Tabs) (e n:Nat):Bool:=
 match T.zero e with
 | some z=>Nat.beq z.cells.length n
 | none=>false

noncomputable def appendA (T:Tabs) (m:Mem) (t:Nat) (s x:AV):Option Eff:=
 match elemOf T t with
 | none=>none
 | some (e, size) =>
   match T.ty.get e,srcA m size x,s with
   | some i, some (n, l), .nilSl =>
     bif Nat.beq n 0 then some (.val .nilSl m)
     else bif Nat.ble (n*i.bytes) 1000000000 && Nat.ble n 1000000000 && zeroHas T e size then some (.val (.sl m.next 0 n n true) (m.new (.cells l size))) else none
   | some i, some (n, l), .sl b off len cap op =>
     bif Nat.ble (len+n) cap then
      match m.blks.get b with
      | some (.cells cs el)=>(putCells cs (off+len*size) l).map fun cs=> .val (.sl b off (len+n) cap op) (m.set b (some (.cells cs el)))
      | _=>none
     else bif Nat.ble ((len+n)*i.bytes) 1000000000 && Nat.ble (len+n) 1000000000 && zeroHas T e size && Nat.ble len cap && l.all AV.one then
      match cellsAt m b off (len*size),op with
      | some old,false=>some (.val (.sl m.next 0 (len+n) (len+n) true) (m.new (.cells (old ++ l) size)))
      | some old, true => match m.blks.get b with
        | some (.cells cs el)=>bif Nat.beq el size && Nat.beq (off+cap*size) cs.length then
         some (.val (.sl m.next 0 (len+n) (len+n) true) ((m.set b none).new (.cells (old ++ l) size))) else none
        | _=>none
      | _,_=>none
     else none
   | _,_,_=>none

noncomputable def maxI (a b:Int):Int:=bif ile b a then a else b
noncomputable def minI (a b:Int):Int:=bif ile a b then a else b

noncomputable def foldI (f:Int→Int→Int) (k:IntKind):Int→List AV→Option AV
 | a,[]=>some (.int k a)
 | a, .int j b :: l=>bif kindEq k j then foldI f k (f a b) l else none
 | _,_=>none

noncomputable def builtinA (T:Tabs) (m:Mem) (b:Builtin) (ts:List Nat) (vs:List AV):Option Eff:=
 match b,ts,vs with
 | .len, t :: _, v :: _ =>
   match T.un t,v with
   | some .string, .str s=>some (.val (.int .i64 s.size) m)
   | some (.array n _),_=>some (.val (.int .i64 n) m)
   | some (.slice _), .nilSl=>some (.val (.int .i64 0) m)
   | some (.slice _), .sl _ _ n _ _=>some (.val (.int .i64 n) m)
   | some (.map _ _), .nilMap=>some (.val (.int .i64 0) m)
   | some (.map _ _), .mp b=>(mapOf m b).map fun e=> .val (.int .i64 e.1.length) m
   | _,_=>none
 | .append,[t,u],[s,x]=>bif Nat.beq t u then appendA T m t s x else none
 | .clear, [t], [x] =>
   match elemOf T t,x with
   | some _, .nilSl=>some (.val (.tup []) m)
   | some (e, n), .sl b off len _ _ =>
     bif Nat.beq len 0 || Nat.beq n 0 then none else
     match zerosA T e n len,m.blks.get b with
     | some z,some (.cells cs el)=>(putCells cs off z).map fun cs=> .val (.tup []) (m.set b (some (.cells cs el)))
     | _,_=>none
   | _,_=>none
 | .max,_, .int k a :: l=>(foldI maxI k a l).map fun v=> .val v m
 | .min,_, .int k a :: l=>(foldI minI k a l).map fun v=> .val v m
 | _,_,_=>none

noncomputable def opMove (T:Tabs) (r:Regs) (m:Mem) (x:Operand):Option Eff:=
 (evA r x).map fun v=> .val v m

noncomputable def opAssign (T:Tabs) (r:Regs) (m:Mem) (x:Operand):Option Eff:=
 (evA r x).map fun v=> .val v m

noncomputable def opPick (T:Tabs) (r:Regs) (m:Mem) (c:Operand) (a:Operand) (b:Operand):Option Eff:=
 match evA r c with
  | some (.bool true)=>(evA r a).map fun v=> .val v m
  | some (.bool false)=>(evA r b).map fun v=> .val v m
  | _=>none

noncomputable def opAlloc (T:Tabs) (r:Regs) (m:Mem) (t:Nat):Option Eff:=
 (T.zero t).map fun z=> .val (.ptr m.next 0) (m.new (.cells z.cells 0))

noncomputable def opBox (T:Tabs) (r:Regs) (m:Mem) (x:Operand):Option Eff:=
 (evA r x).map fun v=> .val (.ptr m.next 0) (m.new (.cells v.cells 0))

noncomputable def opBuild (T:Tabs) (r:Regs) (m:Mem) (t:Nat) (ps:Array (Nat×Operand)):Option Eff:=

 match T.zero t,T.un t,evParts r ps.toList with
 | some z,some (.struct fs),some vs=>(placesA T fs.toList).bind fun ps=>(fillA (fun i=>ps[i]?) z.cells vs).map fun cs=> .val (.agg cs) m
 | some z,some (.array _ e),some vs=>(sizeA T e).bind fun n=>(fillA (fun i=>some (i*n,n)) z.cells vs).map fun cs=> .val (.agg cs) m
 | _,_,_=>none

noncomputable def opBuildSlice (T:Tabs) (r:Regs) (m:Mem) (t:Nat) (len:Nat) (ps:Array (Nat×Operand)):Option Eff:=

 match elemOf T t,evParts r ps.toList with
 | some (e, n), some vs =>
   bif Nat.ble (len*n) 1000000 then
    match zerosA T e n len with
    | some z=>(fillA (fun i=>some (i*n,n)) z vs).map fun cs=> .val (.sl m.next 0 len len false) (m.new (.cells cs 0))
    | none=>none
   else none
 | _,_=>none

noncomputable def opLoad (T:Tabs) (r:Regs) (m:Mem) (t:Nat) (a:Operand):Option Eff:=
 match evA r a with
  | some (.ptr b off)=>(loadA T m t b off).map fun v=> .val v m
  | _=>none

noncomputable def opStore (T:Tabs) (r:Regs) (m:Mem) (t:Nat) (a:Operand) (x:Operand):Option Eff:=
 match evA r a,evA r x with
  | some (.ptr b off),some v=>(storeA T m t b off v).map .skip
  | _,_=>none

noncomputable def opNilCheck (T:Tabs) (r:Regs) (m:Mem) (x:Operand):Option Eff:=
 match evA r x with
  | some (.ptr b off)=>some (.val (.ptr b off) m)
  | some (.fn f fs cs)=>some (.val (.fn f fs cs) m)
  | _=>none

noncomputable def opBinOp (T:Tabs) (r:Regs) (m:Mem) (op:BinOp) (t:Nat) (x:Operand) (y:Operand):Option Eff:=

 match evA r x,evA r y with
 | some a,some b=>(cmpA T t op a b).map fun v=> .val v m
 | _,_=>none

noncomputable def opUnOp (T:Tabs) (r:Regs) (m:Mem) (op:UnOp) (x:Operand):Option Eff:=
 (evA r x).bind fun v=>(unA op v).map fun v=> .val v m

noncomputable def opConvert (T:Tabs) (r:Regs) (m:Mem) (src:Nat) (dst:Nat) (x:Operand):Option Eff:=
 match T.un dst,evA r x with
  | some (.int k),some (.int _ n)=>(T.un src).map fun _=> .val (.int k (wrapA k n)) m
  | _,_=>none

noncomputable def opMakeFunc (T:Tabs) (r:Regs) (m:Mem) (f:Nat) (fs:Array Operand) (cs:Array Operand):Option Eff:=
 match evL r fs.toList,evL r cs.toList with
  | some fs,some cs=>some (.val (.fn f fs cs) m)
  | _,_=>none

noncomputable def opMakeMap (T:Tabs) (r:Regs) (m:Mem):Option Eff:=
 some (.val (.mp m.next) (m.new (.map [] 0)))

noncomputable def opMakeSlice (T:Tabs) (r:Regs) (m:Mem) (t:Nat) (l:Operand) (c:Operand):Option Eff:=

 match elemOf T t,evA r l,evA r c with
 | some (e, n), some (.int .i64 (.ofNat l)), some (.int .i64 (.ofNat c)) =>
   match T.ty.get e with
   | some i => bif Nat.ble l c && Nat.ble c 1000000 && Nat.ble (c * i.bytes) 1000000000 then
    match zerosA T e n c with
    | some z=>some (.val (.sl m.next 0 l c false) (m.new (.cells z 0)))
    | none=>none
     else none
   | none=>none
 | _,_,_=>none

noncomputable def opSlice (T:Tabs) (r:Regs) (m:Mem) (t:Nat) (x:Operand) (lo:Option Operand) (hi:Option Operand):Option Eff:=

 match evA r x,optNat r lo,optNat r hi with
 | some v,some lo,some hi=>(sliceA T t v lo hi).map fun v=> .val v m
 | _,_,_=>none

noncomputable def opFieldAddr (T:Tabs) (r:Regs) (m:Mem) (s:Nat) (x:Operand) (f:Nat):Option Eff:=
 match evA r x,fieldOf T s f with
  | some (.ptr b off), some fd => match sizeA T fd.type with
    | some (_+1)=>some (.val (.ptr b (off+fd.offset)) m)
    | _=>none
  | _,_=>none

noncomputable def opField (T:Tabs) (r:Regs) (m:Mem) (s:Nat) (x:Operand) (f:Nat):Option Eff:=
 match evA r x,fieldOf T s f with
  | some (.agg cs),some fd=>(partA T fd.type cs fd.offset).map fun v=> .val v m
  | _,_=>none

noncomputable def opIndexAddr (T:Tabs) (r:Regs) (m:Mem) (t:Nat) (x:Operand) (ix:Operand):Option Eff:=
 match T.un t,evA r x,evA r ix with
  | some (.slice e), some (.sl b off len _ _), some (.int _ (.ofNat i)) =>
    bif Nat.blt i len then (sizeA T e).map fun n=> .val (.ptr b (off+i*n)) m else none
  | some (.array len e), some (.ptr b off), some (.int _ (.ofNat i)) =>
    bif Nat.blt i len then (sizeA T e).map fun n=> .val (.ptr b (off+i*n)) m else none
  | _,_,_=>none

noncomputable def opIndex (T:Tabs) (r:Regs) (m:Mem) (t:Nat) (x:Operand) (ix:Operand):Option Eff:=
 match T.un t,evA r x,evA r ix with
  | some (.array len e), some (.agg cs), some (.int _ (.ofNat i)) =>
    bif Nat.blt i len then (sizeA T e).bind fun n=>(partA T e cs (i*n)).map fun v=> .val v m else none
  | some .string,some (.str s),some (.int _ (.ofNat i))=>(s.data.toList[i]?).map fun b=> .val (.int .u8 b.toNat) m
  | _,_,_=>none

noncomputable def opLookup (T:Tabs) (r:Regs) (m:Mem) (t:Nat) (x:Operand) (k:Operand) (ok:Bool):Option Eff:=

 match mapTy T t,evA r x,evA r k with
 | some (kt, e), some (.mp b), some k => match mapOf m b with
   | some (es, _) => match entA T kt k es with
     | some (some (_,v,_))=>some (.val (bif ok then .tup [v, .bool true] else v) m)
     | some none=>(T.zero e).map fun z=> .val (bif ok then .tup [z, .bool false] else z) m
     | none=>none
   | none=>none
 | _,_,_=>none

noncomputable def opMapUpdate (T:Tabs) (r:Regs) (m:Mem) (t:Nat) (x:Operand) (k:Operand) (v:Operand):Option Eff:=

 match mapTy T t,evA r x,evA r k,evA r v with
 | some (kt, _), some (.mp b), some k, some v => match mapOf m b with
   | some (es, c) => match entA T kt k es with
     | some (some (i,_,_))=>some (.skip (m.set b (some (.map (setEntry es i k v) c))))
     | some none=>some (.skip (m.set b (some (.map (es ++ [(k,v,c)]) (c+1)))))
     | none=>none
   | none=>none
 | _,_,_,_=>none

noncomputable def opMapEntry (T:Tabs) (r:Regs) (m:Mem) (t:Nat) (x:Operand) (k:Operand):Option Eff:=

 match mapTy T t,evA r x,evA r k with
 | some (kt, e), some (.mp b), some k => match mapOf m b with
   | some (es, c) => match entA T kt k es with
     | some (some (i,v,n))=>some (.val (.tup [v, .int .i64 n]) (m.set b (some (.map (setEntry es i k v) c))))
     | some none=>(T.zero e).map fun z=> .val (.tup [z, .int .i64 c]) (m.set b (some (.map (es ++ [(k,z,c)]) (c+1))))
     | none=>none
   | none=>none
 | _,_,_=>none

noncomputable def opEntryStore (T:Tabs) (r:Regs) (m:Mem) (x:Operand) (s:Operand) (v:Operand):Option Eff:=

 match evA r x,evA r s,evA r v with
 | some (.mp b), some (.int _ (.ofNat n)), some v => match mapOf m b with
   | some (es,c)=>(setBorn es n v).map fun es=> .skip (m.set b (some (.map es c)))
   | none=>none
 | _,_,_=>none

noncomputable def opExtract (T:Tabs) (r:Regs) (m:Mem) (x:Operand) (i:Nat):Option Eff:=
 match evA r x with
  | some (.tup vs)=>(vs[i]?).map fun v=> .val v m
  | _=>none

noncomputable def opCall (T:Tabs) (r:Regs) (m:Mem) (c:Call):Option Eff:=

 match c.callee,evL r c.args.toList with
 | .builtin b,some vs=>builtinA T m b c.argTypes.toList vs
 | .value f, some vs => match evA r f with
   | some (.fn f fs cs)=>some (.call f (fs ++ vs ++ cs))
   | _=>none
 | _,_=>none

noncomputable def opA (T:Tabs) (r:Regs) (m:Mem) (op:Op):Option Eff:=
 match op with
 | .move x=>opMove T r m x
 | .assign x=>opAssign T r m x
 | .pick c a b=>opPick T r m c a b
 | .alloc t=>opAlloc T r m t
 | .box _ x=>opBox T r m x
 | .build t ps=>opBuild T r m t ps
 | .buildSlice t len ps=>opBuildSlice T r m t len ps
 | .load t a=>opLoad T r m t a
 | .store t a x=>opStore T r m t a x
 | .nilCheck x=>opNilCheck T r m x
 | .binOp op t x y _=>opBinOp T r m op t x y
 | .unOp op _ x=>opUnOp T r m op x
 | .convert src dst x=>opConvert T r m src dst x
 | .makeFunc (.func f) fs cs=>opMakeFunc T r m f fs cs
 | .makeMap _ none=>opMakeMap T r m
 | .makeSlice t l c=>opMakeSlice T r m t l c
 | .slice t x lo hi none=>opSlice T r m t x lo hi
 | .fieldAddr s x f=>opFieldAddr T r m s x f
 | .field s x f=>opField T r m s x f
 | .indexAddr t x ix=>opIndexAddr T r m t x ix
 | .index t x ix=>opIndex T r m t x ix
 | .lookup t x k ok=>opLookup T r m t x k ok
 | .mapUpdate t x k v=>opMapUpdate T r m t x k v
 | .mapEntry t x k=>opMapEntry T r m t x k
 | .entryStore _ x s v=>opEntryStore T r m x s v
 | .extract x i=>opExtract T r m x i
 | .call c=>opCall T r m c
 | _=>none

/-- How a piece of code ends. -/
inductive Ek where
 | norm
 | exit (id:Nat)
 | ret

abbrev CallA:=Nat→List AV→Mem→Option (AV×Mem)

noncomputable def putR (N:Nat) (r:Regs) (dst:Option Nat) (v:AV):Option Regs:=
 match dst with
 | none=>some r
 | some t=>bif Nat.blt t N then some (Tr.put r t (some v)) else none

noncomputable def wantedA (all:List Oper) (r:Regs) (o:Oper):Bool:=
 match o.guard with
 | none=>true
 | some (j, want) => match all[j]? with
   | some p => match p.dst with
     | some t => match r.at t with
       | .bool b=>b == want
       | _=>false
     | none=>false
   | none=>false

/-- One operation in a memory, its call included: the value and the memory that it leaves. -/
noncomputable def doA (T:Tabs) (call:CallA) (r:Regs) (m:Mem) (op:Op):Option (AV×Mem):=
 match opA T r m op with
 | some (.val v m')=>some (v,m')
 | some (.skip m')=>some (.undef,m')
 | some (.call f vs)=>call f vs m
 | none=>none

noncomputable def stepA (T:Tabs) (call:CallA) (N:Nat) (r:Regs) (m:Mem) (o:Oper):Option (Regs×Mem):=
 match doA T call r m o.op with
 | some (v,m')=>(putR N r o.dst v).map fun r=>(r,m')
 | none=>none

noncomputable def opsA (T:Tabs) (call:CallA) (N:Nat) (all:List Oper):List Oper→Regs→Mem→Option (Regs×Mem)
 | [],r,m=>some (r,m)
 | o :: l, r, m =>
   match (bif wantedA all r o then stepA T call N r m o else (putR N r o.dst .undef).map fun r=>(r,m)) with
   | some (r,m)=>opsA T call N all l r m
   | none=>none

/-- The operations for which each operation of a region waits, as the bits of a number. -/
noncomputable def ancE (acc:List Nat):List Edge→Nat
 | []=>0
 | e :: l=>bif Region.binds .any e then 2 ^ e.on ||| acc.getD e.on 0 ||| ancE acc l else ancE acc l

noncomputable def ancL:List Oper→List Nat→List Nat
 | [],acc=>acc
 | o :: l,acc=>ancL l (acc ++ [ancE acc o.after.toList])

/-- Two operations whose order is open do not touch each other's temporaries. -/
noncomputable def pairsA (ops:Array Oper) (anc:Nat) (o:Oper):Nat→List Oper→Bool
 | _,[]=>true
 | i,p :: l=>(Nat.testBit anc i || Oper.apart ops p o) && pairsA ops anc o (i+1) l

/-- Is a region one whose orders the executor may leave open? -/
noncomputable def regA (ops:Array Oper):List Oper→Nat→List Nat→List Oper→Bool
 | [],_,_,_=>true
 | o :: l,j,a :: la,done=>(o.after.toList.all fun e=>!Region.binds .any e || Nat.blt e.on j) && pairsA ops a o 0 done && regA ops l (j+1) la (done ++ [o])
 | _ :: _,_,[],_=>false

/-- What an operation of a drawn region did: the ids that it made, those that it wrote, the one that it read. -/
structure Ent where
 i:Nat
 chain:Bool
 lo:Nat
 hi:Nat
 wr:List Nat
 rd:Option Nat

noncomputable def Ent.touch (e:Ent) (b:Nat):Bool:=(Nat.ble e.lo b && Nat.blt b e.hi) || e.wr.any (Nat.beq b)

/-- Two operations of open order that leave each other's blocks alone. -/
noncomputable def Ent.apart (e f:Ent):Bool:=
 !(e.chain && f.chain) && (match e.rd with | none=>true | some b=>!f.touch b) && (match f.rd with | none=>true | some b=>!e.touch b) &&
 (e.wr.all fun b=>!f.touch b) && (f.wr.all fun b=>!e.touch b)

/-- Does an operation keep its place among those that read or write memory? -/
noncomputable def chainOp:Op→Bool
 | .store ..=>true
 | .mapUpdate ..=>true
 | .mapEntry ..=>true
 | .entryStore ..=>true
 | .insert ..=>true
 | .call c => match c.callee with
   | .builtin .len=>false
   | .builtin .max=>false
   | .builtin .min=>false
   | _=>true
 | _=>false

/-- The block that such an operation reads. -/
noncomputable def readOf (r:Regs) (op:Op):Option Nat:=
 let blk:Option AV→Option Nat:=fun x=>match x with
  | some (.ptr b _)=>some b
  | some (.mp b)=>some b
  | _=>none
 match op with
 | .load _ x=>blk (evA r x)
 | .lookup _ x _ _=>blk (evA r x)
 | .call c => match c.args.toList with
   | [x] => match evA r x with
     | some (.mp b)=>some b
     | _=>none
   | _=>none
 | _=>none

noncomputable def killA (t:Tr Blk):List Nat→Tr Blk
 | []=>t
 | b :: l=>killA (t.put b none) l

noncomputable def backA (m t:Tr Blk):List Nat→Tr Blk
 | []=>t
 | b :: l=>backA m (t.put b (m.get b)) l

/-- The blocks that were made by operations for which this one does not wait. -/
noncomputable def killsA (anc:Nat):List Ent→List Nat
 | []=>[]
 | e :: l=>bif Nat.testBit anc e.i || e.chain || !Nat.blt e.lo e.hi then killsA anc l else e.lo :: killsA anc l

/-- The memory of an operation that reads one block at most. -/
noncomputable def tinyA (m:Mem) (rd:Option Nat):Mem:=
 { blks:=(match rd with | some b=>Tr.put .nil b (m.blks.get b) | none=> .nil),next:=m.next,wr:=[] }

/-- One operation of a drawn region: value, memory, and what it did. -/
noncomputable def openA (T:Tabs) (call:CallA) (r:Regs) (m:Mem) (j anc:Nat) (log:List Ent) (op:Op):Option (AV×Mem×Ent):=
 bif chainOp op then
  let ks:=killsA anc log
  match doA T call r { blks:=killA m.blks ks,next:=m.next,wr:=[] } op with
  | some (v,p)=>some (v,{ blks:=backA m.blks p.blks ks,next:=p.next,wr:=p.wr ++ m.wr },{ i:=j,chain:=true,lo:=m.next,hi:=p.next,wr:=p.wr,rd:=none })
  | none=>none
 else
  let rd:=readOf r op
  match doA T call r (tinyA m rd) op with
  | some (v, p) => bif (Nat.beq p.next m.next || Nat.beq p.next (m.next + 1)) && p.wr.isEmpty then
   some (v,{ blks:=(bif Nat.beq p.next m.next then m.blks else m.blks.put m.next (p.blks.get m.next)),next:=p.next,wr:=m.wr },{ i:=j,chain:=false,lo:=m.next,hi:=p.next,wr:=[],rd })
    else none
  | none=>none

/-- Was there anything that others have to heed? -/
noncomputable def Ent.loud (e:Ent):Bool:=e.chain || e.rd.isSome || Nat.blt e.lo e.hi

noncomputable def drawnA (T:Tabs) (call:CallA) (N:Nat) (all:List Oper):List Oper→Nat→List Nat→List Ent→Regs→Mem→Option (Regs×Mem)
 | [],_,_,_,r,m=>some (r,m)
 | _ :: _,_,[],_,_,_=>none
 | o :: l, j, a :: la, log, r, m =>
   bif wantedA all r o then
    match openA T call r m j a log o.op with
    | some (v, m, e) => bif log.all fun f => Nat.testBit a f.i || f.apart e then
     match putR N r o.dst v with
     | some r=>drawnA T call N all l (j+1) la (bif e.loud then e :: log else log) r m
     | none=>none
      else none
    | none=>none
   else match putR N r o.dst .undef with
    | some r=>drawnA T call N all l (j+1) la log r m
    | none=>none

noncomputable def loopA (body:Regs→Mem→Option (Ek×Regs×Mem)):Nat→Regs→Mem→Option (Ek×Regs×Mem)
 | 0,_,_=>none
 | n + 1, r, m => match body r m with
   | some (.norm,r,m)=>loopA body n r m
   | x=>x

noncomputable def codeA (T:Tabs) (call:CallA) (N:Nat):Code→Regs→Mem→Option (Ek×Regs×Mem)
 | .skip,r,m=>some (.norm,r,m)
 | .region _ ops false,r,m=>(opsA T call N ops.toList ops.toList r m).map fun (r,m)=>(.norm,r,m)
 | .region _ ops true,r,m=>bif regA ops ops.toList 0 (ancL ops.toList []) [] then (drawnA T call N ops.toList ops.toList 0 (ancL ops.toList []) [] r m).map fun (r,m)=>(.norm,r,m) else none
 | .seq a b, r, m => match codeA T call N a r m with
   | some (.norm,r,m)=>codeA T call N b r m
   | x=>x
 | .cond c a b, r, m => match evA r c with
   | some (.bool true)=>codeA T call N a r m
   | some (.bool false)=>codeA T call N b r m
   | _=>none
 | .block id c, r, m => match codeA T call N c r m with
   | some (.exit i,r,m)=>bif Nat.beq i id then some (.norm,r,m) else some (.exit i,r,m)
   | x=>x
 | .loop c,r,m=>loopA (codeA T call N c) 100000 r m
 | .exit id,r,m=>some (.exit id,r,m)
 | .ret,r,m=>some (.ret,r,m)
 | .label _,r,m=>some (.norm,r,m)
 | .scope c,r,m=>codeA T call N c r m
 | _,_,_=>none

noncomputable def resA (T:Tabs) (r:Regs) (m:Mem):List ResultVar→Option (List AV)
 | []=>some []
 | .tmp t :: l=>(resA T r m l).map (r.at t :: ·)
 | .cell a t :: l => match r.at a with
   | .ptr b off=>(loadA T m t b off).bind fun v=>(resA T r m l).map (v :: ·)
   | _=>none

noncomputable def valA:List AV→AV
 | [v]=>v
 | vs=> .tup vs

/-- The old blocks that a call has written. -/
noncomputable def oldA (n:Nat):List Nat→List Nat→List Nat
 | [],l=>l
 | b :: w,l=>bif Nat.blt b n then b :: oldA n w l else oldA n w l

noncomputable def callA (T:Tabs):Nat→CallA
 | 0,_,_,_=>none
 | n + 1, f, vs, m =>
   match T.fn.get f with
   | none=>none
   | some fn =>
     match fn.body with
     | none=>none
     | some c => bif Nat.ble vs.length fn.ntmps then
      match codeA T (callA T n) fn.ntmps c (Tr.ofList 0 vs .nil) { m with wr:=[] } with
      | some (.norm,r,p)=>(resA T r p fn.results.toList).map fun vs=>(valA vs,{ p with wr:=oldA m.next p.wr m.wr })
      | some (.ret,r,p)=>(resA T r p fn.results.toList).map fun vs=>(valA vs,{ p with wr:=oldA m.next p.wr m.wr })
      | _=>none
       else none

end Go.Proofs.YtbdcjhoedhhabaaGreat

