/- Contracts of the functions that the statements reach, part 18. -/
import Derived.Test.YtbdcjhoedhhabaaGreatRows
import Derived.Test.YtbdcjhoedhhabaaGreatF3
set_option linter.unusedSimpArgs false
set_option linter.unusedVariables false

/- Magnitudes: little-endian lists of words of 32 bits, and the numbers that they stand for. Plain arithmetic. -/
namespace Go.Proofs.YtbdcjhoedhhabaaGreat

/-- The number of a list of words. -/
def val:List Nat→Nat
 | []=>0
 | x :: xs=>x+4294967296*val xs

/-- All words fit 32 bits. -/
def Ws (xs:List Nat):Prop:=∀ x∈xs,x<4294967296

/-- No zero word at the end. -/
def Can (xs:List Nat):Prop:=Ws xs∧∀ h:xs ≠ [],xs.getLast h ≠ 0

/-- words without the zeros at the end -/
def trimL (xs:List Nat):List Nat:=(xs.reverse.dropWhile (· == 0)).reverse

/-- The canonical words of a number. -/
def dig (n:Nat):List Nat:=if n=0 then [] else (n % 4294967296) :: dig (n / 4294967296)
termination_by n
decreasing_by omega

theorem Ws.nil:Ws []:=by simp [Ws]
theorem Ws.cons {x:Nat} {xs:List Nat}:Ws (x :: xs)↔x<4294967296∧Ws xs:=by simp [Ws]
theorem Ws.append {xs ys:List Nat}:Ws (xs ++ ys)↔Ws xs∧Ws ys:=by
 simp only [Ws,List.mem_append]
 exact ⟨fun h=>⟨fun x hx=>h x (.inl hx),fun x hx=>h x (.inr hx)⟩,fun h x hx=>hx.elim (h.1 x) (h.2 x)⟩
theorem Ws.take {xs:List Nat} (h:Ws xs) (n:Nat):Ws (xs.take n):=fun x hx=>h x (List.mem_of_mem_take hx)
theorem Ws.drop {xs:List Nat} (h:Ws xs) (n:Nat):Ws (xs.drop n):=fun x hx=>h x (List.mem_of_mem_drop hx)
theorem Ws.set {xs:List Nat} (h:Ws xs) (i y:Nat) (hy:y<4294967296):Ws (xs.set i y):=fun x hx=>by
 rcases List.mem_or_eq_of_mem_set hx with h1 | h1
 ·exact h x h1
 ·omega
theorem Ws.replicate (n:Nat):Ws (List.replicate n 0):=fun x hx=>by have:=(List.mem_replicate.1 hx).2; omega
theorem Ws.get {xs:List Nat} (h:Ws xs) {i:Nat} (hi:i<xs.length):xs[i] < 4294967296:=h _ (List.getElem_mem hi)

@[simp] theorem val_nil:val [] = 0:=rfl
@[simp] theorem val_cons (x:Nat) (xs:List Nat):val (x :: xs)=x+4294967296*val xs:=rfl
theorem val_replicate (n:Nat):val (List.replicate n 0)=0:=by
 induction n with
 | zero=>rfl
 | succ n ih=>simp [List.replicate_succ,ih]

theorem val_append (xs ys:List Nat):val (xs ++ ys)=val xs+4294967296 ^ xs.length*val ys:=by
 induction xs with
 | nil=>simp
 | cons x xs ih =>
   simp only [List.cons_append,val_cons,ih,List.length_cons,Nat.pow_succ]
   rw [Nat.mul_add,Nat.add_assoc,← Nat.mul_assoc,Nat.mul_comm 4294967296 (4294967296 ^ xs.length)]

theorem val_lt {xs:List Nat} (h:Ws xs):val xs<4294967296 ^ xs.length:=by
 induction xs with
 | nil=>simp
 | cons x xs ih =>
   have h':=Ws.cons.1 h
   have:=ih h'.2
   simp only [val_cons,List.length_cons,Nat.pow_succ]
   have:4294967296*(val xs+1)≤4294967296*4294967296 ^ xs.length:=Nat.mul_le_mul_left _ (by omega)
   rw [Nat.mul_comm (4294967296 ^ xs.length)]
   omega

theorem val_take_drop (xs:List Nat) (k:Nat):val xs=val (xs.take k)+4294967296 ^ (xs.take k).length*val (xs.drop k):=by
 rw [←val_append,List.take_append_drop]

theorem val_take_succ (xs:List Nat) (k:Nat) (h:k<xs.length):val (xs.take (k+1))=val (xs.take k)+4294967296 ^ k*xs[k]:=by
 rw [List.take_succ_eq_append_getElem h,val_append]
 simp
 rw [Nat.min_eq_left (by omega)]

theorem val_drop_succ (xs:List Nat) (k:Nat) (h:k<xs.length):val (xs.drop k)=xs[k] + 4294967296*val (xs.drop (k+1)):=by
 rw [List.drop_eq_getElem_cons h,val_cons]

theorem val_snoc (xs:List Nat) (y:Nat):val (xs ++ [y])=val xs+4294967296 ^ xs.length*y:=by
 rw [val_append]; simp

/-- A value changed at one place. -/
theorem val_set (xs:List Nat) (i y:Nat) (h:i<xs.length):val (xs.set i y)+4294967296 ^ i*xs[i] = val xs+4294967296 ^ i*y:=by
 induction xs generalizing i with
 | nil=>simp at h
 | cons x xs ih =>
   cases i with
   | zero=>simp; omega
   | succ i =>
     have:=ih i (by simpa using h)
     simp only [List.set_cons_succ,val_cons,List.getElem_cons_succ,Nat.pow_succ]
     have e1:4294967296 ^ i*4294967296*xs[i]'(by simpa using h)=4294967296*(4294967296 ^ i*xs[i]'(by simpa using h)):=by
      rw [Nat.mul_comm (4294967296 ^ i),Nat.mul_assoc]
     have e2:4294967296 ^ i*4294967296*y=4294967296*(4294967296 ^ i*y):=by
      rw [Nat.mul_comm (4294967296 ^ i),Nat.mul_assoc]
     rw [e1,e2]
     omega

theorem trimL_take (xs:List Nat) (k:Nat) (hk:k≤xs.length) (hz:∀ j,k≤j→(h:j<xs.length)→xs[j] = 0) (hl:0<k→(h:k - 1<xs.length)→xs[k - 1] ≠ 0):trimL xs=xs.take k:=by
 have e:xs=xs.take k ++ List.replicate (xs.length - k) 0:=by
  apply List.ext_getElem
  ·simp; omega
  ·intro i h1 h2
   by_cases hi:i<k
   ·rw [List.getElem_append_left (by simp; omega)]; simp
   ·rw [List.getElem_append_right (by simp; omega)]
    simp
    exact hz i (by omega) h1
 have hd:(List.replicate (xs.length - k) 0 ++ (xs.take k).reverse).dropWhile (· == 0)=(xs.take k).reverse:=by
  rw [List.dropWhile_append_of_pos (by simp)]
  by_cases h0:k=0
  ·subst h0; simp
  ·have h1:(xs.take k).reverse=xs[k-1]'(by omega) :: (xs.take (k-1)).reverse:=by
    have:xs.take k=xs.take (k - 1) ++ [xs[k-1]'(by omega)]:=by
     have:=List.take_succ_eq_append_getElem (l:=xs) (i:=k - 1) (by omega)
     rwa [show k - 1+1=k from by omega] at this
    rw [this]; simp
   rw [h1,List.dropWhile_cons_of_neg (by simpa using hl (by omega) (by omega))]
 unfold trimL
 conv=>lhs; rw [e]
 rw [List.reverse_append,List.reverse_replicate,hd,List.reverse_reverse]

/-- What trim leaves, said once. -/
theorem trimL_spec (xs:List Nat):∃ k,k≤xs.length∧trimL xs=xs.take k∧(∀ j,k≤j→(h:j<xs.length)→xs[j] = 0)∧(0<k→(h:k - 1<xs.length)→xs[k - 1] ≠ 0):=by
 have main:∀ n,n≤xs.length→(∀ j,n≤j→(h:j<xs.length)→xs[j] = 0)→
  ∃ k,k≤xs.length∧(∀ j,k≤j→(h:j<xs.length)→xs[j] = 0)∧(0<k→(h:k - 1<xs.length)→xs[k - 1] ≠ 0):=by
  intro n
  induction n with
  | zero=>exact fun h1 h2=>⟨0,h1,h2,fun h=>absurd h (by omega)⟩
  | succ n ih =>
    intro h1 h2
    by_cases hz:xs[n]'(by omega)=0
    ·refine ih (by omega) (fun j hj hl=>?_)
     by_cases e:j=n
     ·subst e; exact hz
     ·exact h2 j (by omega) hl
    ·exact ⟨n+1,h1,h2,fun _ _=>by simpa using hz⟩
 obtain ⟨k,h1,h2,h3⟩:=main xs.length (Nat.le_refl _) (fun j h1 h2=>absurd h2 (by omega))
 exact ⟨k,h1,trimL_take xs k h1 h2 h3,h2,h3⟩

theorem trimL_len (xs:List Nat):(trimL xs).length≤xs.length:=by
 obtain ⟨k,h1,h2,_⟩:=trimL_spec xs
 rw [h2,List.length_take]; omega

theorem val_zeros (xs:List Nat) (h:∀ j,(h:j<xs.length)→xs[j] = 0):val xs=0:=by
 induction xs with
 | nil=>rfl
 | cons x xs ih =>
   have h0:=h 0 (by simp)
   have:=ih (fun j hj=>by have:=h (j+1) (by simpa using hj); simpa using this)
   simp at h0
   simp [h0,this]

theorem val_trimL (xs:List Nat):val (trimL xs)=val xs:=by
 obtain ⟨k,h1,h2,h3,_⟩:=trimL_spec xs
 rw [h2,val_take_drop xs k,val_zeros (xs.drop k)]
 ·simp
 ·intro j hj
  rw [List.getElem_drop]
  exact h3 _ (by omega) (by simp at hj; omega)

theorem can_trimL {xs:List Nat} (h:Ws xs):Can (trimL xs):=by
 obtain ⟨k,h1,h2,_,h4⟩:=trimL_spec xs
 rw [h2]
 refine ⟨h.take k,fun hne=>?_⟩
 have hk:0<k:=by
  rcases Nat.eq_zero_or_pos k with h0 | h0
  ·subst h0; simp at hne
  ·exact h0
 rw [List.getLast_eq_getElem]
 have hlen:(xs.take k).length=k:=by rw [List.length_take]; omega
 have:=h4 hk (by omega)
 rw [List.getElem_take]
 have e:(xs.take k).length - 1=k - 1:=by omega
 simp only [e]
 exact this

theorem Can.nil:Can []:=⟨Ws.nil,fun h=>absurd rfl h⟩
theorem Can.tail {x:Nat} {xs:List Nat} (h:Can (x :: xs)):Can xs:=by
 refine ⟨(Ws.cons.1 h.1).2,fun hne=>?_⟩
 have:=h.2 (by simp)
 rwa [List.getLast_cons hne] at this
theorem Can.pos {xs:List Nat} (h:Can xs) (hne:xs ≠ []):0<val xs:=by
 induction xs with
 | nil=>exact absurd rfl hne
 | cons x xs ih =>
   by_cases h0:xs = []
   ·subst h0
    have:=h.2 (by simp)
    simp at this
    simp; omega
   ·have:=ih h.tail h0
    simp; omega

theorem Can.eq {xs:List Nat}:∀ {ys:List Nat},Can xs→Can ys→val xs=val ys→xs=ys:=by
 induction xs with
 | nil =>
   intro ys _ hy he
   rcases ys with _ | ⟨y,ys⟩
   ·rfl
   ·have:=hy.pos (by simp); simp at he this; omega
 | cons x xs ih =>
   intro ys hx hy he
   rcases ys with _ | ⟨y,ys⟩
   ·have:=hx.pos (by simp); simp at he this; omega
   ·have h1:=(Ws.cons.1 hx.1).1
    have h2:=(Ws.cons.1 hy.1).1
    simp only [val_cons] at he
    have e1:x=y:=by omega
    have e2:val xs=val ys:=by omega
    rw [e1,ih hx.tail hy.tail e2]

theorem dig_zero:dig 0 = []:=by rw [dig]; simp
theorem dig_pos {n:Nat} (h:n ≠ 0):dig n=(n % 4294967296) :: dig (n / 4294967296):=by rw [dig,if_neg h]

theorem val_dig (n:Nat):val (dig n)=n:=by
 induction n using Nat.strongRecOn with
 | _ n ih =>
   by_cases h:n=0
   ·subst h; rw [dig_zero]; rfl
   ·rw [dig_pos h,val_cons,ih _ (by omega)]; omega

theorem can_dig (n:Nat):Can (dig n):=by
 induction n using Nat.strongRecOn with
 | _ n ih =>
   by_cases h:n=0
   ·subst h; rw [dig_zero]; exact Can.nil
   ·rw [dig_pos h]
    have:=ih (n / 4294967296) (by omega)
    refine ⟨Ws.cons.2 ⟨by omega,this.1⟩,fun _=>?_⟩
    by_cases h2:n / 4294967296=0
    ·simp only [h2,dig_zero,List.getLast_singleton]; omega
    ·have hne:dig (n / 4294967296) ≠ []:=by rw [dig_pos h2]; simp
     rw [List.getLast_cons hne]
     exact this.2 hne

theorem Can.dig {xs:List Nat} (h:Can xs):xs=dig (val xs):=h.eq (can_dig _) (val_dig _).symm
theorem trimL_dig {xs:List Nat} (h:Ws xs):trimL xs=dig (val xs):=by
 rw [←val_trimL]; exact (can_trimL h).dig
theorem dig_nil_iff (n:Nat):dig n = []↔n=0:=by
 constructor
 ·intro h; have:=val_dig n; rw [h] at this; simpa using this.symm
 ·rintro rfl; exact dig_zero
theorem dig_len_pos (n:Nat):0<(dig n).length↔0<n:=by
 rw [List.length_pos_iff]
 have:=dig_nil_iff n
 constructor
 ·intro h
  rcases Nat.eq_zero_or_pos n with h0 | h0
  ·exact absurd (this.2 h0) h
  ·exact h0
 ·intro h e; have:=this.1 e; omega

/-- The length of the canonical words is the least that holds the number. -/
theorem dig_len_le {n k:Nat} (h:n<4294967296 ^ k):(dig n).length≤k:=by
 induction k generalizing n with
 | zero=>simp at h; subst h; simp [dig_zero]
 | succ k ih =>
   by_cases h0:n=0
   ·subst h0; simp [dig_zero]
   ·rw [dig_pos h0,List.length_cons]
    have:n / 4294967296<4294967296 ^ k:=by
     rw [Nat.div_lt_iff_lt_mul (by omega)]
     rwa [Nat.pow_succ] at h
    have:=ih this
    omega

theorem can_lower {xs:List Nat} (h:Can xs) (hne:xs ≠ []):4294967296 ^ (xs.length - 1)≤val xs:=by
 induction xs with
 | nil=>exact absurd rfl hne
 | cons x xs ih =>
   by_cases h0:xs = []
   ·subst h0
    have:=h.pos (by simp)
    simp at this ⊢; omega
   ·have h1:=ih h.tail h0
    have hl:0<xs.length:=List.length_pos_iff.2 h0
    simp only [List.length_cons,Nat.add_sub_cancel,val_cons]
    have e:xs.length=(xs.length - 1)+1:=by omega
    rw [e,Nat.pow_succ,Nat.mul_comm]
    have:=Nat.mul_le_mul_left 4294967296 h1
    omega

theorem val_lt_of_len {xs ys:List Nat} (hx:Ws xs) (hy:Can ys) (h:xs.length<ys.length):val xs<val ys:=by
 have h1:=val_lt hx
 have h2:=can_lower hy (by intro e; subst e; simp at h)
 have:4294967296 ^ xs.length≤4294967296 ^ (ys.length - 1):=Nat.pow_le_pow_right (by omega) (by omega)
 omega

theorem dig_len_mono {m n:Nat} (h:m≤n):(dig m).length≤(dig n).length:=by
 refine dig_len_le (Nat.lt_of_le_of_lt h ?_)
 have:=val_lt (can_dig n).1
 rwa [val_dig] at this

theorem dig_val_len {xs:List Nat} (h:Ws xs):(dig (val xs)).length≤xs.length:=dig_len_le (val_lt h)

/-- One round of a sum: the word and the carry of s. -/
theorem carry_step (zs:List Nat) (k s cy S:Nat) (hl:zs.length=k) (hS:val zs+4294967296 ^ k*s=S) :
 val (zs ++ [s % 4294967296])+4294967296 ^ (k+1)*(s / 4294967296)=S:=by
 rw [val_snoc,hl,Nat.pow_succ,← hS,Nat.mul_assoc,Nat.add_assoc,← Nat.mul_add]
 congr 2
 omega

theorem add_step (zs P Q:List Nat) (k cy:Nat) (hl:zs.length=k) (hv:val zs+4294967296 ^ k*cy=val (P.take k)+val (Q.take k)) (hp:k<P.length) (hq:k<Q.length) :
 val (zs ++ [(cy+P[k] + Q[k]) % 4294967296])+4294967296 ^ (k+1)*((cy+P[k] + Q[k]) / 4294967296)=val (P.take (k+1))+val (Q.take (k+1)):=by
 refine carry_step zs k _ cy _ hl ?_
 rw [val_take_succ P k hp,val_take_succ Q k hq,Nat.mul_add,Nat.mul_add]
 omega

theorem add_step1 (zs P Q:List Nat) (k cy:Nat) (hl:zs.length=k) (hv:val zs+4294967296 ^ k*cy=val (P.take k)+val (Q.take k)) (hp:k<P.length) (hq:Q.length≤k) :
 val (zs ++ [(cy+P[k]) % 4294967296])+4294967296 ^ (k+1)*((cy+P[k]) / 4294967296)=val (P.take (k+1))+val (Q.take (k+1)):=by
 refine carry_step zs k _ cy _ hl ?_
 rw [List.take_of_length_le (show Q.length≤k from hq)] at hv
 rw [val_take_succ P k hp,List.take_of_length_le (show Q.length≤k+1 by omega),Nat.mul_add]
 omega

theorem take_set_succ (zs:List Nat) (k y:Nat) (h:k<zs.length):(zs.set k y).take (k+1)=zs.take k ++ [y]:=by
 rw [List.take_succ_eq_append_getElem (by simpa using h)]
 simp [List.take_set_of_le]

theorem val_take_set (zs:List Nat) (k y:Nat) (h:k<zs.length):val ((zs.set k y).take (k+1))=val (zs.take k)+4294967296 ^ k*y:=by
 rw [take_set_succ zs k y h,val_snoc,List.length_take,Nat.min_eq_left (by omega)]

/-- One round of a difference. -/
theorem sub_step (zs P:List Nat) (k d x y b b' QK:Nat) (hz:k<zs.length) (hp:k<P.length) (hx:x=P[k]) (hd:d+y+b=x+4294967296*b')
 (hv:val (zs.take k)+QK=val (P.take k)+4294967296 ^ k*b) :
 val ((zs.set k d).take (k+1))+(QK+4294967296 ^ k*y)=val (P.take (k+1))+4294967296 ^ (k+1)*b':=by
 rw [val_take_set zs k d hz,val_take_succ P k hp,← hx,Nat.pow_succ]
 have e:4294967296 ^ k*(d+y+b)=4294967296 ^ k*(x+4294967296*b'):=by rw [hd]
 simp only [Nat.mul_add] at e
 rw [Nat.mul_assoc]
 omega
theorem val_take_more (Q:List Nat) (k:Nat) (h:Q.length≤k):val (Q.take (k+1))=val (Q.take k):=by
 rw [List.take_of_length_le (show Q.length≤k from h),List.take_of_length_le (show Q.length≤k+1 by omega)]
theorem sub_end (zs P Q:List Nat) (b:Nat) (hz:Ws zs) (hl:zs.length=P.length) (hle:val Q≤val P) (hv:val zs+val Q=val P+4294967296 ^ P.length*b):val zs=val P - val Q∧b=0:=by
 have h1:=val_lt hz
 rw [hl] at h1
 rcases Nat.eq_zero_or_pos b with h | h
 ·subst h; simp at hv; omega
 ·have:4294967296 ^ P.length*1≤4294967296 ^ P.length*b:=Nat.mul_le_mul_left _ h
  omega

theorem mul_lt_sq' (x y:Nat) (hx:x<4294967296) (hy:y<4294967296):(x:Int)*(y:Int)≤18446744065119617025:=by
 have:=Nat.mul_le_mul (show x≤4294967295 by omega) (show y≤4294967295 by omega)
 rw [←Int.natCast_mul]
 omega
/-- One round of the inner loop of a product: the word at place p holds s % B behind it, s / B is carried on. -/
theorem mul_step (zs:List Nat) (p s c S:Nat) (hp:p<zs.length) (hv:val zs+4294967296 ^ p*c=S) (T:Nat) (hs:s=c+T+zs[p]) :
 val (zs.set p (s % 4294967296))+4294967296 ^ (p+1)*(s / 4294967296)=S+4294967296 ^ p*T:=by
 have h1:=val_set zs p (s % 4294967296) hp
 have e1:4294967296 ^ (p+1)*(s / 4294967296)=4294967296 ^ p*(4294967296*(s / 4294967296)):=by rw [Nat.pow_succ,Nat.mul_assoc]
 have e2:4294967296 ^ p*(s % 4294967296)+4294967296 ^ p*(4294967296*(s / 4294967296))=4294967296 ^ p*s:=by rw [←Nat.mul_add]; congr 1; omega
 have e3:4294967296 ^ p*s=4294967296 ^ p*c+4294967296 ^ p*T+4294967296 ^ p*zs[p]:=by rw [hs,Nat.mul_add,Nat.mul_add]
 omega

theorem pow_mul_take (i j:Nat) (x:Nat) (ys:List Nat) (hj:j<ys.length) :
 4294967296 ^ i*(x*val (ys.take (j+1)))=4294967296 ^ i*(x*val (ys.take j))+4294967296 ^ (i+j)*(x*ys[j]):=by
 rw [val_take_succ ys j hj,Nat.mul_add,Nat.mul_add,Nat.pow_add]
 congr 1
 rw [Nat.mul_assoc]
 congr 1
 rw [←Nat.mul_assoc,← Nat.mul_assoc,Nat.mul_comm x]

/-- The end of a round of the outer loop: the carry goes to a word that was 0. -/
theorem mul_end (zs:List Nat) (p c S:Nat) (hp:p<zs.length) (h0:zs[p] = 0) (hv:val zs+4294967296 ^ p*c=S):val (zs.set p c)=S:=by
 have h1:=val_set zs p c hp
 rw [h0] at h1
 omega
theorem mul_take_succ (xs:List Nat) (i b:Nat) (h:i<xs.length):val (xs.take (i+1))*b=val (xs.take i)*b+4294967296 ^ i*(xs[i] * b):=by
 rw [val_take_succ xs i h,Nat.add_mul,Nat.mul_assoc]

/-- Lists that agree behind place p are ordered by their words at p. -/
theorem val_lt_at (xs ys:List Nat) (hl:xs.length=ys.length) (hx:Ws xs) (p:Nat) (hp:p<xs.length) (hd:xs.drop (p+1)=ys.drop (p+1)) (h:xs[p] < ys[p]'(by omega)):val xs<val ys:=by
 have hq:p<ys.length:=by omega
 have a1:=val_take_drop xs p
 have a2:=val_take_drop ys p
 rw [val_drop_succ xs p hp,List.length_take,Nat.min_eq_left (by omega)] at a1
 rw [val_drop_succ ys p hq,List.length_take,Nat.min_eq_left (by omega),← hd] at a2
 have b1:=val_lt (hx.take p)
 rw [List.length_take,Nat.min_eq_left (by omega)] at b1
 have c1:4294967296 ^ p*(xs[p] + 1)≤4294967296 ^ p*ys[p]:=Nat.mul_le_mul_left _ h
 rw [Nat.mul_add] at a1 a2 c1
 omega

/-- One round of a division by a word. -/
theorem short_step (zs xs:List Nat) (p d r x q r':Nat) (hz:p<zs.length) (hx:p<xs.length) (hX:x=xs[p]) (hq:q=(r*4294967296+x) / d) (hr:r'=(r*4294967296+x) % d)
 (hv:val (zs.drop (p+1))*d+r=val (xs.drop (p+1))):val ((zs.set p q).drop p)*d+r'=val (xs.drop p):=by
 rw [val_drop_succ (zs.set p q) p (by simpa using hz),val_drop_succ xs p hx,← hv,← hX,List.getElem_set_self,List.drop_set_of_lt (by omega)]
 have e:=Nat.div_add_mod (r*4294967296+x) d
 rw [←hq,← hr] at e
 rw [Nat.add_mul,Nat.mul_add,Nat.mul_assoc,Nat.mul_comm q d]
 omega

/-- The order of two numbers, as Go says it. -/
def cmpN (a b:Nat):Int:=if a<b then -1 else if a=b then 0 else 1
theorem cmpN_lt {a b:Nat} (h:a<b):cmpN a b = -1:=by simp [cmpN,h]
theorem cmpN_gt {a b:Nat} (h:b<a):cmpN a b=1:=by unfold cmpN; rw [if_neg (by omega),if_neg (by omega)]
theorem cmpN_eq {a b:Nat} (h:a=b):cmpN a b=0:=by unfold cmpN; rw [if_neg (by omega),if_pos h]
end Go.Proofs.YtbdcjhoedhhabaaGreat

/- The inner functions of package integer, first part: trim, Clone, signed. -/
namespace Go.Proofs.YtbdcjhoedhhabaaGreat
open Go.RowKit

set_option maxHeartbeats 400000 in
theorem trim_any (w:World) (X:Nat→Prop) (v:Value) (xs:List Nat) (h:Words w X v xs) :
 Calls Tryz.prog 426 #[v] w fun e w'=>∃ v',e = .returned v'∧Words w X v' (trimL xs)∧w=w':=by
 have hm:=h.lt_max
 obtain ⟨A,c,rfl,hc,_,H⟩:=h.open_
 go_enter Tryz.func426,Tryz.ntmps426
 go_wp2
 go_loop [3] (fun i=>∃ k:Nat,k≤xs.length∧(∀ j,k≤j→(h:j<xs.length)→xs[j] = 0)∧i = .int .i64 k) (fun i=>(intOf i).toNat)
 case atStart=>exact ⟨xs.length,Nat.le_refl _,fun j h1 h2=>absurd h2 (by omega),rfl⟩
 case round=>
  obtain ⟨k,hk,hz,rfl⟩:=hrel
  have Hz:=Lib.hid hz
  clear hz
  by_cases h0:k=0
  ·subst h0
   go_wp2
   go_ret
   exact ⟨_,rfl,trimL_take xs 0 hk Hz.out (by omega) ▸ H.take hk,rfl⟩
  ·obtain ⟨a,rfl,_,_,hcell⟩:=H.at_ (k:=k - 1) (by omega)
   have hp:(0:Int)<(k:Int):=by omega
   by_cases hx:xs[k - 1] = 0
   ·have hb:(((xs[k - 1]:Nat):Int) == 0)=true:=by simp [hx]
    have HX:=Lib.hid hx
    clear hx
    go_wp2
    go_round
    case rel=>exact ⟨k - 1,by omega,fun j h1 h2=>if e:j=k - 1 then by subst e; exact HX.out else Hz.out j (by omega) h2,by go_num⟩
    case measure=>simp [intOf]; omega
   ·have hb:(((xs[k - 1]:Nat):Int) == 0)=false:=by simp; omega
    go_wp2
    go_ret
    exact ⟨_,rfl,trimL_take xs k hk Hz.out (fun _ _=>hx) ▸ H.take hk,rfl⟩

theorem info_u32:(Tryz.prog.info? 305).map (fun i=>(i.zero,i.size,i.bytes))=some (some (.int .u32 0),1,4):=by kernel_rfl

set_option maxHeartbeats 400000 in
theorem clone_any (w:World) (X:Nat→Prop) (v:Value) (xs:List Nat) (h:Words w X v xs) (hsz:xs.length≤10000000000000) :
 Calls Tryz.prog 493 #[v] w fun e w'=>∃ v',e = .returned v'∧Words w' (Old w) v' xs∧Below w.heap.size w w':=by
 have hm:=h.lt_max
 obtain ⟨i0,hi,hz0,hz1,hz2⟩:=info_parts info_u32
 obtain ⟨A,c,rfl,hc,_,H⟩:=h.open_
 have he:=@Lib.run_eql_slice_nil Tryz.prog
 rcases A with _ | a
 ·have h0:xs = []:=by
   rcases xs with _ | ⟨x,xs⟩
   ·rfl
   ·obtain ⟨a,h,_⟩:=H.at_ (k:=0) (by simp)
    cases h
  subst h0
  go_enter Tryz.func493,Tryz.ntmps493
  go_wp2
  go_ret
  exact ⟨_,rfl,Words.nil w _,Below.refl _ _⟩
 ·go_enter Tryz.func493,Tryz.ntmps493
  go_wp2_with (at_builtin; refine wpList_append_own _ rfl _ _ 209 rfl w.heap.size 305 i0 (.int .u32 0) 1 4 Tryz.underlying209 hi hz0 hz1 hz2 rfl (by decide) _ _ _ rfl (World.ownsRow_lit w #[] 0 (Nat.le_refl _) (by unfold maxLen; omega) rfl) a xs.length c (nums .u32 xs) rfl (by simp) (fun j u hu=>(Words.below H ((Below.refl _ _).alloc (Nat.le_refl _) _)).news j u hu) (nums_one _ _) (by unfold maxLen; omega) (by omega) (by simp) ?_)
  intro v1 w1 hown hgrow _
  go_wp2
  go_ret
  refine ⟨_,rfl,Words.of_own (by simpa using hown) H.2 (fun b h1 _ _=>by unfold Old; omega),((Below.refl _ _).alloc (Nat.le_refl _) _).grown hgrow (by simp) (by simp [Value.ownBlock])⟩

/-- A struct of a sign and words, as it lies. -/
def IntR (w:World) (X:Nat→Prop) (v:Value) (neg:Bool) (xs:List Nat):Prop:=∃ s,v = .agg #[.bool neg,s]∧Words w X s xs
/-- The integer of a sign and words. -/
def sv (neg:Bool) (xs:List Nat):Int:=if neg then -((val xs:Nat):Int) else ((val xs:Nat):Int)
/-- The canonical struct of an integer. -/
def IntV (w:World) (X:Nat→Prop) (v:Value) (z:Int):Prop:=IntR w X v (decide (z<0)) (dig z.natAbs)

theorem sv_abs (neg:Bool) (xs:List Nat):(sv neg xs).natAbs=val xs:=by unfold sv; split <;> omega
theorem sv_dig (z:Int):sv (decide (z<0)) (dig z.natAbs)=z:=by
 unfold sv; rw [val_dig]
 by_cases h:z<0 <;> simp [h] <;> omega
theorem sv_mul (n1 n2:Bool) (xs ys zs:List Nat) (h:val zs=val xs*val ys):sv (!n1 == n2) zs=sv n1 xs*sv n2 ys:=by
 unfold sv
 rw [h]
 cases n1 <;> cases n2 <;> simp [Int.neg_mul,Int.mul_neg]
theorem sv_trim (n:Bool) (xs:List Nat):sv n (trimL xs)=sv n xs:=by unfold sv; rw [val_trimL]
theorem sv_not (n:Bool) (xs:List Nat):sv (!n) xs = - sv n xs:=by cases n <;> simp [sv]
theorem sv_false (xs:List Nat):sv false xs=(val xs:Nat):=by simp [sv]
theorem sv_true (xs:List Nat):sv true xs = -((val xs:Nat):Int):=by simp [sv]
theorem sv_lt (neg:Bool) (xs:List Nat) (h:Ws xs):decide (sv neg xs<0)=(neg && decide (0<(trimL xs).length)):=by
 rw [trimL_dig h]
 have:=dig_len_pos (val xs)
 unfold sv
 by_cases h1:0<val xs
 ·have h2:=this.2 h1
  cases neg <;> simp [h2] <;> omega
 ·have h2:¬ 0<(dig (val xs)).length:=fun h=>h1 (this.1 h)
  cases neg <;> simp [h2] <;> omega

section
variable {X Y:Nat→Prop} {w w':World} {v:Value} {neg:Bool} {xs:List Nat} {z:Int}
theorem IntR.keep (h:IntR w X v neg xs) (hk:Keep X w w'):IntR w' X v neg xs:=let ⟨s,e,hs⟩:=h; ⟨s,e,hs.keep hk⟩
theorem IntR.below (h:IntR w X v neg xs) (hk:Below w.heap.size w w'):IntR w' X v neg xs:=let ⟨s,e,hs⟩:=h; ⟨s,e,hs.below hk⟩
theorem IntR.weak (h:IntR w X v neg xs) (hY:∀ b,b<w.heap.size→Y b→X b):IntR w Y v neg xs:=let ⟨s,e,hs⟩:=h; ⟨s,e,hs.weak hY⟩
theorem IntR.open_ (h:IntR w X v neg xs):∃ A c,v = .agg #[.bool neg, .slice A xs.length c]∧xs.length≤c∧c≤maxLen∧Words w X (.slice A xs.length c) xs:=by
 obtain ⟨s,rfl,hs⟩:=h
 obtain ⟨A,c,rfl,h1,h2,h3⟩:=hs.open_
 exact ⟨A,c,rfl,h1,h2,h3⟩
theorem IntR.drewN (h:IntR w X v neg xs) (n:Nat):IntR (w.drewN n) X v neg xs:=h
theorem IntV.keep (h:IntV w X v z) (hk:Keep X w w'):IntV w' X v z:=IntR.keep h hk
theorem IntV.below (h:IntV w X v z) (hk:Below w.heap.size w w'):IntV w' X v z:=IntR.below h hk
theorem IntV.weak (h:IntV w X v z) (hY:∀ b,b<w.heap.size→Y b→X b):IntV w Y v z:=IntR.weak h hY
theorem IntV.drewN (h:IntV w X v z) (n:Nat):IntV (w.drewN n) X v z:=h
end

theorem keep_set2 {X:Nat→Prop} {w:World} {g:Nat} (hg:X g) (u u':Value):Keep X w ((w.setCell ⟨g,0,none⟩ u).setCell ⟨g,1,none⟩ u'):=
 ((Keep.refl _ _).set (.inl hg) _).set (.inl hg) _
theorem below_set2 {B:Nat} {w0 w:World} (h:Below B w0 w) {g:Nat} (hg:B≤g) (u u':Value):Below B w0 ((w.setCell ⟨g,0,none⟩ u).setCell ⟨g,1,none⟩ u'):=
 (h.setCell hg _).setCell hg _

/-- The shape of a canonical struct, its parts letters. -/
theorem IntV.op {X:Nat→Prop} {w:World} {v:Value} {z:Int} (h:IntV w X v z):∃ (b:Bool) (A:Option Addr) (n c:Nat),v = .agg #[.bool b, .slice A n c]∧IntV w X (.agg #[.bool b, .slice A n c]) z:=by
 obtain ⟨A,c,rfl,_,_,H⟩:=IntR.open_ h
 exact ⟨_,A,_,c,rfl,h⟩

/-- An integer handed on through the result's own cells. -/
theorem IntV.stored {X Y:Nat→Prop} {w:World} {v:Value} {z:Int} (h:IntV w X v z) {g:Nat} (hg:X g) (u u':Value) (hY:∀ b,b<w.heap.size→Y b→X b):IntV ((w.setCell ⟨g,0,none⟩ u).setCell ⟨g,1,none⟩ u') Y v z:=
 (h.keep (keep_set2 hg u u')).weak (fun b hb=>hY b (by simpa [World.setCell] using hb))

set_option maxHeartbeats 400000 in
theorem signed_any (w:World) (X:Nat→Prop) (neg:Bool) (v:Value) (xs:List Nat) (h:Words w X v xs) (hsz:xs.length≤10000000000000) :
 Calls Tryz.prog 427 #[.bool neg,v] w fun e w'=>∃ v',e = .returned v'∧IntV w' (Old w) v' (sv neg xs)∧Below w.heap.size w w':=by
 go_enter Tryz.func427,Tryz.ntmps427
 go_wp2_with fail
 refine (trim_any _ X v xs (h.below ((Below.refl _ _).alloc (Nat.le_refl _) _))).mono ?_
 rintro e w' ⟨v1,rfl,h1,rfl⟩
 go_wp2_with fail
 refine (clone_any _ X v1 _ h1 (Nat.le_trans (trimL_len xs) hsz)).mono ?_
 rintro e w2 ⟨v2,rfl,h2,hb2⟩
 obtain ⟨A,c,rfl,hc,_,H2⟩:=h2.open_
 have L2:=(Loc.new _ _ _).below hb2
 have c2:=L2.cell
 have f2:=L2.frz
 have hB:Below w.heap.size w w2:=((Below.refl _ _).alloc (Nat.le_refl _) _).trans (hb2.mono (by simp))
 cases neg
 all_goals
  go_wp2_with fail
  refine bodyPost_ret (by simp [results,Tryz.results427,go_sem,c2,f2] <;> rfl) rfl ⟨_,rfl,?_,?_⟩
  ·refine ⟨_,by rw [sv_lt _ _ h.2]; simp; rfl,?_⟩
   rw [sv_abs,← trimL_dig h.2]
   exact (H2.keep (keep_set2 (by simp [Old]) _ _)).weak (by intro b _; simp [Old]; omega)
  ·exact below_set2 hB (Nat.le_refl _) _ _
end Go.Proofs.YtbdcjhoedhhabaaGreat

