/- Contracts of the functions that the statements reach, part 29. -/
import Derived.Test.YtbdcjhoedhhabaaGreatRows
import Derived.Test.YtbdcjhoedhhabaaGreatD26
import Derived.Test.YtbdcjhoedhhabaaGreatD28
set_option linter.unusedSimpArgs false
set_option linter.unusedVariables false

/- Lists of bounds in memory; what a table of bounds has to say. -/
namespace Go.Proofs.YtbdcjhoedhhabaaGreat
open Go.RowKit

/-- A list of triples of integers (set, questions that are left, value) that is read. -/
def Bels (w : World) (v : Value) (l : List (Int × Int × Int)) : Prop :=
 ∃ A cap, v = .slice A l.length cap ∧ l.length ≤ cap ∧ cap ≤ maxLen ∧ (l.length ≠ 0 → ∃ a, A = some a ∧ a.block < w.heap.size ∧ ∀ (i : Nat) (x : Int × Int × Int), l[i]? = some x → w.cell? (a.add (i * 3)) = some (.int .i64 x.1) ∧ w.cell? ((a.add (i * 3)).add 1) = some (.int .i64 x.2.1) ∧ w.cell? ((a.add (i * 3)).add 2) = some (.int .i64 x.2.2)) ∧ ∀ x ∈ l, (-9223372036854775808 ≤ x.1 ∧ x.1 ≤ 9223372036854775807) ∧ (-9223372036854775808 ≤ x.2.1 ∧ x.2.1 ≤ 9223372036854775807) ∧ (-9223372036854775808 ≤ x.2.2 ∧ x.2.2 ≤ 9223372036854775807)

theorem addr_two (a : Addr) : a.add 2 = { block := a.block, off := a.off + 2, spot := none } := by simp [Addr.add]
theorem Bels.keep {w w' : World} {v : Value} {l : List (Int × Int × Int)} (h : Bels w v l) (hk : Keep (fun _ => False) w w') : Bels w' v l := by
 obtain ⟨A, cap, hv, h1, h2, h3, h4⟩ := h
 refine ⟨A, cap, hv, h1, h2, fun hn => ?_, h4⟩
 obtain ⟨a, ha, hb, hc⟩ := h3 hn
 exact ⟨a, ha, Nat.lt_of_lt_of_le hb hk.size, fun i z hz => ⟨cell_keep (hc i z hz).1 (by rw [add_block]; exact hb) id hk, cell_keep (hc i z hz).2.1 (by rw [add_block, add_block]; exact hb) id hk, cell_keep (hc i z hz).2.2 (by rw [add_block, add_block]; exact hb) id hk⟩⟩
theorem Bels.op {w : World} {v : Value} {l : List (Int × Int × Int)} (h : Bels w v l) : ∃ (A : Option Addr) (cap : Nat), v = .slice A l.length cap ∧ Bels w (.slice A l.length cap) l ∧ l.length ≤ cap ∧ cap ≤ maxLen := by
 have h0 := h
 obtain ⟨A, cap, rfl, h1, h2, -⟩ := h
 exact ⟨A, cap, rfl, h0, h1, h2⟩
theorem Bels.at {w : World} {l : List (Int × Int × Int)} {A : Option Addr} {n cap : Nat} (h : Bels w (.slice A n cap) l) {i : Nat} {z : Int × Int × Int} (hz : l[i]? = some z) : ∃ a : Addr, A = some a ∧ a.block < w.heap.size ∧ w.cell? (a.add (i * 3)) = some (.int .i64 z.1) ∧ w.cell? ((a.add (i * 3)).add 1) = some (.int .i64 z.2.1) ∧ w.cell? ((a.add (i * 3)).add 2) = some (.int .i64 z.2.2) ∧ (-9223372036854775808 ≤ z.1 ∧ z.1 ≤ 9223372036854775807) ∧ (-9223372036854775808 ≤ z.2.1 ∧ z.2.1 ≤ 9223372036854775807) ∧ (-9223372036854775808 ≤ z.2.2 ∧ z.2.2 ≤ 9223372036854775807) := by
 obtain ⟨A', cap', hv, h1, h2, h3, h4⟩ := h
 injection hv with e1 e2 e3
 subst e1
 obtain ⟨a, ha, hb, hc⟩ := h3 (by have := (List.getElem?_eq_some_iff.1 hz).1; omega)
 have h9 := h4 z (List.mem_of_getElem? hz)
 exact ⟨a, ha, hb, (hc i z hz).1, (hc i z hz).2.1, (hc i z hz).2.2, h9.1, h9.2.1, h9.2.2⟩

/-- The parts of a set by a view, without the empty ones. -/
def nzp (S : Nat) (v : List Int) : List Int := nzs (parts v S v.length v.length)
theorem nzs_append (xs ys : List Int) : nzs (xs ++ ys) = nzs xs ++ nzs ys := by unfold nzs; exact List.filter_append ..
theorem nzs_parts (v : List Int) (S N c : Nat) (hN : ∀ (i : Nat) (z : Int), v[i]? = some z → z < N) : ∀ j, nzs (parts v S (N + j) c) = nzs (parts v S N c)
 | 0 => rfl
 | j + 1 => by
   have e1 : parts v S (N + (j + 1)) c = parts v S (N + j) c ++ [((pSet v S ((N + j : Nat) : Int) c : Nat) : Int)] := by
    unfold parts
    rw [← Nat.add_assoc, List.range_succ, List.map_append]
    rfl
   have e2 : pSet v S ((N + j : Nat) : Int) c = 0 := by
    apply Classical.byContradiction
    intro h
    obtain ⟨s, -, s2, -⟩ := (pSet_nz v S _ c).1 h
    have := hN s _ s2
    omega
   rw [e1, e2, nzs_append, nzs_parts v S N c hN j]
   exact List.append_nil _
/-- The two sides go through the same parts. -/
theorem nzp_eq {v : List Int} {S : Nat} (h1 : 1 ≤ v.length) (hcg : canGo 0 v) : nzs (parts v S ((lmax v).toNat + 1) v.length) = nzp S v := by
 have hle := canGo_le v 0 (by omega) hcg
 have hne : v ≠ [] := by intro h; rw [h] at h1; simp at h1
 obtain ⟨i, hi, he⟩ := List.getElem_of_mem (lmax_mem hne)
 have h2 := hle i (lmax v) (by rw [← he]; exact List.getElem?_eq_getElem hi)
 have h3 := nzs_parts v S ((lmax v).toNat + 1) v.length (fun i z hz => by
  have := lmax_ge (List.mem_of_getElem? hz)
  omega) (v.length - ((lmax v).toNat + 1))
 rw [Nat.add_sub_cancel' (by omega)] at h3
 exact h3.symm

/-- The sum of the values of parts. -/
def sumB (f : Lit → Option Int) (k : Int) : List Int → Int
 | [] => 0
 | y :: l => (f (keyL y k)).getD 0 + sumB f k l
theorem sumB_append (f : Lit → Option Int) (k : Int) : ∀ xs ys : List Int, sumB f k (xs ++ ys) = sumB f k xs + sumB f k ys
 | [], ys => by simp [sumB]
 | y :: l, ys => by
   rw [List.cons_append]
   show _ + sumB f k (l ++ ys) = (_ + sumB f k l) + _
   rw [sumB_append f k l ys]
   omega
theorem sumB_range {f : Lit → Option Int} (hf : ∀ kl d, f kl = some d → 0 ≤ d ∧ d ≤ 1099511627776) (k : Int) : ∀ zs : List Int, 0 ≤ sumB f k zs ∧ sumB f k zs ≤ 1099511627776 * (zs.length : Int)
 | [] => by simp [sumB]
 | y :: l => by
   have ih := sumB_range hf k l
   have hx : 0 ≤ (f (keyL y k)).getD 0 ∧ (f (keyL y k)).getD 0 ≤ 1099511627776 := by
    cases hq : f (keyL y k) with
    | none => simp
    | some d => have := hf _ d hq; simpa using this
   rw [List.length_cons]
   unfold sumB
   omega
/-- The values of the parts are known and not greater together than a bound. -/
def BndV (f : Lit → Option Int) (k b : Int) (zs : List Int) : Prop := (∀ y ∈ zs, ∃ d, f (keyL y k) = some d) ∧ sumB f k zs ≤ b
/-- So it is for each question. -/
def BndP (L : List (List Int)) (S : Nat) (k b : Int) (f : Lit → Option Int) : Prop := ∀ v ∈ L, BndV f (k - 1) b (nzp S v)

/-- The values that the first entries of a table tell. -/
noncomputable def bvF (l : List (Int × Int × Int)) : Nat → Lit → Option Int
 | 0 => fun _ => none
 | k + 1 => match l[k]? with
   | some x => putL (bvF l k) (keyL x.1 x.2.1) x.2.2
   | none => bvF l k
theorem bvF_next {l : List (Int × Int × Int)} {k : Nat} {x : Int × Int × Int} (h : l[k]? = some x) : bvF l (k + 1) = putL (bvF l k) (keyL x.1 x.2.1) x.2.2 := by
 show (match l[k]? with | some x => putL (bvF l k) (keyL x.1 x.2.1) x.2.2 | none => bvF l k) = _
 rw [h]
theorem bvF_range {l : List (Int × Int × Int)} : ∀ k, (∀ (i : Nat) x, i < k → l[i]? = some x → 0 ≤ x.2.2 ∧ x.2.2 ≤ 1099511627776) → ∀ kl d, bvF l k kl = some d → 0 ≤ d ∧ d ≤ 1099511627776
 | 0, _, kl, d, h => by cases h
 | k + 1, hl, kl, d, h => by
   have ih := bvF_range k (fun i x hi => hl i x (by omega)) kl d
   cases hq : l[k]? with
   | none =>
     have e : bvF l (k + 1) = bvF l k := by
      show (match l[k]? with | some x => putL (bvF l k) (keyL x.1 x.2.1) x.2.2 | none => bvF l k) = _
      rw [hq]
     rw [e] at h
     exact ih h
   | some x =>
     rw [bvF_next hq] at h
     by_cases e : kl = keyL x.1 x.2.1
     ·rw [e, putL_same] at h
      injection h with h
      have := hl k x (by omega) hq
      omega
     ·rw [putL_other _ e] at h
      exact ih h

/-- Two entries stand in order. -/
def OrdB (x y : Int × Int × Int) : Prop := y.2.1 < x.2.1 ∨ (y.2.1 = x.2.1 ∧ x.1 < y.1)
theorem ordC_neg {s1 k1 v1 s2 k2 v2 : Int} : ordC s1 k1 s2 k2 < 0 ↔ OrdB (s1, k1, v1) (s2, k2, v2) := by
 unfold ordC cmpC OrdB
 simp only
 split <;> split <;> (try split) <;> omega
/-- Entries stand in order, as far as c. -/
def DscTo (l : List (Int × Int × Int)) (c : Nat) : Prop := ∀ (i : Nat) (x y : Int × Int × Int), i + 1 < c → l[i]? = some x → l[i + 1]? = some y → OrdB x y
theorem DscTo.all {l : List (Int × Int × Int)} {c n : Nat} (h : DscTo l c) (hc : n ≤ c) : DscTo l n := fun i x y hi hx hy => h i x y (by omega) hx hy
theorem DscTo.next {l : List (Int × Int × Int)} {c : Nat} {x y : Int × Int × Int} (h : DscTo l c) (hc : 1 ≤ c) (hx : l[c - 1]? = some x) (hy : l[c]? = some y) (hlt : OrdB x y) : DscTo l (c + 1) := fun i x' y' hi hx' hy' => by
 by_cases e : i + 1 < c
 ·exact h i x' y' e hx' hy'
 ·obtain rfl : i = c - 1 := by omega
  have e1 : c - 1 + 1 = c := by omega
  rw [e1] at hy'
  rw [hx] at hx'
  rw [hy] at hy'
  injection hx' with hx'
  injection hy' with hy'
  subst hx' hy'
  exact hlt

/-- What is asked may be asked. -/
def AskOk (ns : Int) (L G : List (List Int)) (k : Int) : Prop := MenuOk ns L ∧ GainOk ns G ∧ 0 ≤ k ∧ k ≤ 8
/-- An entry is right by itself. -/
def GoodB (ns : Int) (G : List (List Int)) (x : Int × Int × Int) : Prop := 0 ≤ x.2.1 ∧ (1 ≤ x.1 ∧ x.1 ≤ ((2 ^ ns.toNat - 1 : Nat) : Int)) ∧ leafG G x.1.toNat G.length ≤ x.2.2 ∧ x.2.2 ≤ 1099511627776
/-- The bound is proved. -/
def TopB (ns : Int) (k : Int) (f : Lit → Option Int) (bound : Int) : Prop := ∃ d, f (keyL ((2 ^ ns.toNat - 1 : Nat) : Int) k) = some d ∧ d ≤ bound
/-- All that a table has to say. -/
def AllB (ns : Int) (L G : List (List Int)) (k : Int) (l : List (Int × Int × Int)) (bound : Int) : Prop := (∀ x ∈ l, GoodB ns G x) ∧ (∀ x ∈ l, 0 < x.2.1 → BndP L x.1.toNat x.2.1 x.2.2 (bvF l l.length)) ∧ TopB ns k (bvF l l.length) bound
/-- The code of a table of bounds. -/
structure BeC (ns : Int) (L G : List (List Int)) (k : Int) (l : List (Int × Int × Int)) (bound r : Int) : Prop where
 a : ¬ AskOk ns L G k → r = 1
 b : AskOk ns L G k → 4096 < l.length → r = 4
 c : AskOk ns L G k → ¬ 4096 < l.length → ¬ DscTo l l.length → r = 10
 d : AskOk ns L G k → ¬ 4096 < l.length → DscTo l l.length → ¬ AllB ns L G k l bound → r = 13
 e : AskOk ns L G k → ¬ 4096 < l.length → DscTo l l.length → AllB ns L G k l bound → r = 0
section
variable {ns : Int} {L G : List (List Int)} {k : Int} {l : List (Int × Int × Int)} {bound r r' : Int}
theorem BeC.eq (h : BeC ns L G k l bound r) (h' : BeC ns L G k l bound r') : r = r' := by
 by_cases h1 : AskOk ns L G k
 ·by_cases h2 : 4096 < l.length
  ·rw [h.b h1 h2, h'.b h1 h2]
  ·by_cases h3 : DscTo l l.length
   ·by_cases h4 : AllB ns L G k l bound
    ·rw [h.e h1 h2 h3 h4, h'.e h1 h2 h3 h4]
    ·rw [h.d h1 h2 h3 h4, h'.d h1 h2 h3 h4]
   ·rw [h.c h1 h2 h3, h'.c h1 h2 h3]
 ·rw [h.a h1, h'.a h1]
theorem BeC.one (h : ¬ AskOk ns L G k) : BeC ns L G k l bound 1 := ⟨fun _ => rfl, fun h' => absurd h' h, fun h' => absurd h' h, fun h' => absurd h' h, fun h' => absurd h' h⟩
theorem BeC.four (h : AskOk ns L G k) (h2 : 4096 < l.length) : BeC ns L G k l bound 4 := ⟨fun h' => absurd h h', fun _ _ => rfl, fun _ h' => absurd h2 h', fun _ h' => absurd h2 h', fun _ h' => absurd h2 h'⟩
theorem BeC.ten (h : AskOk ns L G k) (h2 : ¬ 4096 < l.length) (h3 : ¬ DscTo l l.length) : BeC ns L G k l bound 10 := ⟨fun h' => absurd h h', fun _ h' => absurd h' h2, fun _ _ _ => rfl, fun _ _ h' => absurd h' h3, fun _ _ h' => absurd h' h3⟩
theorem BeC.bad (h : AskOk ns L G k) (h2 : ¬ 4096 < l.length) (h3 : DscTo l l.length) (h4 : ¬ AllB ns L G k l bound) : BeC ns L G k l bound 13 := ⟨fun h' => absurd h h', fun _ h' => absurd h' h2, fun _ _ h' => absurd h3 h', fun _ _ _ _ => rfl, fun _ _ _ h' => absurd h' h4⟩
theorem BeC.ok (h : AskOk ns L G k) (h2 : ¬ 4096 < l.length) (h3 : DscTo l l.length) (h4 : AllB ns L G k l bound) : BeC ns L G k l bound 0 := ⟨fun h' => absurd h h', fun _ h' => absurd h' h2, fun _ _ h' => absurd h3 h', fun _ _ _ h' => absurd h4 h', fun _ _ _ _ => rfl⟩
end
theorem leafG_pos (G : List (List Int)) (S : Nat) : ∀ c, 0 ≤ leafG G S c
 | 0 => Int.le_refl _
 | c + 1 => by
   have := leafG_pos G S c
   show 0 ≤ max (leafG G S c) _
   omega
end Go.Proofs.YtbdcjhoedhhabaaGreat

/- adaptive.bounded. -/
namespace Go.Proofs.YtbdcjhoedhhabaaGreat
open Go.RowKit
attribute [local go_sem ↓] Go.wp_at_zero Go.wp_at_succ

theorem nzs_next {Z : List Int} {q : Nat} {z : Int} (h : Z[q]? = some z) : nzs (Z.take (q + 1)) = nzs (Z.take q) ++ nzs [z] := by
 rw [List.take_add_one, h, nzs_append]
 rfl
theorem nzs_zero : nzs [0] = [] := rfl
theorem nzs_one {z : Int} (h : z ≠ 0) : nzs [z] = [z] := nzs_all (fun y hy => by rcases List.mem_singleton.1 hy with rfl; exact h)
theorem nzs_take_len (Z : List Int) (q : Nat) : (nzs (Z.take q)).length ≤ q := Nat.le_trans (List.length_filter_le ..) (by rw [List.length_take]; omega)
theorem sumB_one (f : Lit → Option Int) (k y d : Int) (h : f (keyL y k) = some d) : sumB f k [y] = d := by
 unfold sumB sumB
 rw [h]
 simp

set_option maxRecDepth 100000 in
set_option maxHeartbeats 8000000 in
theorem bounded_any (w : World) (ns : Int) (vm : Value) (L : List (List Int)) (S : Nat) (k b : Int) (g n0 c0 : Nat) (f : Lit → Option Int) (h : IMat w vm L) (hm : MenuOk ns L) (hM : MapF w 249 g n0 c0 f) (hS : S < 4611686018427387904) (hk : 0 < k ∧ k ≤ 9223372036854775807) (hf : ∀ kl d, f kl = some d → 0 ≤ d ∧ d ≤ 1099511627776) :
 Calls Tryz.prog 149 #[.agg #[.int .i64 ns, vm], .map (some g), .agg #[.int .i64 (S : Int), .int .i64 k, .int .i64 b]] w fun e w' => Tells (BndP L S k b f) e ∧ Below w.heap.size w w' := by
 have H := Lib.hid h
 have HMN := Lib.hid hm
 have HMP := Lib.hid hM
 have HF := Lib.hid hf
 obtain ⟨A, cap, rfl, h, l1, l2⟩ := h.op
 clear h hm hM hf
 obtain ⟨m, hml⟩ : ∃ m, L.length = m := ⟨_, rfl⟩
 have HM := Lib.hid hml
 have H2 : Hid (IMat w (.slice A m cap) L) := by have h9 := H.out; rw [hml] at h9; exact h9
 rw [hml] at l1 ⊢
 have hm8 : m ≤ 8 := by have := HMN.out.2.1; omega
 clear hml H
 obtain ⟨P, hP⟩ : ∃ P, BndP L S k b f = P := ⟨_, rfl⟩
 rw [hP]
 have HP : Hid (P ↔ BndP L S k b f) := by rw [← hP]; exact Iff.rfl
 clear hP
 have hgw : g < w.heap.size := HMP.out.lt
 have kw : IntKind.i64.wrap (k - 1) = k - 1 := by rw [IntKind.wrap_i64]; omega
 have L1 := made1 w #[.int .i64 ns, .slice A m cap] 84
 have L2 := made2 w (.cells #[.int .i64 ns, .slice A m cap] 84) #[.int .i64 (S : Int), .int .i64 k, .int .i64 b] 241
 go_enter Tryz.func149, Tryz.ntmps149
 go_wp2_with fail
 go_loopw [17] (fun i wr => ∃ (c : Nat), c ≤ m ∧ i = .int .i64 c ∧ Hid (∀ (i : Nat) (v : List Int), i < c → L[i]? = some v → BndV f (k - 1) b (nzp S v)) ∧ Hid (Loc wr w.heap.size 84 #[.int .i64 ns, .slice A m cap]) ∧ Hid (Loc wr (w.heap.size + 1) 241 #[.int .i64 (S : Int), .int .i64 k, .int .i64 b]) ∧ Below w.heap.size w wr) (fun i _ => m - (intOf i).toNat)
 case atStart => exact ⟨0, by omega, rfl, Lib.hid (fun i v hi => absurd hi (by omega)), Lib.hid L1.to, Lib.hid L2, bel⟩
 case round =>
  clear L1 L2
  obtain ⟨c, hc, rfl, hall, hL1, hL2, hB⟩ := hrel
  obtain ⟨wo, rfl⟩ : ∃ wo : World, wo = wr := ⟨_, rfl⟩
  have y5 := hB.size; (try simp only [zs] at y5)
  by_cases hlt : c < m
  ·obtain ⟨v, he⟩ : ∃ l, L[c]? = some l := ⟨_, List.getElem?_eq_getElem (by rw [HM.out]; exact hlt)⟩
   obtain ⟨a, E, d, rfl, hab, hcell, hnum, l5, l6⟩ := (H2.out.keep (.of_below hB)).at he
   have HE := Lib.hid he
   have HNUM := Lib.hid hnum
   have hvm := HMN.out.2.2 v (List.mem_of_getElem? he)
   have hns := HMN.out.1
   have HVL : Hid (v.length ≤ 62) := by show _ ≤ _; omega
   have HVL1 : Hid (1 ≤ v.length) := by show _ ≤ _; omega
   have HCG : Hid (canGo 0 v) := hvm.2
   have k0 : (0 : Int) ≤ (c : Int) := by omega
   have k1 : (c : Int) < (m : Int) := by omega
   obtain ⟨e1, f1, -⟩ := Loc.all hL2.out (w' := wo)
   clear he hnum hvm hns
   go_wp2_with fail
   refine (parts_any _ _ v S (HNUM.out.keep kp) HVL1.out HVL.out HCG.out hS).mono ?_
   rintro e w2 ⟨⟨v2, rfl, hv2⟩, hb2⟩
   have y2 := hb2.size; (try simp only [zs] at y2)
   have HB2 : Hid (Below w.heap.size w w2) := hB.trans (hb2.mono (by omega))
   have HL1 : Hid (Loc w2 w.heap.size 84 #[.int .i64 ns, .slice (some a) m cap]) := Loc.below hL1.out hb2
   have HL2 : Hid (Loc w2 (w.heap.size + 1) 241 #[.int .i64 (S : Int), .int .i64 k, .int .i64 b]) := Loc.below hL2.out hb2
   have HZ : Hid (nzs (parts v S ((lmax v).toNat + 1) v.length) = nzp S v) := nzp_eq HVL1.out HCG.out
   have HZN : Hid ((parts v S ((lmax v).toNat + 1) v.length).length ≤ 62) := by
    show _ ≤ _
    have hle := canGo_le v 0 (by omega) HCG.out
    have h1 := HVL1.out
    have h62 := HVL.out
    have hne : v ≠ [] := by intro h; rw [h] at h1; simp at h1
    obtain ⟨i, hi, he⟩ := List.getElem_of_mem (lmax_mem hne)
    have h2 := hle i (lmax v) (by rw [← he]; exact List.getElem?_eq_getElem hi)
    rw [parts_len]
    omega
   obtain ⟨Z, hZZ⟩ : ∃ Z, parts v S ((lmax v).toNat + 1) v.length = Z := ⟨_, rfl⟩
   rw [hZZ] at hv2 HZ HZN
   obtain ⟨B2, c2, rfl, -, l7, l8⟩ := hv2.out.op
   obtain ⟨N, hN⟩ : ∃ q, Z.length = q := ⟨_, rfl⟩
   have HN := Lib.hid hN
   have HV3 : Hid (IntsV w2 (.slice B2 N c2) Z) := by have h9 := hv2.out; rw [hN] at h9; exact h9
   have hN62 : N ≤ 62 := by have := HZN.out; omega
   rw [hN] at l7 ⊢
   have HALL : Hid (BndV f (k - 1) b (nzp S v) → ∀ (i : Nat) (v : List Int), i < c + 1 → L[i]? = some v → BndV f (k - 1) b (nzp S v)) := fun hq i v' hi hv' => by
    by_cases hh : i < c
    ·exact hall.out i v' hh hv'
    ·obtain rfl : i = c := by omega
     rw [HE.out] at hv'
     injection hv' with hv'
     subst hv'
     exact hq
   have HBAD : Hid (¬ BndV f (k - 1) b (nzp S v) → ¬ P) := fun hq hp => hq (HP.out.1 hp v (List.mem_of_getElem? HE.out))
   clear e1 f1 hv2 hN hZZ hab hcell l5 l6
   go_wp2_with fail
   go_loopw [9, 26] (fun sv i wr => ∃ (q : Nat) (s : Int), q ≤ N ∧ i = .int .i64 q ∧ sv = .int .i64 s ∧ Hid (sumB f (k - 1) (nzs (Z.take q)) = s) ∧ Hid (∀ y ∈ nzs (Z.take q), ∃ d, f (keyL y (k - 1)) = some d) ∧ Hid (Loc wr w.heap.size 84 #[.int .i64 ns, .slice (some a) m cap]) ∧ Hid (Loc wr (w.heap.size + 1) 241 #[.int .i64 (S : Int), .int .i64 k, .int .i64 b]) ∧ Below w.heap.size w wr ∧ Below w2.heap.size w2 wr) (fun _ i _ => N - (intOf i).toNat)
   case atStart => exact ⟨0, 0, by omega, rfl, rfl, Lib.hid rfl, Lib.hid (fun y hy => by simp [nzs] at hy), HL1, HL2, HB2.out, bel⟩
   case round =>
    clear HL1 HL2 hL1 hL2
    obtain ⟨q, s, hq, rfl, rfl, hs, hkn, hL1, hL2, hB6, hB7⟩ := hrel
    obtain ⟨wp, rfl⟩ : ∃ wp : World, wp = wr := ⟨_, rfl⟩
    have y6 := hB6.size; (try simp only [zs] at y6)
    have y7 := hB7.size; (try simp only [zs] at y7)
    obtain ⟨e1, f1, -⟩ := Loc.all hL2.out (w' := wp)
    by_cases hlt2 : q < N
    ·obtain ⟨z, hz⟩ : ∃ z, Z[q]? = some z := ⟨_, List.getElem?_eq_getElem (by rw [HN.out]; exact hlt2)⟩
     obtain ⟨a2, rfl, hab2, hcell2, zr, -⟩ := (HV3.out.keep (.of_below hB7)).at hz
     have HNQ := Lib.hid (nzs_next hz)
     have k2 : (0 : Int) ≤ (q : Int) := by omega
     have k3 : (q : Int) < (N : Int) := by omega
     have zr2 : -9223372036854775808 ≤ z ∧ z ≤ 9223372036854775807 := by
      obtain ⟨_, _, _, _, _, _, h6⟩ := HV3.out
      exact h6 z (List.mem_of_getElem? hz)
     clear hz
     by_cases hz0 : z = 0
     ·have d1 : (z == 0) = true := beq_iff_eq.2 hz0
      have HSX : Hid (sumB f (k - 1) (nzs (Z.take (q + 1))) = s) := by show _ = _; rw [HNQ.out, hz0, nzs_zero, List.append_nil]; exact hs.out
      have HKX : Hid (∀ y ∈ nzs (Z.take (q + 1)), ∃ d, f (keyL y (k - 1)) = some d) := by
       show ∀ y ∈ _, _
       rw [HNQ.out, hz0, nzs_zero, List.append_nil]
       exact hkn.out
      clear hz0
      go_wp2_with fail
      go_roundw
      case rel => exact ⟨q + 1, s, by omega, by go_num, rfl, HSX, HKX, hL1, hL2, bel, bel⟩
      case measure => simp only [intOf]; omega
     have d1 : (z == 0) = false := beq_eq_false_iff_ne.2 hz0
     have hrun := (HMP.out.below hB6 hgw).look keyed_pair Tryz.underlying247 (key_pair (a := z) (b := k - 1) zr2 (by omega))
     obtain ⟨o, ho⟩ : ∃ o, f (keyL z (k - 1)) = o := ⟨_, rfl⟩
     rw [ho] at hrun
     have HO := Lib.hid ho
     have HZ1 := Lib.hid (nzs_one hz0)
     have HZM : Hid (z ∈ nzp S v) := by
      show z ∈ _
      rw [← HZ.out, ← List.take_append_drop (q + 1) Z, nzs_append, HNQ.out, HZ1.out]
      simp
     clear ho hz0
     cases o with
     | none =>
       have hr2 : (Instr.lookup 247 (.map (some g)) (.agg #[.int .i64 z, .int .i64 (k - 1)]) true).run Tryz.prog wp = .ok (.tuple #[.int .i64 0, .bool false]) wp := hrun
       have HV := Lib.hid (HBAD.out (fun h => by obtain ⟨d, hd⟩ := h.1 z HZM.out; rw [HO.out] at hd; cases hd))
       clear hrun
       go_wp2_with fail
       go_ret
       exact ⟨Tells.no HV.out, bel⟩
     | some d =>
       have hr2 : (Instr.lookup 247 (.map (some g)) (.agg #[.int .i64 z, .int .i64 (k - 1)]) true).run Tryz.prog wp = .ok (.tuple #[.int .i64 d, .bool true]) wp := hrun
       have hdr := HF.out _ d HO.out
       have hsr := sumB_range HF.out (k - 1) (nzs (Z.take q))
       have hsl := nzs_take_len Z q
       rw [hs.out] at hsr
       have kv : IntKind.i64.wrap (s + d) = s + d := by rw [IntKind.wrap_i64]; omega
       have HSX : Hid (sumB f (k - 1) (nzs (Z.take (q + 1))) = s + d) := by show _ = _; rw [HNQ.out, HZ1.out, sumB_append, hs.out, sumB_one f (k - 1) z d HO.out]
       have HKX : Hid (∀ y ∈ nzs (Z.take (q + 1)), ∃ d, f (keyL y (k - 1)) = some d) := by
        show ∀ y ∈ _, _
        rw [HNQ.out, HZ1.out]
        intro y hy
        rcases List.mem_append.1 hy with h | h
        ·exact hkn.out y h
        ·rcases List.mem_singleton.1 h with rfl
         exact ⟨d, HO.out⟩
       clear hrun hdr hsr hsl
       go_wp2_with fail
       go_roundw
       case rel => exact ⟨q + 1, s + d, by omega, by go_num, by first | rfl | rw [kv], HSX, HKX, hL1, hL2, bel, bel⟩
       case measure => simp only [intOf]; omega
    ·obtain rfl : q = N := by omega
     have HTK : Hid (nzs (Z.take q) = nzp S v) := by show _ = _; rw [List.take_of_length_le (by rw [HN.out]; exact Nat.le_refl _)]; exact HZ.out
     by_cases hsb : b < s
     ·have d1 : decide (b < s) = true := decide_eq_true hsb
      have HV := Lib.hid (HBAD.out (fun h => by have h9 := h.2; rw [← HTK.out, hs.out] at h9; omega))
      clear hsb
      go_wp2_with fail
      go_ret
      exact ⟨Tells.no HV.out, bel⟩
     ·have d1 : decide (b < s) = false := decide_eq_false hsb
      have HNX := Lib.hid (HALL.out (by
       rw [← HTK.out]
       exact ⟨hkn.out, by rw [hs.out]; omega⟩))
      clear hsb
      go_wp2_with fail
      go_roundw
      case rel => exact ⟨c + 1, by omega, by go_num, HNX, hL1, hL2, bel⟩
      case measure => simp only [intOf]; omega
  ·obtain rfl : c = m := by omega
   have HV : Hid P := HP.out.2 (fun v hv => by
    obtain ⟨j, hj, rfl⟩ := List.getElem_of_mem hv
    exact hall.out j _ (by rw [← HM.out]; exact hj) (List.getElem?_eq_getElem hj))
   go_wp2_with fail
   go_ret
   exact ⟨Tells.yes HV.out, hB⟩
end Go.Proofs.YtbdcjhoedhhabaaGreat

