/- Contracts of the functions that the statements reach, part 28. -/
import Derived.Test.YtbdcjhoedhhabaaGreatRows
import Derived.Test.YtbdcjhoedhhabaaGreatC2
import Derived.Test.YtbdcjhoedhhabaaGreatC23
import Derived.Test.YtbdcjhoedhhabaaGreatC24
import Derived.Test.YtbdcjhoedhhabaaGreatC27
set_option linter.unusedSimpArgs false
set_option linter.unusedVariables false

/- adaptive.everything, adaptive.allJoint; the code of a proof of hardness. -/
namespace Go.Proofs.YtbdcjhoedhhabaaGreat
open Go.RowKit
attribute [local go_sem ↓] Go.wp_at_zero Go.wp_at_succ

set_option maxHeartbeats 4000000 in
theorem everything_any (w : World) (n : Nat) (vm : Value) (hn : n ≤ 62) (hv : ∃ A m c, vm = Value.slice A m c) :
 Calls Tryz.prog 123 #[.agg #[.int .i64 (n : Int), vm]] w fun e w' => e = .returned (.int .i64 ((2 ^ n - 1 : Nat) : Int)) ∧ Below w.heap.size w w' := by
 obtain ⟨A, m, c, rfl⟩ := hv
 have s1 := shl_one hn
 have hp : 1 ≤ 2 ^ n ∧ 2 ^ n < 9223372036854775808 := ⟨Nat.one_le_two_pow, Nat.lt_of_le_of_lt (Nat.pow_le_pow_right (by decide) hn) (by decide)⟩
 obtain ⟨p, hpe⟩ : ∃ p : Nat, 2 ^ n = p := ⟨_, rfl⟩
 rw [hpe] at s1 hp ⊢
 have k1 : IntKind.i64.wrap ((p : Int) - 1) = ((p - 1 : Nat) : Int) := by rw [IntKind.wrap_i64]; omega
 clear hpe
 go_enter Tryz.func123, Tryz.ntmps123
 go_wp2_with fail
 go_ret
 exact ⟨rfl, bel⟩

/-- All questions. -/
def allQ (m : Nat) : List Int := (List.range m).map fun (k : Nat) => (k : Int)
theorem allQ_next (m : Nat) : allQ (m + 1) = allQ m ++ [(m : Int)] := by
 unfold allQ
 rw [List.range_succ, List.map_append]
 rfl
theorem allQ_mem {m : Nat} {q : Int} : q ∈ allQ m ↔ 0 ≤ q ∧ q < (m : Int) := by
 unfold allQ
 rw [List.mem_map]
 constructor
 ·rintro ⟨k, hk, rfl⟩
  have := List.mem_range.1 hk
  omega
 ·rintro ⟨h1, h2⟩
  exact ⟨q.toNat, List.mem_range.2 (by omega), by omega⟩
theorem allQ_len (m : Nat) : (allQ m).length = m := by simp [allQ]

set_option maxRecDepth 100000 in
set_option maxHeartbeats 8000000 in
theorem alljoint_any (w : World) (n : Nat) (vm : Value) (L : List (List Int)) (h : IMat w vm L) (hm : MenuOk (n : Int) L) :
 Calls Tryz.prog 122 #[.agg #[.int .i64 (n : Int), vm]] w fun e w' => (∃ (g cap : Nat) (J : List Int), e = .returned (.slice (some ⟨g, 0, none⟩) n cap) ∧ Hid (RowG w' g cap J) ∧ Hid (JRes n L (allQ L.length) J)) ∧ Below w.heap.size w w' := by
 have H := Lib.hid h
 have HMN := Lib.hid hm
 obtain ⟨A, cap0, rfl, h, l1, l2⟩ := h.op
 clear h hm
 obtain ⟨m, hml⟩ : ∃ m, L.length = m := ⟨_, rfl⟩
 have HM := Lib.hid hml
 have H2 : Hid (IMat w (.slice A m cap0) L) := by have h9 := H.out; rw [hml] at h9; exact h9
 rw [hml] at l1 ⊢
 have hm8 : m ≤ 8 := by have := HMN.out.2.1; omega
 clear hml H
 have L1 := made1 w #[.int .i64 (n : Int), .slice A m cap0] 84
 go_enter Tryz.func122, Tryz.ntmps122
 go_wp2_with fail
 go_loopw [3, 10] (fun ov i wr => ∃ (c : Nat) (vo : Value), c ≤ m ∧ i = .int .i64 c ∧ ov = vo ∧ Hid (Own1 wr (w.heap.size + 1) 3 vo ((allQ c).map (Value.int .i64))) ∧ Hid (Loc wr w.heap.size 84 #[.int .i64 (n : Int), .slice A m cap0]) ∧ Below w.heap.size w wr ∧ w.heap.size + 1 ≤ wr.heap.size) (fun _ i _ => m - (intOf i).toNat)
 case atStart => exact ⟨0, _, by omega, rfl, rfl, Lib.hid (Own1.nil _ _ _), Lib.hid L1.to, bel, by simp only [World.size_alloc]; omega⟩
 case round =>
  clear L1
  obtain ⟨c, vo, hc, rfl, hvo, hO, hL, hB, hsz⟩ := hrel
  rw [hvo]
  clear hvo
  obtain ⟨wo, rfl⟩ : ∃ wo : World, wo = wr := ⟨_, rfl⟩
  have y5 := hB.size; (try simp only [zs] at y5)
  obtain ⟨Av, mv, cv, rfl⟩ : ∃ A m c, vo = Value.slice A m c := by
   rcases hO.out.2 with ⟨rfl, -⟩ | ⟨g, cap, cur, rfl, -⟩
   ·exact ⟨_, _, _, rfl⟩
   ·exact ⟨_, _, _, rfl⟩
  have hlen : ((allQ c).map (Value.int .i64)).length = c := by rw [List.length_map, allQ_len]
  by_cases hlt : c < m
  ·have k1 : (c : Int) < (m : Int) := by omega
   have hownA : Own1 (wo.alloc (.cells #[.int .i64 (c : Int)] 3)) (w.heap.size + 1) 3 (.slice Av mv cv) ((allQ c).map (Value.int .i64)) := hO.out.below (below1 _ _)
   go_wp2_with (at_builtin; refine wpList_pushZ _ rfl _ _ rfl (w.heap.size + 1) _ ((allQ c).map (Value.int .i64)) rfl hownA wo.heap.size (.int .i64 (c : Int)) rfl (made1 wo #[.int .i64 (c : Int)] 3) rfl (by omega) (by simp only [World.size_alloc]; omega) ?_)
   intro gA capA w8 hoa8 hg8 ho8 hl8
   have y8 := hg8.size
   (try simp only [World.size_alloc] at y8)
   have HO8 : Hid (Own1 w8 (w.heap.size + 1) 3 (.slice (some ⟨gA, 0, none⟩) (c + 1) capA) ((allQ (c + 1)).map (Value.int .i64))) := by
    show Own1 _ _ _ _ _
    rw [allQ_next, List.map_append]
    have h9 := hoa8
    (try rw [hlen] at h9)
    exact h9
   have HL8 : Hid (Loc w8 w.heap.size 84 #[.int .i64 (n : Int), .slice A m cap0]) := loc_other hownA hg8 (Loc.below hL.out (below1 _ _)) (by decide)
   have HB8 : Hid (Below w.heap.size w w8) := below_own (hB.alloc y5 _) hownA hg8 (by omega) (by simp only [World.size_alloc]; omega)
   clear hownA hoa8 hg8 ho8
   go_wp2_with fail
   go_roundw
   case rel => exact ⟨c + 1, _, by omega, by go_num, rfl, HO8, HL8, HB8.out, by omega⟩
   case measure => simp only [intOf]; omega
  ·obtain rfl : c = m := by omega
   obtain ⟨e1, f1, -⟩ := Loc.all hL.out (w' := wo)
   have HV : Hid (IntsV wo (.slice Av mv cv) (allQ c)) := hO.out.intsV (fun z hz => by have := allQ_mem.1 hz; omega)
   go_wp2_with fail
   refine (joint_any _ n _ _ L (allQ c) (H2.out.keep kp) HMN.out (HV.out.keep kp) (fun q hq => by rw [HM.out]; exact allQ_mem.1 hq)).mono ?_
   rintro e w9 ⟨⟨g, cap, J, rfl, hR, hJ⟩, hb9⟩
   have y9 := hb9.size; (try simp only [zs] at y9)
   go_wp2_with fail
   go_ret
   exact ⟨⟨g, cap, J, rfl, hR, hJ⟩, bel⟩

/-- Members are together where no question splits the set. -/
theorem tog_iff {n : Nat} {L : List (List Int)} {J : List Int} (hm : MenuOk (n : Int) L) (hJ : JRes n L (allQ L.length) J) (S : Nat) : TogP J S ↔ ¬ ∃ v ∈ L, Splits v S := by
 have hlen : ∀ v ∈ L, v.length = n := fun v hv => by have := (hm.2.2 v hv).1; omega
 have hcol : ∀ (k : Nat) (v : List Int), L[k]? = some v → ∀ i, col L (k : Int) i = v[i]? := fun k v hk i => by
  unfold col
  rw [Int.toNat_natCast, hk]
  rfl
 constructor
 ·rintro h ⟨v, hv, s, t, x, y, hx, hy, hs, ht, hne⟩
  have h1 := (List.getElem?_eq_some_iff.1 hx).1
  have h2 := (List.getElem?_eq_some_iff.1 hy).1
  rw [hlen v hv] at h1 h2
  obtain ⟨k, hk, he⟩ := List.getElem_of_mem hv
  have hkv : L[k]? = some v := by rw [← he]; exact List.getElem?_eq_getElem hk
  have ha := List.getElem?_eq_getElem (l := J) (i := s) (by rw [hJ.1]; exact h1)
  have hb := List.getElem?_eq_getElem (l := J) (i := t) (by rw [hJ.1]; exact h2)
  have h3 := (hJ.2.1 s t _ _ ha hb).1 (h s t _ _ ha hb hs ht) (k : Int) (allQ_mem.2 (by omega))
  rw [hcol k v hkv, hcol k v hkv, hx, hy] at h3
  injection h3 with h3
  exact hne h3
 ·intro h s t x y hx hy hs ht
  refine (hJ.2.1 s t x y hx hy).2 fun q hq => ?_
  obtain ⟨hq0, hq1⟩ := allQ_mem.1 hq
  obtain ⟨k, rfl⟩ : ∃ k : Nat, q = (k : Int) := ⟨q.toNat, by omega⟩
  have hkv := List.getElem?_eq_getElem (l := L) (i := k) (by omega)
  rw [hcol k _ hkv, hcol k _ hkv]
  have hvm := List.mem_of_getElem? hkv
  have h1 := (List.getElem?_eq_some_iff.1 hx).1
  have h2 := (List.getElem?_eq_some_iff.1 hy).1
  rw [hJ.1] at h1 h2
  have hxv := List.getElem?_eq_getElem (l := L[k]) (i := s) (by rw [hlen _ hvm]; exact h1)
  have hyv := List.getElem?_eq_getElem (l := L[k]) (i := t) (by rw [hlen _ hvm]; exact h2)
  rw [hxv, hyv]
  by_cases e : L[k][s]'(by rw [hlen _ hvm]; exact h1) = L[k][t]'(by rw [hlen _ hvm]; exact h2)
  ·rw [e]
  ·exact absurd ⟨_, hvm, s, t, _, _, hxv, hyv, hs, ht, e⟩ h
theorem prt_two {n : Nat} {L : List (List Int)} (hm : MenuOk (n : Int) L) {v : List Int} (hv : v ∈ L) (S : Nat) : 1 < (prt S v).length ↔ Splits v S := by
 have h1 := hm.2.2 v hv
 exact parts_two rfl (fun i z hz => by
  have h2 := canGo_le v 0 (by omega) h1.2 i z hz
  have h3 := (List.getElem?_eq_some_iff.1 hz).1
  omega)
/-- An entry is justified, as the two sides ask it. -/
theorem hard_iff {n : Nat} {L : List (List Int)} {J : List Int} (hm : MenuOk (n : Int) L) (hJ : JRes n L (allQ L.length) J) (S : Nat) (D : Int) (f : Lit → Option Int) : HardP L S D f ↔ ¬ TogP J S ∧ (1 < D → NeedP L S D f) := by
 rw [tog_iff hm hJ, Classical.not_not]
 constructor
 ·rintro ⟨h1, v, hv, h2⟩
  exact ⟨⟨v, hv, (prt_two hm hv S).1 h2⟩, fun hd v hv => h1 v hv hd⟩
 ·rintro ⟨⟨v, hv, h1⟩, h2⟩
  exact ⟨fun v hv hd => h2 hd v hv, v, hv, (prt_two hm hv S).2 h1⟩

/-- The depths that the first entries of a table tell. -/
noncomputable def knF (l : List (Int × Int)) : Nat → Lit → Option Int
 | 0 => fun _ => none
 | k + 1 => match l[k]? with
   | some x => putL (knF l k) (.int .i64 x.1) x.2
   | none => knF l k
theorem knF_next {l : List (Int × Int)} {k : Nat} {x : Int × Int} (h : l[k]? = some x) : knF l (k + 1) = putL (knF l k) (.int .i64 x.1) x.2 := by
 show (match l[k]? with | some x => putL (knF l k) (.int .i64 x.1) x.2 | none => knF l k) = _
 rw [h]
/-- Sets in ascending order, as far as c. -/
def AscTo (l : List (Int × Int)) (c : Nat) : Prop := ∀ (i : Nat) (x y : Int × Int), i + 1 < c → l[i]? = some x → l[i + 1]? = some y → x.1 < y.1
/-- An entry is right. -/
def GoodE (n : Int) (L : List (List Int)) (f : Lit → Option Int) (x : Int × Int) : Prop := (1 ≤ x.1 ∧ x.1 ≤ ((2 ^ n.toNat - 1 : Nat) : Int)) ∧ (0 < x.2 → HardP L x.1.toNat x.2 f)
/-- The depth is reached. -/
def TopE (n : Int) (f : Lit → Option Int) (depth : Int) : Prop := 0 < depth → ∃ d, f (.int .i64 ((2 ^ n.toNat - 1 : Nat) : Int)) = some d ∧ depth ≤ d
/-- The code of a proof of hardness. -/
structure HdCode (n : Int) (L : List (List Int)) (l : List (Int × Int)) (depth r : Int) : Prop where
 a : ¬ MenuOk n L → r = 1
 b : MenuOk n L → 4096 < l.length → r = 4
 c : MenuOk n L → ¬ 4096 < l.length → ¬ AscTo l l.length → r = 10
 d : MenuOk n L → ¬ 4096 < l.length → AscTo l l.length → ¬ ((∀ x ∈ l, GoodE n L (knF l l.length) x) ∧ TopE n (knF l l.length) depth) → r = 13
 e : MenuOk n L → ¬ 4096 < l.length → AscTo l l.length → ((∀ x ∈ l, GoodE n L (knF l l.length) x) ∧ TopE n (knF l l.length) depth) → r = 0
theorem HdCode.eq {n : Int} {L : List (List Int)} {l : List (Int × Int)} {depth r r' : Int} (h : HdCode n L l depth r) (h' : HdCode n L l depth r') : r = r' := by
 by_cases h1 : MenuOk n L
 ·by_cases h2 : 4096 < l.length
  ·rw [h.b h1 h2, h'.b h1 h2]
  ·by_cases h3 : AscTo l l.length
   ·by_cases h4 : ((∀ x ∈ l, GoodE n L (knF l l.length) x) ∧ TopE n (knF l l.length) depth)
    ·rw [h.e h1 h2 h3 h4, h'.e h1 h2 h3 h4]
    ·rw [h.d h1 h2 h3 h4, h'.d h1 h2 h3 h4]
   ·rw [h.c h1 h2 h3, h'.c h1 h2 h3]
 ·rw [h.a h1, h'.a h1]
theorem HdCode.one {n : Int} {L : List (List Int)} {l : List (Int × Int)} {depth : Int} (h : ¬ MenuOk n L) : HdCode n L l depth 1 := ⟨fun _ => rfl, fun h' => absurd h' h, fun h' => absurd h' h, fun h' => absurd h' h, fun h' => absurd h' h⟩
theorem HdCode.four {n : Int} {L : List (List Int)} {l : List (Int × Int)} {depth : Int} (h : MenuOk n L) (h2 : 4096 < l.length) : HdCode n L l depth 4 := ⟨fun h' => absurd h h', fun _ _ => rfl, fun _ h' => absurd h2 h', fun _ h' => absurd h2 h', fun _ h' => absurd h2 h'⟩
theorem HdCode.ten {n : Int} {L : List (List Int)} {l : List (Int × Int)} {depth : Int} (h : MenuOk n L) (h2 : ¬ 4096 < l.length) (h3 : ¬ AscTo l l.length) : HdCode n L l depth 10 := ⟨fun h' => absurd h h', fun _ h' => absurd h' h2, fun _ _ _ => rfl, fun _ _ h' => absurd h' h3, fun _ _ h' => absurd h' h3⟩
theorem HdCode.bad {n : Int} {L : List (List Int)} {l : List (Int × Int)} {depth : Int} (h : MenuOk n L) (h2 : ¬ 4096 < l.length) (h3 : AscTo l l.length) (h4 : ¬ ((∀ x ∈ l, GoodE n L (knF l l.length) x) ∧ TopE n (knF l l.length) depth)) : HdCode n L l depth 13 := ⟨fun h' => absurd h h', fun _ h' => absurd h' h2, fun _ _ h' => absurd h3 h', fun _ _ _ _ => rfl, fun _ _ _ h' => absurd h' h4⟩
theorem HdCode.ok {n : Int} {L : List (List Int)} {l : List (Int × Int)} {depth : Int} (h : MenuOk n L) (h2 : ¬ 4096 < l.length) (h3 : AscTo l l.length) (h4 : (∀ x ∈ l, GoodE n L (knF l l.length) x) ∧ TopE n (knF l l.length) depth) : HdCode n L l depth 0 := ⟨fun h' => absurd h h', fun _ h' => absurd h' h2, fun _ _ h' => absurd h3 h', fun _ _ _ h' => absurd h4 h', fun _ _ _ _ => rfl⟩
end Go.Proofs.YtbdcjhoedhhabaaGreat

/- checker.menu. -/
namespace Go.Proofs.YtbdcjhoedhhabaaGreat
open Go.RowKit
attribute [local go_sem ↓] Go.wp_at_zero Go.wp_at_succ
attribute [local go_sem] run_max2

set_option maxRecDepth 100000 in
set_option maxHeartbeats 8000000 in
theorem kmenu_any (w : World) (ns : Int) (v : Value) (L : List (List Int)) (h : IMat w v L) :
 Calls Tryz.prog 119 #[.agg #[.int .i64 ns, v]] w fun e w' => Tells (MenuOk ns L) e ∧ Below w.heap.size w w' := by
 have H := Lib.hid h
 obtain ⟨A, cap, rfl, h, l1, l2⟩ := h.op
 clear h
 obtain ⟨m, hm⟩ : ∃ m, L.length = m := ⟨_, rfl⟩
 have HM := Lib.hid hm
 have H2 : Hid (IMat w (.slice A m cap) L) := by have h9 := H.out; rw [hm] at h9; exact h9
 rw [hm] at l1 ⊢
 clear hm H
 obtain ⟨P, hP⟩ : ∃ P, MenuOk ns L = P := ⟨_, rfl⟩
 rw [hP]
 have HP : Hid (P ↔ MenuOk ns L) := by rw [← hP]; exact Iff.rfl
 clear hP
 have L1 := made1 w #[.int .i64 ns, .slice A m cap] 84
 by_cases h0 : ns < 1
 ·have HV : Hid (¬ P) := fun h => by have := (HP.out.1 h).1; omega
  have d1 : decide (ns < 1) = true := decide_eq_true h0
  clear h0
  go_enter Tryz.func119, Tryz.ntmps119
  go_wp2_with fail
  go_ret
  exact ⟨Tells.no HV.out, bel⟩
 have d1 : decide (ns < 1) = false := decide_eq_false h0
 by_cases h1 : 62 < ns
 ·have HV : Hid (¬ P) := fun h => by have := (HP.out.1 h).1; omega
  have d2 : decide (62 < ns) = true := decide_eq_true h1
  clear h0 h1
  go_enter Tryz.func119, Tryz.ntmps119
  go_wp2_with fail
  go_ret
  exact ⟨Tells.no HV.out, bel⟩
 have d2 : decide (62 < ns) = false := decide_eq_false h1
 by_cases h2 : 8 < m
 ·have HV : Hid (¬ P) := fun h => by have := (HP.out.1 h).2.1; rw [HM.out] at this; omega
  have d3 : decide ((8 : Int) < (m : Int)) = true := decide_eq_true (by omega)
  have d3' : decide (8 < m) = true := decide_eq_true h2
  clear h0 h1 h2
  go_enter Tryz.func119, Tryz.ntmps119
  go_wp2_with fail
  go_ret
  exact ⟨Tells.no HV.out, bel⟩
 have d3 : decide ((8 : Int) < (m : Int)) = false := decide_eq_false (by omega)
 have d3' : decide (8 < m) = false := decide_eq_false h2
 have HNS : Hid (1 ≤ ns ∧ ns ≤ 62) := by show _ ∧ _; omega
 have hm8 : m ≤ 8 := by omega
 clear h0 h1 h2
 go_enter Tryz.func119, Tryz.ntmps119
 go_wp2_with fail
 go_loopw [25] (fun i wr => ∃ (c : Nat), c ≤ m ∧ i = .int .i64 c ∧ Hid (∀ (i : Nat) (v : List Int), i < c → L[i]? = some v → (v.length : Int) = ns ∧ canGo 0 v) ∧ Hid (Loc wr w.heap.size 84 #[.int .i64 ns, .slice A m cap]) ∧ Below w.heap.size w wr) (fun i _ => m - (intOf i).toNat)
 case atStart => exact ⟨0, by omega, rfl, Lib.hid (fun i l hi => absurd hi (by omega)), Lib.hid L1.to, bel⟩
 case round =>
  clear L1
  obtain ⟨c, hc, rfl, hall, hL, hB⟩ := hrel
  obtain ⟨wo, rfl⟩ : ∃ wo : World, wo = wr := ⟨_, rfl⟩
  have y5 := hB.size; (try simp only [zs] at y5)
  by_cases hlt : c < m
  ·obtain ⟨r, he⟩ : ∃ l, L[c]? = some l := ⟨_, List.getElem?_eq_getElem (by rw [HM.out]; exact hlt)⟩
   obtain ⟨a, D, d, rfl, hab, hcell, hnum, l5, l6⟩ := (H2.out.keep (.of_below hB)).at he
   have HE := Lib.hid he
   obtain ⟨rn, hrn⟩ : ∃ q, r.length = q := ⟨_, rfl⟩
   have HRN := Lib.hid hrn
   rw [hrn] at hcell l5 hnum
   have HNUM := Lib.hid hnum
   have k0 : (0 : Int) ≤ (c : Int) := by omega
   have k1 : (c : Int) < (m : Int) := by omega
   obtain ⟨e1, f1, -⟩ := Loc.all hL.out (w' := wo)
   have HBAD : Hid (¬ ((rn : Int) = ns ∧ canGo 0 r) → ¬ P) := fun hq hp => hq (by have h9 := (HP.out.1 hp).2.2 r (List.mem_of_getElem? HE.out); rw [HRN.out] at h9; exact h9)
   clear he hrn hnum
   by_cases z1 : (rn : Int) = ns
   case neg =>
    have HV := Lib.hid (HBAD.out (fun h => z1 h.1))
    have d5 : ((rn : Int) == ns) = false := beq_eq_false_iff_ne.2 z1
    have d6 : ((rn : Int) != ns) = true := bne_iff_ne.2 z1
    clear z1
    go_wp2_with fail
    go_ret
    exact ⟨Tells.no HV.out, bel⟩
   have d5 : ((rn : Int) == ns) = true := beq_iff_eq.2 z1
   have d6 : ((rn : Int) != ns) = false := by simp only [bne, d5]; rfl
   have HZ1 := Lib.hid z1
   have hrb : rn ≤ 62 := by have := HNS.out; omega
   clear z1
   go_wp2_with fail
   clear e1 f1
   go_loopw [5, 36] (fun nv i wr => ∃ (j : Nat) (n : Int), j ≤ rn ∧ i = .int .i64 j ∧ nv = .int .i64 n ∧ 0 ≤ n ∧ n ≤ j ∧ Hid (canGo 0 r ↔ canGo n (r.drop j)) ∧ Below w.heap.size w wr ∧ Below wo.heap.size wo wr) (fun _ i _ => rn - (intOf i).toNat)
   case atStart => exact ⟨0, 0, by omega, rfl, rfl, by omega, by omega, Lib.hid Iff.rfl, bel, bel⟩
   case round =>
    obtain ⟨j, n, hj, rfl, rfl, hn0, hn1, hCG, hB2, hB3⟩ := hrel
    obtain ⟨wp, rfl⟩ : ∃ wp : World, wp = wr := ⟨_, rfl⟩
    have y6 := hB2.size; (try simp only [zs] at y6)
    have y7 := hB3.size; (try simp only [zs] at y7)
    by_cases hlt2 : j < rn
    ·obtain ⟨z, hz⟩ : ∃ z, r[j]? = some z := ⟨_, List.getElem?_eq_getElem (by rw [HRN.out]; exact hlt2)⟩
     obtain ⟨a', rfl, hab', hcell', zb1, zb2⟩ := (HNUM.out.keep (.of_below hB3)).at hz
     have k2 : (0 : Int) ≤ (j : Int) := by omega
     have k3 : (j : Int) < (rn : Int) := by omega
     have HQ : Hid (canGo 0 r ↔ (0 ≤ z ∧ z ≤ n) ∧ canGo (max n (z + 1)) (r.drop (j + 1))) := hCG.out.trans (canGo_drop hz)
     clear hz hCG
     by_cases z0 : z < 0
     ·have HV := Lib.hid (HBAD.out (fun h => by have := (HQ.out.1 h.2).1; omega))
      have d7 : decide (z < 0) = true := decide_eq_true z0
      clear z0
      go_wp2_with fail
      go_ret
      exact ⟨Tells.no HV.out, bel⟩
     have d7 : decide (z < 0) = false := decide_eq_false z0
     by_cases z1 : n < z
     ·have HV := Lib.hid (HBAD.out (fun h => by have := (HQ.out.1 h.2).1; omega))
      have d8 : decide (n < z) = true := decide_eq_true z1
      clear z0 z1
      go_wp2_with fail
      go_ret
      exact ⟨Tells.no HV.out, bel⟩
     have d8 : decide (n < z) = false := decide_eq_false z1
     have k4 : IntKind.i64.wrap (z + 1) = z + 1 := by rw [IntKind.wrap_i64]; omega
     obtain ⟨n', hn'⟩ : ∃ n', max n (z + 1) = n' := ⟨_, rfl⟩
     have HNX : Hid (canGo 0 r ↔ canGo n' (r.drop (j + 1))) := by
      show _ ↔ _
      rw [HQ.out, hn']
      exact ⟨fun h => h.2, fun h => ⟨by omega, h⟩⟩
     have hnb : 0 ≤ n' ∧ n' ≤ (j : Int) + 1 := by rw [← hn', Int.max_def]; split <;> omega
     clear z0 z1
     go_wp2_with fail
     go_roundw
     case rel => exact ⟨j + 1, n', by omega, by go_num, by first | rfl | rw [hn'], hnb.1, by omega, HNX, bel, bel⟩
     case measure => simp only [intOf]; omega
    ·obtain rfl : j = rn := by omega
     have HV : Hid (canGo 0 r) := by
      refine hCG.out.2 ?_
      rw [List.drop_eq_nil_of_le (by rw [HRN.out]; exact Nat.le_refl _)]
      trivial
     have HNX : Hid (∀ (i : Nat) (v : List Int), i < c + 1 → L[i]? = some v → (v.length : Int) = ns ∧ canGo 0 v) := fun i r' hi hr' => by
      by_cases hh : i < c
      ·exact hall.out i r' hh hr'
      ·obtain rfl : i = c := by omega
       rw [HE.out] at hr'
       injection hr' with hr'
       subst hr'
       exact ⟨by rw [HRN.out]; exact HZ1.out, HV.out⟩
     have HL2 : Hid (Loc wp w.heap.size 84 #[.int .i64 ns, .slice (some a) m cap]) := Loc.below hL.out hB3
     go_wp2_with fail
     go_roundw
     case rel => exact ⟨c + 1, by omega, by go_num, HNX, HL2, bel⟩
     case measure => simp only [intOf]; omega
  ·obtain rfl : c = m := by omega
   have HV : Hid P := HP.out.2 ⟨HNS.out, by rw [HM.out]; exact hm8, fun v hv => by
    obtain ⟨i, hi, rfl⟩ := List.getElem_of_mem hv
    exact hall.out i _ (by rw [← HM.out]; exact hi) (List.getElem?_eq_getElem hi)⟩
   go_wp2_with fail
   go_ret
   exact ⟨Tells.yes HV.out, hB⟩
end Go.Proofs.YtbdcjhoedhhabaaGreat

/- Lists of running times in memory; checker.load and bucket.Check. -/
namespace Go.Proofs.YtbdcjhoedhhabaaGreat
open Go.RowKit
attribute [local go_sem ↓] Go.wp_at_zero Go.wp_at_succ

/-- A list of pairs of integers (running time, weight) that is read. -/
def Tims (w : World) (v : Value) (l : List (Int × Int)) : Prop :=
 ∃ A cap, v = .slice A l.length cap ∧ l.length ≤ cap ∧ cap ≤ maxLen ∧ (l.length ≠ 0 → ∃ a, A = some a ∧ a.block < w.heap.size ∧ ∀ (i : Nat) (x : Int × Int), l[i]? = some x → w.cell? (a.add (i * 2)) = some (.int .i64 x.1) ∧ w.cell? ((a.add (i * 2)).add 1) = some (.int .i64 x.2)) ∧ ∀ x ∈ l, (-9223372036854775808 ≤ x.1 ∧ x.1 ≤ 9223372036854775807) ∧ (-9223372036854775808 ≤ x.2 ∧ x.2 ≤ 9223372036854775807)

theorem Tims.keep {w w' : World} {v : Value} {l : List (Int × Int)} (h : Tims w v l) (hk : Keep (fun _ => False) w w') : Tims w' v l := by
 obtain ⟨A, cap, hv, h1, h2, h3, h4⟩ := h
 refine ⟨A, cap, hv, h1, h2, fun hn => ?_, h4⟩
 obtain ⟨a, ha, hb, hc⟩ := h3 hn
 exact ⟨a, ha, Nat.lt_of_lt_of_le hb hk.size, fun i z hz => ⟨cell_keep (hc i z hz).1 (by rw [add_block]; exact hb) id hk, cell_keep (hc i z hz).2 (by rw [add_block, add_block]; exact hb) id hk⟩⟩

theorem Tims.op {w : World} {v : Value} {l : List (Int × Int)} (h : Tims w v l) : ∃ (A : Option Addr) (cap : Nat), v = .slice A l.length cap ∧ Tims w (.slice A l.length cap) l ∧ l.length ≤ cap ∧ cap ≤ maxLen := by
 have h0 := h
 obtain ⟨A, cap, rfl, h1, h2, -⟩ := h
 exact ⟨A, cap, rfl, h0, h1, h2⟩

theorem Tims.at {w : World} {l : List (Int × Int)} {A : Option Addr} {n cap : Nat} (h : Tims w (.slice A n cap) l) {i : Nat} {z : Int × Int} (hz : l[i]? = some z) : ∃ a : Addr, A = some a ∧ a.block < w.heap.size ∧ w.cell? (a.add (i * 2)) = some (.int .i64 z.1) ∧ w.cell? ((a.add (i * 2)).add 1) = some (.int .i64 z.2) ∧ (-9223372036854775808 ≤ z.1 ∧ z.1 ≤ 9223372036854775807) ∧ (-9223372036854775808 ≤ z.2 ∧ z.2 ≤ 9223372036854775807) := by
 obtain ⟨A', cap', hv, h1, h2, h3, h4⟩ := h
 injection hv with e1 e2 e3
 subst e1
 obtain ⟨a, ha, hb, hc⟩ := h3 (by have := (List.getElem?_eq_some_iff.1 hz).1; omega)
 have h9 := h4 z (List.mem_of_getElem? hz)
 exact ⟨a, ha, hb, (hc i z hz).1, (hc i z hz).2, h9.1, h9.2⟩

end Go.Proofs.YtbdcjhoedhhabaaGreat

