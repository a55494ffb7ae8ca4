/- Contracts of the functions that the statements reach, part 26. -/
import Derived.Test.YtbdcjhoedhhabaaGreatRows
import Derived.WideKeyPair
import Derived.DeepKeys4
import Derived.Test.YtbdcjhoedhhabaaGreatD2
import Derived.Test.YtbdcjhoedhhabaaGreatD19
import Derived.Test.YtbdcjhoedhhabaaGreatD20
import Derived.Test.YtbdcjhoedhhabaaGreatD22
import Derived.Test.YtbdcjhoedhhabaaGreatD24
import Derived.Test.YtbdcjhoedhhabaaGreatD25
set_option linter.unusedSimpArgs false
set_option linter.unusedVariables false

/- adaptive.everything, adaptive.allJoint; the code of a proof of hardness. -/
namespace Go.Proofs.YtbdcjhoedhhabaaGreat
open Go.RowKit
attribute [local go_sem ↓] Go.wp_at_zero Go.wp_at_succ

set_option maxHeartbeats 4000000 in
theorem everything_any (w : World) (n : Nat) (vm : Value) (hn : n ≤ 62) (hv : ∃ A m c, vm = Value.slice A m c) :
 Calls Tryz.prog 123 #[.agg #[.int .i64 (n : Int), vm]] w fun e w' => e = .returned (.int .i64 ((2 ^ n - 1 : Nat) : Int)) ∧ Below w.heap.size w w' := by
 obtain ⟨A, m, c, rfl⟩ := hv
 have s1 := shl_one hn
 have hp : 1 ≤ 2 ^ n ∧ 2 ^ n < 9223372036854775808 := ⟨Nat.one_le_two_pow, Nat.lt_of_le_of_lt (Nat.pow_le_pow_right (by decide) hn) (by decide)⟩
 obtain ⟨p, hpe⟩ : ∃ p : Nat, 2 ^ n = p := ⟨_, rfl⟩
 rw [hpe] at s1 hp ⊢
 have k1 : IntKind.i64.wrap ((p : Int) - 1) = ((p - 1 : Nat) : Int) := by rw [IntKind.wrap_i64]; omega
 clear hpe
 go_enter Tryz.func123, Tryz.ntmps123
 go_wp2_with fail
 go_ret
 exact ⟨rfl, bel⟩

/-- The depths that the first entries of a table tell. -/
noncomputable def knF (l : List (Int × Int)) : Nat → Lit → Option Int
 | 0 => fun _ => none
 | k + 1 => match l[k]? with
   | some x => putL (knF l k) (.int .i64 x.1) x.2
   | none => knF l k
/-- Sets in ascending order, as far as c. -/
def AscTo (l : List (Int × Int)) (c : Nat) : Prop := ∀ (i : Nat) (x y : Int × Int), i + 1 < c → l[i]? = some x → l[i + 1]? = some y → x.1 < y.1
/-- An entry is right. -/
def GoodE (n : Int) (L : List (List Int)) (f : Lit → Option Int) (x : Int × Int) : Prop := (1 ≤ x.1 ∧ x.1 ≤ ((2 ^ n.toNat - 1 : Nat) : Int)) ∧ (0 < x.2 → HardP L x.1.toNat x.2 f)
/-- The depth is reached. -/
def TopE (n : Int) (f : Lit → Option Int) (depth : Int) : Prop := 0 < depth → ∃ d, f (.int .i64 ((2 ^ n.toNat - 1 : Nat) : Int)) = some d ∧ depth ≤ d
/-- The code of a proof of hardness. -/
structure HdCode (n : Int) (L : List (List Int)) (l : List (Int × Int)) (depth r : Int) : Prop where
 a : ¬ MenuOk n L → r = 1
 b : MenuOk n L → 4096 < l.length → r = 4
 c : MenuOk n L → ¬ 4096 < l.length → ¬ AscTo l l.length → r = 10
 d : MenuOk n L → ¬ 4096 < l.length → AscTo l l.length → ¬ ((∀ x ∈ l, GoodE n L (knF l l.length) x) ∧ TopE n (knF l l.length) depth) → r = 13
 e : MenuOk n L → ¬ 4096 < l.length → AscTo l l.length → ((∀ x ∈ l, GoodE n L (knF l l.length) x) ∧ TopE n (knF l l.length) depth) → r = 0
theorem HdCode.eq {n : Int} {L : List (List Int)} {l : List (Int × Int)} {depth r r' : Int} (h : HdCode n L l depth r) (h' : HdCode n L l depth r') : r = r' := by
 by_cases h1 : MenuOk n L
 ·by_cases h2 : 4096 < l.length
  ·rw [h.b h1 h2, h'.b h1 h2]
  ·by_cases h3 : AscTo l l.length
   ·by_cases h4 : ((∀ x ∈ l, GoodE n L (knF l l.length) x) ∧ TopE n (knF l l.length) depth)
    ·rw [h.e h1 h2 h3 h4, h'.e h1 h2 h3 h4]
    ·rw [h.d h1 h2 h3 h4, h'.d h1 h2 h3 h4]
   ·rw [h.c h1 h2 h3, h'.c h1 h2 h3]
 ·rw [h.a h1, h'.a h1]
theorem HdCode.one {n : Int} {L : List (List Int)} {l : List (Int × Int)} {depth : Int} (h : ¬ MenuOk n L) : HdCode n L l depth 1 := ⟨fun _ => rfl, fun h' => absurd h' h, fun h' => absurd h' h, fun h' => absurd h' h, fun h' => absurd h' h⟩
theorem HdCode.four {n : Int} {L : List (List Int)} {l : List (Int × Int)} {depth : Int} (h : MenuOk n L) (h2 : 4096 < l.length) : HdCode n L l depth 4 := ⟨fun h' => absurd h h', fun _ _ => rfl, fun _ h' => absurd h2 h', fun _ h' => absurd h2 h', fun _ h' => absurd h2 h'⟩
theorem HdCode.ten {n : Int} {L : List (List Int)} {l : List (Int × Int)} {depth : Int} (h : MenuOk n L) (h2 : ¬ 4096 < l.length) (h3 : ¬ AscTo l l.length) : HdCode n L l depth 10 := ⟨fun h' => absurd h h', fun _ h' => absurd h' h2, fun _ _ _ => rfl, fun _ _ h' => absurd h' h3, fun _ _ h' => absurd h' h3⟩
theorem HdCode.bad {n : Int} {L : List (List Int)} {l : List (Int × Int)} {depth : Int} (h : MenuOk n L) (h2 : ¬ 4096 < l.length) (h3 : AscTo l l.length) (h4 : ¬ ((∀ x ∈ l, GoodE n L (knF l l.length) x) ∧ TopE n (knF l l.length) depth)) : HdCode n L l depth 13 := ⟨fun h' => absurd h h', fun _ h' => absurd h' h2, fun _ _ h' => absurd h3 h', fun _ _ _ _ => rfl, fun _ _ _ h' => absurd h' h4⟩
theorem HdCode.ok {n : Int} {L : List (List Int)} {l : List (Int × Int)} {depth : Int} (h : MenuOk n L) (h2 : ¬ 4096 < l.length) (h3 : AscTo l l.length) (h4 : (∀ x ∈ l, GoodE n L (knF l l.length) x) ∧ TopE n (knF l l.length) depth) : HdCode n L l depth 0 := ⟨fun h' => absurd h h', fun _ h' => absurd h' h2, fun _ _ h' => absurd h3 h', fun _ _ _ h' => absurd h4 h', fun _ _ _ _ => rfl⟩
end Go.Proofs.YtbdcjhoedhhabaaGreat

/- checker.menu. -/
namespace Go.Proofs.YtbdcjhoedhhabaaGreat
open Go.RowKit
attribute [local go_sem ↓] Go.wp_at_zero Go.wp_at_succ
attribute [local go_sem] run_max2

set_option maxRecDepth 100000 in
set_option maxHeartbeats 8000000 in
theorem kmenu_any (w : World) (ns : Int) (v : Value) (L : List (List Int)) (h : IMat w v L) :
 Calls Tryz.prog 119 #[.agg #[.int .i64 ns, v]] w fun e w' => Tells (MenuOk ns L) e ∧ Below w.heap.size w w' := by
 have H := Lib.hid h
 obtain ⟨A, cap, rfl, h, l1, l2⟩ := h.op
 clear h
 obtain ⟨m, hm⟩ : ∃ m, L.length = m := ⟨_, rfl⟩
 have HM := Lib.hid hm
 have H2 : Hid (IMat w (.slice A m cap) L) := by have h9 := H.out; rw [hm] at h9; exact h9
 rw [hm] at l1 ⊢
 clear hm H
 obtain ⟨P, hP⟩ : ∃ P, MenuOk ns L = P := ⟨_, rfl⟩
 rw [hP]
 have HP : Hid (P ↔ MenuOk ns L) := by rw [← hP]; exact Iff.rfl
 clear hP
 have L1 := made1 w #[.int .i64 ns, .slice A m cap] 84
 by_cases h0 : ns < 1
 ·have HV : Hid (¬ P) := fun h => by have := (HP.out.1 h).1; omega
  have d1 : decide (ns < 1) = true := decide_eq_true h0
  clear h0
  go_enter Tryz.func119, Tryz.ntmps119
  go_wp2_with fail
  go_ret
  exact ⟨Tells.no HV.out, bel⟩
 have d1 : decide (ns < 1) = false := decide_eq_false h0
 by_cases h1 : 62 < ns
 ·have HV : Hid (¬ P) := fun h => by have := (HP.out.1 h).1; omega
  have d2 : decide (62 < ns) = true := decide_eq_true h1
  clear h0 h1
  go_enter Tryz.func119, Tryz.ntmps119
  go_wp2_with fail
  go_ret
  exact ⟨Tells.no HV.out, bel⟩
 have d2 : decide (62 < ns) = false := decide_eq_false h1
 by_cases h2 : 8 < m
 ·have HV : Hid (¬ P) := fun h => by have := (HP.out.1 h).2.1; rw [HM.out] at this; omega
  have d3 : decide ((8 : Int) < (m : Int)) = true := decide_eq_true (by omega)
  have d3' : decide (8 < m) = true := decide_eq_true h2
  clear h0 h1 h2
  go_enter Tryz.func119, Tryz.ntmps119
  go_wp2_with fail
  go_ret
  exact ⟨Tells.no HV.out, bel⟩
 have d3 : decide ((8 : Int) < (m : Int)) = false := decide_eq_false (by omega)
 have d3' : decide (8 < m) = false := decide_eq_false h2
 have HNS : Hid (1 ≤ ns ∧ ns ≤ 62) := by show _ ∧ _; omega
 have hm8 : m ≤ 8 := by omega
 clear h0 h1 h2
 go_enter Tryz.func119, Tryz.ntmps119
 go_wp2_with fail
 go_loopw [25] (fun i wr => ∃ (c : Nat), c ≤ m ∧ i = .int .i64 c ∧ Hid (∀ (i : Nat) (v : List Int), i < c → L[i]? = some v → (v.length : Int) = ns ∧ canGo 0 v) ∧ Hid (Loc wr w.heap.size 84 #[.int .i64 ns, .slice A m cap]) ∧ Below w.heap.size w wr) (fun i _ => m - (intOf i).toNat)
 case atStart => exact ⟨0, by omega, rfl, Lib.hid (fun i l hi => absurd hi (by omega)), Lib.hid L1.to, bel⟩
 case round =>
  clear L1
  obtain ⟨c, hc, rfl, hall, hL, hB⟩ := hrel
  obtain ⟨wo, rfl⟩ : ∃ wo : World, wo = wr := ⟨_, rfl⟩
  have y5 := hB.size; (try simp only [zs] at y5)
  by_cases hlt : c < m
  ·obtain ⟨r, he⟩ : ∃ l, L[c]? = some l := ⟨_, List.getElem?_eq_getElem (by rw [HM.out]; exact hlt)⟩
   obtain ⟨a, D, d, rfl, hab, hcell, hnum, l5, l6⟩ := (H2.out.keep (.of_below hB)).at he
   have HE := Lib.hid he
   obtain ⟨rn, hrn⟩ : ∃ q, r.length = q := ⟨_, rfl⟩
   have HRN := Lib.hid hrn
   rw [hrn] at hcell l5 hnum
   have HNUM := Lib.hid hnum
   have k0 : (0 : Int) ≤ (c : Int) := by omega
   have k1 : (c : Int) < (m : Int) := by omega
   obtain ⟨e1, f1, -⟩ := Loc.all hL.out (w' := wo)
   have HBAD : Hid (¬ ((rn : Int) = ns ∧ canGo 0 r) → ¬ P) := fun hq hp => hq (by have h9 := (HP.out.1 hp).2.2 r (List.mem_of_getElem? HE.out); rw [HRN.out] at h9; exact h9)
   clear he hrn hnum
   by_cases z1 : (rn : Int) = ns
   case neg =>
    have HV := Lib.hid (HBAD.out (fun h => z1 h.1))
    have d5 : ((rn : Int) == ns) = false := beq_eq_false_iff_ne.2 z1
    have d6 : ((rn : Int) != ns) = true := bne_iff_ne.2 z1
    clear z1
    go_wp2_with fail
    go_ret
    exact ⟨Tells.no HV.out, bel⟩
   have d5 : ((rn : Int) == ns) = true := beq_iff_eq.2 z1
   have d6 : ((rn : Int) != ns) = false := by simp only [bne, d5]; rfl
   have HZ1 := Lib.hid z1
   have hrb : rn ≤ 62 := by have := HNS.out; omega
   clear z1
   go_wp2_with fail
   clear e1 f1
   go_loopw [5, 36] (fun nv i wr => ∃ (j : Nat) (n : Int), j ≤ rn ∧ i = .int .i64 j ∧ nv = .int .i64 n ∧ 0 ≤ n ∧ n ≤ j ∧ Hid (canGo 0 r ↔ canGo n (r.drop j)) ∧ Below w.heap.size w wr ∧ Below wo.heap.size wo wr) (fun _ i _ => rn - (intOf i).toNat)
   case atStart => exact ⟨0, 0, by omega, rfl, rfl, by omega, by omega, Lib.hid Iff.rfl, bel, bel⟩
   case round =>
    obtain ⟨j, n, hj, rfl, rfl, hn0, hn1, hCG, hB2, hB3⟩ := hrel
    obtain ⟨wp, rfl⟩ : ∃ wp : World, wp = wr := ⟨_, rfl⟩
    have y6 := hB2.size; (try simp only [zs] at y6)
    have y7 := hB3.size; (try simp only [zs] at y7)
    by_cases hlt2 : j < rn
    ·obtain ⟨z, hz⟩ : ∃ z, r[j]? = some z := ⟨_, List.getElem?_eq_getElem (by rw [HRN.out]; exact hlt2)⟩
     obtain ⟨a', rfl, hab', hcell', zb1, zb2⟩ := (HNUM.out.keep (.of_below hB3)).at hz
     have k2 : (0 : Int) ≤ (j : Int) := by omega
     have k3 : (j : Int) < (rn : Int) := by omega
     have HQ : Hid (canGo 0 r ↔ (0 ≤ z ∧ z ≤ n) ∧ canGo (max n (z + 1)) (r.drop (j + 1))) := hCG.out.trans (canGo_drop hz)
     clear hz hCG
     by_cases z0 : z < 0
     ·have HV := Lib.hid (HBAD.out (fun h => by have := (HQ.out.1 h.2).1; omega))
      have d7 : decide (z < 0) = true := decide_eq_true z0
      clear z0
      go_wp2_with fail
      go_ret
      exact ⟨Tells.no HV.out, bel⟩
     have d7 : decide (z < 0) = false := decide_eq_false z0
     by_cases z1 : n < z
     ·have HV := Lib.hid (HBAD.out (fun h => by have := (HQ.out.1 h.2).1; omega))
      have d8 : decide (n < z) = true := decide_eq_true z1
      clear z0 z1
      go_wp2_with fail
      go_ret
      exact ⟨Tells.no HV.out, bel⟩
     have d8 : decide (n < z) = false := decide_eq_false z1
     have k4 : IntKind.i64.wrap (z + 1) = z + 1 := by rw [IntKind.wrap_i64]; omega
     obtain ⟨n', hn'⟩ : ∃ n', max n (z + 1) = n' := ⟨_, rfl⟩
     have HNX : Hid (canGo 0 r ↔ canGo n' (r.drop (j + 1))) := by
      show _ ↔ _
      rw [HQ.out, hn']
      exact ⟨fun h => h.2, fun h => ⟨by omega, h⟩⟩
     have hnb : 0 ≤ n' ∧ n' ≤ (j : Int) + 1 := by rw [← hn', Int.max_def]; split <;> omega
     clear z0 z1
     go_wp2_with fail
     go_roundw
     case rel => exact ⟨j + 1, n', by omega, by go_num, by first | rfl | rw [hn'], hnb.1, by omega, HNX, bel, bel⟩
     case measure => simp only [intOf]; omega
    ·obtain rfl : j = rn := by omega
     have HV : Hid (canGo 0 r) := by
      refine hCG.out.2 ?_
      rw [List.drop_eq_nil_of_le (by rw [HRN.out]; exact Nat.le_refl _)]
      trivial
     have HNX : Hid (∀ (i : Nat) (v : List Int), i < c + 1 → L[i]? = some v → (v.length : Int) = ns ∧ canGo 0 v) := fun i r' hi hr' => by
      by_cases hh : i < c
      ·exact hall.out i r' hh hr'
      ·obtain rfl : i = c := by omega
       rw [HE.out] at hr'
       injection hr' with hr'
       subst hr'
       exact ⟨by rw [HRN.out]; exact HZ1.out, HV.out⟩
     have HL2 : Hid (Loc wp w.heap.size 84 #[.int .i64 ns, .slice (some a) m cap]) := Loc.below hL.out hB3
     go_wp2_with fail
     go_roundw
     case rel => exact ⟨c + 1, by omega, by go_num, HNX, HL2, bel⟩
     case measure => simp only [intOf]; omega
  ·obtain rfl : c = m := by omega
   have HV : Hid P := HP.out.2 ⟨HNS.out, by rw [HM.out]; exact hm8, fun v hv => by
    obtain ⟨i, hi, rfl⟩ := List.getElem_of_mem hv
    exact hall.out i _ (by rw [← HM.out]; exact hi) (List.getElem?_eq_getElem hi)⟩
   go_wp2_with fail
   go_ret
   exact ⟨Tells.yes HV.out, hB⟩
end Go.Proofs.YtbdcjhoedhhabaaGreat

/- Lists of running times in memory; checker.load and bucket.Check. -/
namespace Go.Proofs.YtbdcjhoedhhabaaGreat
open Go.RowKit
attribute [local go_sem ↓] Go.wp_at_zero Go.wp_at_succ

/-- A list of pairs of integers (running time, weight) that is read. -/
def Tims (w : World) (v : Value) (l : List (Int × Int)) : Prop :=
 ∃ A cap, v = .slice A l.length cap ∧ l.length ≤ cap ∧ cap ≤ maxLen ∧ (l.length ≠ 0 → ∃ a, A = some a ∧ a.block < w.heap.size ∧ ∀ (i : Nat) (x : Int × Int), l[i]? = some x → w.cell? (a.add (i * 2)) = some (.int .i64 x.1) ∧ w.cell? ((a.add (i * 2)).add 1) = some (.int .i64 x.2)) ∧ ∀ x ∈ l, (-9223372036854775808 ≤ x.1 ∧ x.1 ≤ 9223372036854775807) ∧ (-9223372036854775808 ≤ x.2 ∧ x.2 ≤ 9223372036854775807)

theorem Tims.keep {w w' : World} {v : Value} {l : List (Int × Int)} (h : Tims w v l) (hk : Keep (fun _ => False) w w') : Tims w' v l := by
 obtain ⟨A, cap, hv, h1, h2, h3, h4⟩ := h
 refine ⟨A, cap, hv, h1, h2, fun hn => ?_, h4⟩
 obtain ⟨a, ha, hb, hc⟩ := h3 hn
 exact ⟨a, ha, Nat.lt_of_lt_of_le hb hk.size, fun i z hz => ⟨cell_keep (hc i z hz).1 (by rw [add_block]; exact hb) id hk, cell_keep (hc i z hz).2 (by rw [add_block, add_block]; exact hb) id hk⟩⟩

theorem Tims.op {w : World} {v : Value} {l : List (Int × Int)} (h : Tims w v l) : ∃ (A : Option Addr) (cap : Nat), v = .slice A l.length cap ∧ Tims w (.slice A l.length cap) l ∧ l.length ≤ cap ∧ cap ≤ maxLen := by
 have h0 := h
 obtain ⟨A, cap, rfl, h1, h2, -⟩ := h
 exact ⟨A, cap, rfl, h0, h1, h2⟩

theorem Tims.at {w : World} {l : List (Int × Int)} {A : Option Addr} {n cap : Nat} (h : Tims w (.slice A n cap) l) {i : Nat} {z : Int × Int} (hz : l[i]? = some z) : ∃ a : Addr, A = some a ∧ a.block < w.heap.size ∧ w.cell? (a.add (i * 2)) = some (.int .i64 z.1) ∧ w.cell? ((a.add (i * 2)).add 1) = some (.int .i64 z.2) ∧ (-9223372036854775808 ≤ z.1 ∧ z.1 ≤ 9223372036854775807) ∧ (-9223372036854775808 ≤ z.2 ∧ z.2 ≤ 9223372036854775807) := by
 obtain ⟨A', cap', hv, h1, h2, h3, h4⟩ := h
 injection hv with e1 e2 e3
 subst e1
 obtain ⟨a, ha, hb, hc⟩ := h3 (by have := (List.getElem?_eq_some_iff.1 hz).1; omega)
 have h9 := h4 z (List.mem_of_getElem? hz)
 exact ⟨a, ha, hb, (hc i z hz).1, (hc i z hz).2, h9.1, h9.2⟩

/- checker.Hard. -/

theorem MapF.drew {w : World} {k : TypeId} {b n c : Nat} {f : Lit → Option Int} (h : MapF w k b n c f) : MapF w.drew k b n c f := h
theorem loc_grown {w w' : World} {g : Nat} {t : TypeId} {cs : Array Value} {row : Option Nat} (L : Loc w g t cs) (hg : w.grownBy w' row) (hne : some g ≠ row) : Loc w' g t cs := (hg.block g L.lt hne).trans L
theorem AscTo.all {l : List (Int × Int)} {c n : Nat} (h : AscTo l c) (hc : n ≤ c) : AscTo l n := fun i x y hi hx hy => h i x y (by omega) hx hy
theorem AscTo.next {l : List (Int × Int)} {c : Nat} {x y : Int × Int} (h : AscTo l c) (hc : 1 ≤ c) (hx : l[c - 1]? = some x) (hy : l[c]? = some y) (hlt : x.1 < y.1) : AscTo l (c + 1) := fun i x' y' hi hx' hy' => by
 by_cases e : i + 1 < c
 ·exact h i x' y' e hx' hy'
 ·obtain rfl : i = c - 1 := by omega
  have e1 : c - 1 + 1 = c := by omega
  rw [e1] at hy'
  rw [hx] at hx'
  rw [hy] at hy'
  injection hx' with hx'
  injection hy' with hy'
  subst hx' hy'
  exact hlt

/- adaptive.ProveLeast. Printed by gen_hd13.py. -/

end Go.Proofs.YtbdcjhoedhhabaaGreat

/- CheckerHard: the law's walk. -/
namespace Go.Proofs.YtbdcjhoedhhabaaGreat
open Go.RowKit
attribute [local go_sem ↓] Go.wp_at_zero Go.wp_at_succ
attribute [local go_sem] beq_self_eq_true

set_option maxHeartbeats 4000000 in
theorem lmenu1_any (w : World) (A : Option Addr) (m c : Nat) :
 Calls Tryz.prog 118 (#[.slice A m c] ++ #[]) w fun e w' => Tells (70 < m) e ∧ Below w.heap.size w w' := by
 by_cases h : 70 < m
 ·have H := Lib.hid h
  have d1 : decide ((70 : Int) < (m : Int)) = true := decide_eq_true (by omega)
  have d2 : decide (70 < m) = true := decide_eq_true h
  clear h
  go_enter Tryz.func118, Tryz.ntmps118
  go_wp2_with fail
  go_ret
  exact ⟨by first | exact Tells.yes H.out | (rw [d1]; exact Tells.yes H.out), bel⟩
 ·have H : Hid (¬ 70 < m) := h
  have d1 : decide ((70 : Int) < (m : Int)) = false := decide_eq_false (by omega)
  have d2 : decide (70 < m) = false := decide_eq_false h
  clear h
  go_enter Tryz.func118, Tryz.ntmps118
  go_wp2_with fail
  go_ret
  exact ⟨by first | exact Tells.no H.out | (rw [d1]; exact Tells.no H.out), bel⟩

set_option maxHeartbeats 8000000 in
theorem lmenu_any (w : World) (ns : Int) (v : Value) (L : List (List Int)) (h : IMat w v L) :
 Calls Tryz.prog 41 #[.agg #[.int .i64 ns, v]] w fun e w' => (∃ b : Bool, e = .returned (.bool b)) ∧ Below w.heap.size w w' := by
 have H := Lib.hid h
 obtain ⟨A, cap, rfl, h, l1, l2⟩ := h.op
 clear h
 obtain ⟨m, hm⟩ : ∃ m, L.length = m := ⟨_, rfl⟩
 have H2 : Hid (IMat w (.slice A m cap) L) := by have h9 := H.out; rw [hm] at h9; exact h9
 rw [hm] at l1 ⊢
 clear hm H
 by_cases h0 : m ≤ 12
 ·have d1 : decide ((m : Int) ≤ 12) = true := decide_eq_true (by omega)
  have d1' : decide (m ≤ 12) = true := decide_eq_true h0
  clear h0
  go_enter Tryz.func41, Tryz.ntmps41
  go_wp2_with fail
  refine (containsI_any _ 118 #[] (fun l => 70 < l.length) _ L (H2.out.keep kp) (enters Tryz.func118 (by kernel_rfl) (by kernel_rfl)) (fun W A c l hW hl _ => lmenu1_any W A l.length c)).mono ?_
  rintro e w3 ⟨⟨b, rfl, -⟩, hb3⟩
  have y3 := hb3.size; (try simp only [zs] at y3)
  cases b
  ·go_wp2_with fail
   go_ret
   exact ⟨⟨_, rfl⟩, bel⟩
  ·go_wp2_with fail
   go_ret
   exact ⟨⟨_, rfl⟩, bel⟩
 ·have d1 : decide ((m : Int) ≤ 12) = false := decide_eq_false (by omega)
  have d1' : decide (m ≤ 12) = false := decide_eq_false h0
  clear h0
  go_enter Tryz.func41, Tryz.ntmps41
  go_wp2_with fail
  go_ret
  exact ⟨⟨_, rfl⟩, bel⟩

end Go.Proofs.YtbdcjhoedhhabaaGreat

/- Keys of two integers. -/
namespace Go.Proofs.YtbdcjhoedhhabaaGreat
open Go.RowKit Go.Maps Go.WideMaps

/-- A key of two integers. -/
def keyL (a b : Int) : Lit := .string (keyBytes [.int .i64 a, .int .i64 b])
theorem types_succ : ∃ d, Tryz.prog.types.size = d + 1 := ⟨Tryz.prog.types.size - 1, by have : 0 < Tryz.prog.types.size := of_decide_eq_true (by kernel_rfl); omega⟩
theorem arr_key : ArrKey Tryz.prog 200 3 2 := ⟨Tryz.underlying200, by kernel_rfl, by kernel_rfl, by kernel_rfl⟩
theorem key_arr {a b : Int} (ha : -9223372036854775808 ≤ a ∧ a ≤ 9223372036854775807) (hb : -9223372036854775808 ≤ b ∧ b ≤ 9223372036854775807) : keyOf Tryz.prog 200 (.agg #[.int .i64 a, .int .i64 b]) = some (keyL a b) :=
 keyOf_pair arr_key Tryz.underlying3 types_succ (WalkArith.wf_i64 ha) (WalkArith.wf_i64 hb)
set_option maxRecDepth 100000 in
theorem keyed_arr : Keyed Tryz.prog 200 := Keyed.of_law arr_key.law

theorem keyType_pair : Tryz.prog.keyType 249 = true := by kernel_rfl
theorem size_pair : Tryz.prog.cellsOf 249 = 2 := by kernel_rfl
theorem size_int : Tryz.prog.cellsOf 3 = 1 := by kernel_rfl
theorem row_pair : (249 : TypeId) < Tryz.prog.types.size := of_decide_eq_true (by kernel_rfl)
theorem wide_pair : (match Tryz.prog.underlying 249 with | some (.array _ _) | some (.struct _) => true | _ => false) = true := by rw [Tryz.underlying249]
set_option maxRecDepth 100000 in
theorem keyed_pair : Keyed Tryz.prog 249 := Keyed.of_law (deep_law_laid laidOut (m := 2) (by omega) row_pair (by kernel_rfl) wide_pair)
theorem key_pair {a b : Int} (ha : -9223372036854775808 ≤ a ∧ a ≤ 9223372036854775807) (hb : -9223372036854775808 ≤ b ∧ b ≤ 9223372036854775807) : keyOf Tryz.prog 249 (.agg #[.int .i64 a, .int .i64 b]) = some (keyL a b) := by
 have wa := WalkArith.wf_i64 ha
 have wb := WalkArith.wf_i64 hb
 obtain ⟨m, hm⟩ := types_succ
 unfold keyOf
 simp only [Tryz.underlying249]
 rw [if_pos (by simp [keyType_pair, Value.formed, Tryz.underlying249, size_pair]), hm]
 unfold Program.keyLits
 simp only [Tryz.underlying249, Value.cells]
 rw [if_pos (by rw [size_pair]; exact ⟨rfl, by kernel_rfl⟩)]
 simp [size_int, Program.keyLits, Tryz.underlying3, wa, wb, keyL]
end Go.Proofs.YtbdcjhoedhhabaaGreat

/- Gain functions: checker.gain, strategy.earns. Printed by gen_bm1.py. -/
namespace Go.Proofs.YtbdcjhoedhhabaaGreat
open Go.RowKit
attribute [local go_sem ↓] Go.wp_at_zero Go.wp_at_succ


set_option maxHeartbeats 4000000 in
theorem kgain1_any (w : World) (z : Int) :
 Calls Tryz.prog 268 (#[.int .i64 z] ++ #[]) w fun e w' => Tells (z < 0 ∨ 1024 < z) e ∧ Below w.heap.size w w' := by
 by_cases h0 : z < 0
 ·have H0 := Lib.hid h0
  have d1 : decide (z < 0) = true := decide_eq_true h0
  go_enter Tryz.func268, Tryz.ntmps268
  go_wp2_with fail
  go_ret
  exact ⟨Tells.yes (.inl H0.out), bel⟩
 have d1 : decide (z < 0) = false := decide_eq_false h0
 by_cases h1 : 1024 < z
 ·have H0 := Lib.hid h1
  have d2 : decide (1024 < z) = true := decide_eq_true h1
  go_enter Tryz.func268, Tryz.ntmps268
  go_wp2_with fail
  go_ret
  exact ⟨by first | exact Tells.yes trivial | exact Tells.yes (.inr H0.out), bel⟩
 ·have H0 : Hid (¬ (z < 0 ∨ 1024 < z)) := by rintro (h | h); exact h0 h; exact h1 h
  have d2 : decide (1024 < z) = false := decide_eq_false h1
  clear h0 h1
  go_enter Tryz.func268, Tryz.ntmps268
  go_wp2_with fail
  go_ret
  exact ⟨Tells.no H0.out, bel⟩


set_option maxHeartbeats 4000000 in
theorem earns11_any (w : World) (z : Int) :
 Calls Tryz.prog 439 (#[.int .i64 z] ++ #[]) w fun e w' => Tells (z < 0 ∨ 1024 < z) e ∧ Below w.heap.size w w' := by
 by_cases h0 : z < 0
 ·have H0 := Lib.hid h0
  have d1 : decide (z < 0) = true := decide_eq_true h0
  go_enter Tryz.func439, Tryz.ntmps439
  go_wp2_with fail
  go_ret
  exact ⟨Tells.yes (.inl H0.out), bel⟩
 have d1 : decide (z < 0) = false := decide_eq_false h0
 by_cases h1 : 1024 < z
 ·have H0 := Lib.hid h1
  have d2 : decide (1024 < z) = true := decide_eq_true h1
  go_enter Tryz.func439, Tryz.ntmps439
  go_wp2_with fail
  go_ret
  exact ⟨by first | exact Tells.yes trivial | exact Tells.yes (.inr H0.out), bel⟩
 ·have H0 : Hid (¬ (z < 0 ∨ 1024 < z)) := by rintro (h | h); exact h0 h; exact h1 h
  have d2 : decide (1024 < z) = false := decide_eq_false h1
  clear h0 h1
  go_enter Tryz.func439, Tryz.ntmps439
  go_wp2_with fail
  go_ret
  exact ⟨Tells.no H0.out, bel⟩


/-- A row of a gain function. -/
def GRow (ns : Int) (r : List Int) : Prop := (r.length : Int) = ns ∧ ∀ x ∈ r, 0 ≤ x ∧ x ≤ 1024
/-- A gain function. -/
def GainOk (ns : Int) (G : List (List Int)) : Prop := (1 ≤ G.length ∧ G.length ≤ 64) ∧ ∀ r ∈ G, GRow ns r

set_option maxRecDepth 100000 in
set_option maxHeartbeats 8000000 in
theorem kgain_any (w : World) (ns : Int) (vm vg : Value) (G : List (List Int)) (hv : ∃ A m c, vm = Value.slice A m c) (h : IMat w vg G) :
 Calls Tryz.prog 143 #[.agg #[.int .i64 ns, vm], vg] w fun e w' => Tells (GainOk ns G) e ∧ Below w.heap.size w w' := by
 obtain ⟨A0, m0, c0, rfl⟩ := hv
 have H := Lib.hid h
 obtain ⟨A, cap, rfl, h, l1, l2⟩ := h.op
 clear h
 obtain ⟨m, hm⟩ : ∃ m, G.length = m := ⟨_, rfl⟩
 have HM := Lib.hid hm
 have H2 : Hid (IMat w (.slice A m cap) G) := by have h9 := H.out; rw [hm] at h9; exact h9
 rw [hm] at l1 ⊢
 clear hm H
 obtain ⟨P, hP⟩ : ∃ P, GainOk ns G = P := ⟨_, rfl⟩
 rw [hP]
 have HP : Hid (P ↔ GainOk ns G) := by rw [← hP]; exact Iff.rfl
 clear hP
 have L1 := made1 w #[.int .i64 ns, .slice A0 m0 c0] 84
 by_cases h0 : m < 1
 ·have HV : Hid (¬ P) := fun h => by have := (HP.out.1 h).1; rw [HM.out] at this; omega
  obtain rfl : m = 0 := by omega
  clear h0
  go_enter Tryz.func143, Tryz.ntmps143
  go_wp2_with fail
  go_ret
  exact ⟨Tells.no HV.out, bel⟩
 have d1 : decide ((m : Int) < 1) = false := decide_eq_false (by omega)
 have d1' : decide (m < 1) = false := decide_eq_false h0
 have n1 : ¬ m = 0 := by omega
 have d1'' : decide (m = 0) = false := decide_eq_false n1
 by_cases h1 : 64 < m
 ·have HV : Hid (¬ P) := fun h => by have := (HP.out.1 h).1; rw [HM.out] at this; omega
  have d2 : decide ((64 : Int) < (m : Int)) = true := decide_eq_true (by omega)
  have d2' : decide (64 < m) = true := decide_eq_true h1
  clear h0 h1
  go_enter Tryz.func143, Tryz.ntmps143
  go_wp2_with fail
  go_ret
  exact ⟨Tells.no HV.out, bel⟩
 have d2 : decide ((64 : Int) < (m : Int)) = false := decide_eq_false (by omega)
 have d2' : decide (64 < m) = false := decide_eq_false h1
 have HMR : Hid (1 ≤ m ∧ m ≤ 64) := by show _ ∧ _; omega
 have hm64 : m ≤ 64 := by omega
 clear h0 h1
 go_enter Tryz.func143, Tryz.ntmps143
 go_wp2_with fail
 clear d1 d1' d1'' d2 d2' n1
 go_loopw [17] (fun i wr => ∃ (c : Nat), c ≤ m ∧ i = .int .i64 c ∧ Hid (∀ (i : Nat) (r : List Int), i < c → G[i]? = some r → GRow ns r) ∧ Hid (Loc wr w.heap.size 84 #[.int .i64 ns, .slice A0 m0 c0]) ∧ Below w.heap.size w wr) (fun i _ => m - (intOf i).toNat)
 case atStart => exact ⟨0, by omega, rfl, Lib.hid (fun i l hi => absurd hi (by omega)), Lib.hid L1.to, bel⟩
 case round =>
  clear L1
  obtain ⟨c, hc, rfl, hall, hL, hB⟩ := hrel
  obtain ⟨wo, rfl⟩ : ∃ wo : World, wo = wr := ⟨_, rfl⟩
  have y5 := hB.size; (try simp only [zs] at y5)
  by_cases hlt : c < m
  ·obtain ⟨r, he⟩ : ∃ l, G[c]? = some l := ⟨_, List.getElem?_eq_getElem (by rw [HM.out]; exact hlt)⟩
   obtain ⟨a, D, d, rfl, hab, hcell, hnum, l5, l6⟩ := (H2.out.keep (.of_below hB)).at he
   have HE := Lib.hid he
   obtain ⟨rn, hrn⟩ : ∃ q, r.length = q := ⟨_, rfl⟩
   have HRN := Lib.hid hrn
   rw [hrn] at hcell l5 hnum
   have HNUM := Lib.hid hnum
   have k0 : (0 : Int) ≤ (c : Int) := by omega
   have k1 : (c : Int) < (m : Int) := by omega
   obtain ⟨e1, f1, -⟩ := Loc.all hL.out (w' := wo)
   have HBAD : Hid (¬ GRow ns r → ¬ P) := fun hq hp => hq ((HP.out.1 hp).2 r (List.mem_of_getElem? HE.out))
   have HNEXT : Hid (GRow ns r → ∀ (i : Nat) (r : List Int), i < c + 1 → G[i]? = some r → GRow ns r) := fun hq i r' hi hr' => by
    by_cases hh : i < c
    ·exact hall.out i r' hh hr'
    ·obtain rfl : i = c := by omega
     rw [HE.out] at hr'
     injection hr' with hr'
     subst hr'
     exact hq
   clear he hrn hnum
   by_cases z1 : (rn : Int) = ns
   case neg =>
    have HV := Lib.hid (HBAD.out (fun h => z1 (by rw [← HRN.out]; exact h.1)))
    have d5 : ((rn : Int) == ns) = false := beq_eq_false_iff_ne.2 z1
    have d6 : ((rn : Int) != ns) = true := bne_iff_ne.2 z1
    clear z1
    go_wp2_with fail
    go_ret
    exact ⟨Tells.no HV.out, bel⟩
   have d5 : ((rn : Int) == ns) = true := beq_iff_eq.2 z1
   have d6 : ((rn : Int) != ns) = false := by simp only [bne, d5]; rfl
   have HZ1 := Lib.hid z1
   clear z1
   go_wp2_with fail
   refine (containsZ_any _ 268 #[] (fun x => x < 0 ∨ 1024 < x) _ r (HNUM.out.keep kp) (enters Tryz.func268 (by kernel_rfl) (by kernel_rfl)) (fun W z hW hz => kgain1_any W z)).mono ?_
   rintro e w2 ⟨⟨b, rfl, hb⟩, hb2⟩
   have y2 := hb2.size; (try simp only [zs] at y2)
   cases b
   ·have HNX := Lib.hid (HNEXT.out ⟨by rw [HRN.out]; exact HZ1.out, fun x hx => Classical.byContradiction fun hn => by
     have := hb.out.2 ⟨x, hx, by omega⟩
     cases this⟩)
    have HL2 : Hid (Loc w2 w.heap.size 84 #[.int .i64 ns, .slice A0 m0 c0]) := Loc.below hL.out hb2
    clear hb e1 f1
    go_wp2_with fail
    go_roundw
    case rel => exact ⟨c + 1, by omega, by go_num, HNX, HL2, bel⟩
    case measure => simp only [intOf]; omega
   ·have HV := Lib.hid (HBAD.out (fun h => by obtain ⟨x, hx, hq⟩ := hb.out.1 rfl; have := h.2 x hx; omega))
    clear hb
    go_wp2_with fail
    go_ret
    exact ⟨Tells.no HV.out, bel⟩
  ·obtain rfl : c = m := by omega
   have HV : Hid P := HP.out.2 ⟨by rw [HM.out]; exact HMR.out, fun v hv => by
    obtain ⟨i, hi, rfl⟩ := List.getElem_of_mem hv
    exact hall.out i _ (by rw [← HM.out]; exact hi) (List.getElem?_eq_getElem hi)⟩
   go_wp2_with fail
   go_ret
   exact ⟨Tells.yes HV.out, hB⟩

set_option maxHeartbeats 4000000 in
theorem earns1_any (w : World) (g : Nat) (ns : Int) (r : List Int) (v : Value) (hg : w.cell? ⟨g, 0, none⟩ = some (.int .i64 ns)) (h : IntsV w v r) :
 Calls Tryz.prog 438 (#[v] ++ #[.pointer (some ⟨g, 0, none⟩)]) w fun e w' => Tells (¬ GRow ns r) e ∧ Below w.heap.size w w' := by
 have H := Lib.hid h
 obtain ⟨A, cap, rfl, h, l1, l2⟩ := h.op
 clear h
 obtain ⟨rn, hrn⟩ : ∃ q, r.length = q := ⟨_, rfl⟩
 have HRN := Lib.hid hrn
 have H2 : Hid (IntsV w (.slice A rn cap) r) := by have h9 := H.out; rw [hrn] at h9; exact h9
 rw [hrn] at l1 ⊢
 obtain ⟨P, hP⟩ : ∃ P, (¬ GRow ns r) = P := ⟨_, rfl⟩
 rw [hP]
 have HP : Hid (P ↔ ¬ GRow ns r) := by rw [← hP]; exact Iff.rfl
 clear hrn H hP
 by_cases z1 : (rn : Int) = ns
 case neg =>
  have HV : Hid P := HP.out.2 (fun h => z1 (by rw [← HRN.out]; exact h.1))
  have d5 : ((rn : Int) == ns) = false := beq_eq_false_iff_ne.2 z1
  have d6 : ((rn : Int) != ns) = true := bne_iff_ne.2 z1
  clear z1
  go_enter Tryz.func438, Tryz.ntmps438
  go_wp2_with fail
  go_ret
  exact ⟨Tells.yes HV.out, bel⟩
 have d5 : ((rn : Int) == ns) = true := beq_iff_eq.2 z1
 have d6 : ((rn : Int) != ns) = false := by simp only [bne, d5]; rfl
 have HZ1 := Lib.hid z1
 clear z1
 go_enter Tryz.func438, Tryz.ntmps438
 go_wp2_with fail
 refine (containsZ_any _ 439 #[] (fun x => x < 0 ∨ 1024 < x) _ r (H2.out.keep kp) (enters Tryz.func439 (by kernel_rfl) (by kernel_rfl)) (fun W z hW hz => earns11_any W z)).mono ?_
 rintro e w2 ⟨⟨b, rfl, hb⟩, hb2⟩
 have y2 := hb2.size; (try simp only [zs] at y2)
 cases b
 ·have HV : Hid (¬ P) := fun hp => HP.out.1 hp ⟨by rw [HRN.out]; exact HZ1.out, fun x hx => Classical.byContradiction fun hn => by
   have := hb.out.2 ⟨x, hx, by omega⟩
   cases this⟩
  clear hb
  go_wp2_with fail
  go_ret
  exact ⟨Tells.no HV.out, bel⟩
 ·have HV : Hid P := HP.out.2 (fun h => by obtain ⟨x, hx, hq⟩ := hb.out.1 rfl; have := h.2 x hx; omega)
  clear hb
  go_wp2_with fail
  go_ret
  exact ⟨Tells.yes HV.out, bel⟩

set_option maxRecDepth 100000 in
set_option maxHeartbeats 8000000 in
theorem earns_any (w : World) (ns : Int) (vm vg : Value) (G : List (List Int)) (hv : ∃ A m c, vm = Value.slice A m c) (h : IMat w vg G) :
 Calls Tryz.prog 368 #[.agg #[.int .i64 ns, vm], vg] w fun e w' => Tells (GainOk ns G) e ∧ Below w.heap.size w w' := by
 obtain ⟨A0, m0, c0, rfl⟩ := hv
 have H := Lib.hid h
 obtain ⟨A, cap, rfl, h, l1, l2⟩ := h.op
 clear h
 obtain ⟨m, hm⟩ : ∃ m, G.length = m := ⟨_, rfl⟩
 have HM := Lib.hid hm
 have H2 : Hid (IMat w (.slice A m cap) G) := by have h9 := H.out; rw [hm] at h9; exact h9
 rw [hm] at l1 ⊢
 clear hm H
 obtain ⟨P, hP⟩ : ∃ P, GainOk ns G = P := ⟨_, rfl⟩
 rw [hP]
 have HP : Hid (P ↔ GainOk ns G) := by rw [← hP]; exact Iff.rfl
 clear hP
 have L1 := made1 w #[.int .i64 ns, .slice A0 m0 c0] 84
 by_cases h0 : m < 1
 ·have HV : Hid (¬ P) := fun h => by have := (HP.out.1 h).1; rw [HM.out] at this; omega
  obtain rfl : m = 0 := by omega
  clear h0
  go_enter Tryz.func368, Tryz.ntmps368
  go_wp2_with fail
  go_ret
  exact ⟨Tells.no HV.out, bel⟩
 have d1 : decide ((m : Int) < 1) = false := decide_eq_false (by omega)
 have d1' : decide (m < 1) = false := decide_eq_false h0
 have n1 : ¬ m = 0 := by omega
 have d1'' : decide (m = 0) = false := decide_eq_false n1
 by_cases h1 : 64 < m
 ·have HV : Hid (¬ P) := fun h => by have := (HP.out.1 h).1; rw [HM.out] at this; omega
  have d2 : decide ((64 : Int) < (m : Int)) = true := decide_eq_true (by omega)
  have d2' : decide (64 < m) = true := decide_eq_true h1
  clear h0 h1
  go_enter Tryz.func368, Tryz.ntmps368
  go_wp2_with fail
  go_ret
  exact ⟨Tells.no HV.out, bel⟩
 have d2 : decide ((64 : Int) < (m : Int)) = false := decide_eq_false (by omega)
 have d2' : decide (64 < m) = false := decide_eq_false h1
 have HMR : Hid (1 ≤ m ∧ m ≤ 64) := by show _ ∧ _; omega
 clear h0 h1
 go_enter Tryz.func368, Tryz.ntmps368
 go_wp2_with fail
 refine (containsGa_any _ 438 #[.pointer (some ⟨w.heap.size, 0, none⟩)] (fun r => ¬ GRow ns r) _ G (H2.out.keep kp) (enters Tryz.func438 (by kernel_rfl) (by kernel_rfl)) (fun W A c r hW hl _ => earns1_any W w.heap.size ns r _ (Loc.c 0 (L1.to (w' := W))) hl)).mono ?_
 rintro e w2 ⟨⟨b, rfl, hb⟩, hb2⟩
 have y2 := hb2.size; (try simp only [zs] at y2)
 cases b
 ·have HV : Hid P := HP.out.2 ⟨by rw [HM.out]; exact HMR.out, fun r hr => Classical.byContradiction fun hn => by
   have := hb.out.2 ⟨r, hr, hn⟩
   cases this⟩
  clear hb
  go_wp2_with fail
  go_ret
  exact ⟨Tells.yes HV.out, bel⟩
 ·have HV : Hid (¬ P) := fun h => by
   obtain ⟨r, hr, hq⟩ := hb.out.1 rfl
   exact hq ((HP.out.1 h).2 r hr)
  clear hb
  go_wp2_with fail
  go_ret
  exact ⟨Tells.no HV.out, bel⟩
end Go.Proofs.YtbdcjhoedhhabaaGreat

