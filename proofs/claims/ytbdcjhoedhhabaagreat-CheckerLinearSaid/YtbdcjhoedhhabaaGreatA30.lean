/- Contracts of the functions that the statements reach, part 30. -/
import Derived.Test.YtbdcjhoedhhabaaGreatRows
import Derived.Test.YtbdcjhoedhhabaaGreatA21
import Derived.Test.YtbdcjhoedhhabaaGreatA28
import Derived.Test.YtbdcjhoedhhabaaGreatA29
set_option linter.unusedSimpArgs false
set_option linter.unusedVariables false

/- slices.ContainsFunc at the two predicates: a row of another length, a number below zero. -/
namespace Go.Proofs.YtbdcjhoedhhabaaGreat
open Go.RowKit
attribute [local go_sem ↓] Go.wp_at_zero Go.wp_at_succ

set_option maxHeartbeats 2000000 in
theorem valid1_any (w : World) (D : Option Addr) (l d g n : Nat) (hg : w.cell? ⟨g, 0, none⟩ = some (.int .i64 n)) :
 Calls Tryz.prog 107 #[.slice D l d, .pointer (some ⟨g, 0, none⟩)] w fun e w' => e = .returned (.bool (!decide (l = n))) ∧ Below w.heap.size w w' := by
 obtain ⟨b, hb⟩ : ∃ b, (!decide (l = n)) = b := ⟨_, rfl⟩
 rw [hb]
 by_cases h : l = n
 ·obtain rfl : b = false := by rw [← hb, decide_eq_true h]; rfl
  clear hb
  subst h
  go_enter Tryz.func107, Tryz.ntmps107
  go_wp2_with fail
  go_ret
  refine ⟨?_, bel⟩
  simp
 ·obtain rfl : b = true := by rw [← hb, decide_eq_false h]; rfl
  clear hb
  have h2 : ((l : Int) == (n : Int)) = false := beq_eq_false_iff_ne.2 (by omega)
  have h3 : ((l : Int) != (n : Int)) = true := bne_iff_ne.2 (by omega)
  go_enter Tryz.func107, Tryz.ntmps107
  go_wp2_with fail
  go_ret
  refine ⟨?_, bel⟩
  simp [h, h2, h3]

set_option maxHeartbeats 4000000 in
theorem indexLen_any (w : World) (va : Value) (m k g n : Nat) (N : Nat → Nat) (F : Nat → Nat → Rat) (h : Mat k w (fun _ => False) va m N F) (hg : w.cell? ⟨g, 0, none⟩ = some (.int .i64 n)) (hm : m ≤ 1000000) (hgl : g < w.heap.size) :
 Calls Tryz.prog 231 #[va, .func (Fn.func 107) #[] #[.pointer (some ⟨g, 0, none⟩)]] w fun e w' => ∃ r : Int, e = .returned (.int .i64 r) ∧ ((0 ≤ r ∧ ¬ ∀ i, i < m → N i = n) ∨ (r < 0 ∧ ∀ i, i < m → N i = n)) ∧ Below w.heap.size w w' := by
 obtain ⟨A, c1, rfl, h, l1, l2⟩ := h.op
 have H := Lib.hid h
 clear h
 go_enter Tryz.func231, Tryz.ntmps231
 go_wp2_with fail
 go_loopw [8] (fun i wr => ∃ (c : Nat), c ≤ m ∧ i = .int .i64 c ∧ Hid (∀ i, i < c → N i = n) ∧ Below w.heap.size w wr) (fun i _ => m - (intOf i).toNat)
 case atStart => exact ⟨0, by omega, rfl, Lib.hid (fun i hi => absurd hi (by omega)), bel⟩
 case round =>
  obtain ⟨c, hc, rfl, hall, hB⟩ := hrel
  obtain ⟨wo, rfl⟩ : ∃ wo : World, wo = wr := ⟨_, rfl⟩
  have y5 := hB.size; (try simp only [zs] at y5)
  by_cases hlt : c < m
  ·obtain ⟨a, D, d, rfl, hab, -, hcell, hnum, l3, l4⟩ := Mat.at (Mat.keep H.out (.of_below hB)) hlt
   go_wp2_with fail
   refine (valid1_any _ D (N c) d g n (cell_keep (X := fun _ => False) hg hgl id (.of_below hB))).mono ?_
   rintro e w2 ⟨he, hb2⟩
   have y2 := hb2.size; (try simp only [zs] at y2)
   rcases Classical.em ((fun i => N i = n) c) with hgd | hgd
   ·have he2 : e = .returned (.bool false) := by rw [he, decide_eq_true (show N c = n from hgd)]; rfl
    subst he2
    have HGD := Lib.hid hgd
    clear hgd he
    go_wp2_with fail
    go_roundw
    case rel =>
     refine ⟨c + 1, by omega, by go_num, Lib.hid (fun i hi => ?_), bel⟩
     by_cases hic : i < c
     ·exact hall.out i hic
     ·obtain rfl : i = c := by omega
      exact HGD.out
    case measure => simp only [intOf]; omega
   ·have he2 : e = .returned (.bool true) := by rw [he, decide_eq_false (show ¬ N c = n from hgd)]; rfl
    subst he2
    have HGD := Lib.hid hgd
    clear hgd he
    go_wp2_with fail
    go_ret
    exact ⟨_, rfl, .inl ⟨by omega, fun hh => HGD.out (hh c hlt)⟩, bel⟩
  ·obtain rfl : c = m := by omega
   go_wp2_with fail
   go_ret
   exact ⟨_, rfl, .inr ⟨by decide, hall.out⟩, hB⟩

set_option maxHeartbeats 4000000 in
theorem containsLen_any (w : World) (va : Value) (m k g n : Nat) (N : Nat → Nat) (F : Nat → Nat → Rat) (h : Mat k w (fun _ => False) va m N F) (hg : w.cell? ⟨g, 0, none⟩ = some (.int .i64 n)) (hm : m ≤ 1000000) (hgl : g < w.heap.size) :
 Calls Tryz.prog 106 #[va, .func (Fn.func 107) #[] #[.pointer (some ⟨g, 0, none⟩)]] w fun e w' => ∃ b : Bool, e = .returned (.bool b) ∧ (b = false ↔ ∀ i, i < m → N i = n) ∧ Below w.heap.size w w' := by
 obtain ⟨A, c1, rfl, h, l1, l2⟩ := h.op
 have H := Lib.hid h
 clear h
 go_enter Tryz.func106, Tryz.ntmps106
 go_wp2_with fail
 refine (indexLen_any _ _ m k g n N F H.out hg hm hgl).mono ?_
 rintro e w1 ⟨r, rfl, hr, hb1⟩
 have y1 := hb1.size; (try simp only [zs] at y1)
 have HR := Lib.hid hr
 clear hr
 by_cases h0 : 0 ≤ r
 ·go_wp2_with fail
  go_ret
  refine ⟨true, rfl, ?_, bel⟩
  rcases HR.out with ⟨_, h⟩ | ⟨h, _⟩
  ·exact ⟨fun h' => (by cases h'), fun h' => absurd h' h⟩
  ·omega
 ·go_wp2_with fail
  go_ret
  refine ⟨false, ?_, ?_, bel⟩
  ·simp
   omega
  ·rcases HR.out with ⟨h, _⟩ | ⟨_, h⟩
   ·omega
   ·exact ⟨fun _ => h, fun _ => rfl⟩

set_option maxHeartbeats 4000000 in
theorem indexNeg_any (w : World) (va : Value) (m k : Nat) (f : Nat → Rat) (h : Nums k w (fun _ => False) va m f) (hm : m ≤ 1000000) :
 Calls Tryz.prog 230 #[va, .func (Fn.func 233) #[] #[]] w fun e w' => ∃ r : Int, e = .returned (.int .i64 r) ∧ ((0 ≤ r ∧ ¬ ∀ i, i < m → ¬ f i < 0) ∨ (r < 0 ∧ ∀ i, i < m → ¬ f i < 0)) ∧ Below w.heap.size w w' := by
 obtain ⟨A, c1, rfl, h, l1, l2⟩ := h.op
 have H := Lib.hid h
 clear h
 go_enter Tryz.func230, Tryz.ntmps230
 go_wp2_with fail
 go_loopw [8] (fun i wr => ∃ (c : Nat), c ≤ m ∧ i = .int .i64 c ∧ Hid (∀ i, i < c → ¬ f i < 0) ∧ Below w.heap.size w wr) (fun i _ => m - (intOf i).toNat)
 case atStart => exact ⟨0, by omega, rfl, Lib.hid (fun i hi => absurd hi (by omega)), bel⟩
 case round =>
  obtain ⟨c, hc, rfl, hall, hB⟩ := hrel
  obtain ⟨wo, rfl⟩ : ∃ wo : World, wo = wr := ⟨_, rfl⟩
  have y5 := hB.size; (try simp only [zs] at y5)
  by_cases hlt : c < m
  ·obtain ⟨a, b3, A3, m3, c3, b3', A3', m3', c3', rfl, ha, -, x0, x1, x2, x3, r3⟩ := Nums.at (Nums.keep H.out (.of_below hB)) hlt
   replace x1 : wo.cell? ⟨(a.add (c * 4)).block, (a.add (c * 4)).off + 1, none⟩ = _ := x1
   replace x2 : wo.cell? ⟨(a.add (c * 4)).block, (a.add (c * 4)).off + 2, none⟩ = _ := x2
   replace x3 : wo.cell? ⟨(a.add (c * 4)).block, (a.add (c * 4)).off + 3, none⟩ = _ := x3
   go_wp2_with fail
   refine (negative_any _ k _ (f c) r3).mono ?_
   rintro e w2 ⟨he, hb2⟩
   have y2 := hb2.size; (try simp only [zs] at y2)
   rcases Classical.em ((fun i => ¬ f i < 0) c) with hgd | hgd
   ·have he2 : e = .returned (.bool false) := by rw [he, decide_eq_false (show ¬ f c < 0 from hgd)]
    subst he2
    have HGD := Lib.hid hgd
    clear hgd he
    go_wp2_with fail
    go_roundw
    case rel =>
     refine ⟨c + 1, by omega, by go_num, Lib.hid (fun i hi => ?_), bel⟩
     by_cases hic : i < c
     ·exact hall.out i hic
     ·obtain rfl : i = c := by omega
      exact HGD.out
    case measure => simp only [intOf]; omega
   ·have he2 : e = .returned (.bool true) := by rw [he, decide_eq_true (show f c < 0 from Classical.not_not.1 hgd)]
    subst he2
    have HGD := Lib.hid hgd
    clear hgd he
    go_wp2_with fail
    go_ret
    exact ⟨_, rfl, .inl ⟨by omega, fun hh => HGD.out (hh c hlt)⟩, bel⟩
  ·obtain rfl : c = m := by omega
   go_wp2_with fail
   go_ret
   exact ⟨_, rfl, .inr ⟨by decide, hall.out⟩, hB⟩

set_option maxHeartbeats 4000000 in
theorem containsNeg_any (w : World) (va : Value) (m k : Nat) (f : Nat → Rat) (h : Nums k w (fun _ => False) va m f) (hm : m ≤ 1000000) :
 Calls Tryz.prog 104 #[va, .func (Fn.func 233) #[] #[]] w fun e w' => ∃ b : Bool, e = .returned (.bool b) ∧ (b = false ↔ ∀ i, i < m → ¬ f i < 0) ∧ Below w.heap.size w w' := by
 obtain ⟨A, c1, rfl, h, l1, l2⟩ := h.op
 have H := Lib.hid h
 clear h
 go_enter Tryz.func104, Tryz.ntmps104
 go_wp2_with fail
 refine (indexNeg_any _ _ m k f H.out hm).mono ?_
 rintro e w1 ⟨r, rfl, hr, hb1⟩
 have y1 := hb1.size; (try simp only [zs] at y1)
 have HR := Lib.hid hr
 clear hr
 by_cases h0 : 0 ≤ r
 ·go_wp2_with fail
  go_ret
  refine ⟨true, rfl, ?_, bel⟩
  rcases HR.out with ⟨_, h⟩ | ⟨h, _⟩
  ·exact ⟨fun h' => (by cases h'), fun h' => absurd h' h⟩
  ·omega
 ·go_wp2_with fail
  go_ret
  refine ⟨false, ?_, ?_, bel⟩
  ·simp
   omega
  ·rcases HR.out with ⟨h, _⟩ | ⟨_, h⟩
   ·omega
   ·exact ⟨fun _ => h, fun _ => rfl⟩

/- Valid. -/

/-- The sizes of a system are right. -/
def VS (m mb : Nat) (N : Nat → Nat) : Prop := 1 ≤ m ∧ m ≤ 80 ∧ mb = m ∧ 1 ≤ N 0 ∧ N 0 ≤ 80 ∧ ∀ i, i < m → N i = N 0

/-- The answer is a bool that tells whether P. -/
def Tells (P : Prop) (e : Ending) : Prop := ∃ b : Bool, e = .returned (.bool b) ∧ Hid (b = true ↔ P)
theorem Tells.yes {P : Prop} (h : P) : Tells P (.returned (.bool true)) := ⟨true, rfl, fun _ => h, fun _ => rfl⟩
theorem Tells.no {P : Prop} (h : ¬ P) : Tells P (.returned (.bool false)) := ⟨false, rfl, fun h => (by cases h), fun h' => absurd h' h⟩

set_option maxHeartbeats 4000000 in
theorem valid_any (w : World) (va vb : Value) (m mb k : Nat) (N : Nat → Nat) (F : Nat → Nat → Rat) (Bv : Nat → Rat) (h : Mat k w (fun _ => False) va m N F) (hb : Nums k w (fun _ => False) vb mb Bv) :
 Calls Tryz.prog 36 #[.agg #[va, vb]] w fun e w' => Tells (VS m mb N) e ∧ Below w.heap.size w w' := by
 have H := Lib.hid h
 obtain ⟨A, c1, rfl, h, l1, l2⟩ := h.op
 obtain ⟨B, c2, rfl, hb, l3, l4⟩ := hb.op
 by_cases h1 : m < 1
 ·have hv : Hid (¬ VS m mb N) := fun h => by have := h.1; omega
  clear h
  go_enter Tryz.func36, Tryz.ntmps36
  go_wp2_with fail
  go_ret
  exact ⟨Tells.no hv.out, bel⟩
 by_cases h2 : 80 < m
 ·have hv : Hid (¬ VS m mb N) := fun h => by have := h.2.1; omega
  clear h
  go_enter Tryz.func36, Tryz.ntmps36
  go_wp2_with fail
  go_ret
  exact ⟨Tells.no hv.out, bel⟩
 by_cases h3 : mb ≠ m
 ·have hv : Hid (¬ VS m mb N) := fun h => by have := h.2.2.1; omega
  have h4 : ((mb : Int) == (m : Int)) = false := beq_eq_false_iff_ne.2 (by omega)
  have h5 : ((mb : Int) != (m : Int)) = true := bne_iff_ne.2 (by omega)
  clear h
  go_enter Tryz.func36, Tryz.ntmps36
  go_wp2_with fail
  go_ret
  exact ⟨Tells.no hv.out, bel⟩
 obtain rfl : mb = m := Classical.not_not.1 h3
 clear h3
 obtain ⟨a, D, d, rfl, hab, -, hcell, hnum, l5, l6⟩ := Mat.at h (show 0 < mb by omega)
 have e0 : a.add 0 = a := by simp [Addr.add]
 rw [e0] at hcell
 have hc2 : (w.alloc (.cells #[.slice (some a) mb c1, .slice B mb c2] 73)).cell? a = _ := cell_keep (X := fun _ => False) hcell hab id kp
 have q0 : (0 : Int) < (mb : Int) := by omega
 obtain ⟨n, hn⟩ : ∃ n, N 0 = n := ⟨_, rfl⟩
 have HN := Lib.hid hn
 rw [hn] at hcell hnum hc2 l5
 clear hn hnum h hb
 have hVS : Hid (VS mb mb N ↔ (1 ≤ n ∧ n ≤ 80 ∧ ∀ i, i < mb → N i = n)) := by
  show _ ↔ _
  unfold VS
  rw [HN.out]
  constructor
  ·rintro ⟨_, _, _, h⟩; exact h
  ·intro h; exact ⟨by omega, by omega, rfl, h⟩
 by_cases h6 : n < 1
 ·have hv : Hid (¬ VS mb mb N) := fun h => by have := (hVS.out.1 h).1; omega
  go_enter Tryz.func36, Tryz.ntmps36
  go_wp2_with fail
  go_ret
  exact ⟨Tells.no hv.out, bel⟩
 by_cases h7 : 80 < n
 ·have hv : Hid (¬ VS mb mb N) := fun h => by have := (hVS.out.1 h).2.1; omega
  go_enter Tryz.func36, Tryz.ntmps36
  go_wp2_with fail
  go_ret
  exact ⟨Tells.no hv.out, bel⟩
 go_enter Tryz.func36, Tryz.ntmps36
 go_wp2_with fail
 have hq : ((w.alloc (.cells #[.slice (some a) mb c1, .slice B mb c2] 73)).alloc (.cells #[.int .i64 n] 3)).cell? ⟨w.heap.size + 1, 0, none⟩ = some (.int .i64 n) := Loc.c 0 (made2 w (.cells #[.slice (some a) mb c1, .slice B mb c2] 73) #[.int .i64 n] 3)
 refine (containsLen_any _ _ mb k (w.heap.size + 1) n N F (Mat.keep H.out kp) hq (by omega) (by simp only [World.size_alloc]; omega)).mono ?_
 rintro e w1 ⟨b, rfl, hbi, hb1⟩
 obtain ⟨z1, z2⟩ := sz2 hb1
 have HB : Hid (b = false ↔ ∀ i, i < mb → N i = n) := hbi
 clear hbi
 cases b
 ·have HV : Hid (VS mb mb N) := hVS.out.2 ⟨by omega, by omega, HB.out.1 rfl⟩
  clear HB
  go_wp2_with fail
  go_ret
  exact ⟨Tells.yes HV.out, bel⟩
 ·have HV : Hid (¬ VS mb mb N) := fun h => by have := HB.out.2 (hVS.out.1 h).2.2; cases this
  clear HB
  go_wp2_with fail
  go_ret
  exact ⟨Tells.no HV.out, bel⟩
end Go.Proofs.YtbdcjhoedhhabaaGreat

/- Answers that tell, settled (as in Nl5, which serves layer 8). -/
namespace Go.Proofs.YtbdcjhoedhhabaaGreat
open Go.RowKit
theorem Tells.eq {P : Prop} {e : Ending} {b : Bool} (h : Tells P e) (hb : b = true ↔ P) : e = .returned (.bool b) := by
 obtain ⟨c, rfl, hc⟩ := h
 have : c = b := by
  have h1 := hc.out.trans hb.symm
  cases c <;> cases b <;> simp_all
 rw [this]
theorem tell (P : Prop) : ∃ b : Bool, Hid (b = true ↔ P) := by
 rcases Classical.em P with h | h
 ·exact ⟨true, fun _ => h, fun _ => rfl⟩
 ·exact ⟨false, fun h' => (by cases h'), fun h' => absurd h' h⟩

/- Lists of fractions that grow by append, or are made. -/

theorem info_rat : (Tryz.prog.info? 213).map (fun i => (i.zero, i.size, i.bytes)) = some (some (.agg #[.bool false, .slice none 0 0, .bool false, .slice none 0 0]), 4, 64) := by kernel_rfl

/-- A list of fractions that lies in a block of its own, at or above base. -/
def OwnR (w : World) (base : Nat) (v : Value) (rs : List R4) : Prop := w.ownsRow base 213 4 v rs.length (flat rs)

theorem OwnR.nil (w : World) (base : Nat) : OwnR w base (.slice none 0 0) [] := World.ownsRow_nil _ _ _ _

theorem r4_one (r : R4) : ∀ u ∈ r.cs, u.oneCell' = true := by
 intro u hu
 simp [R4.cs] at hu
 rcases hu with rfl | rfl | rfl | rfl <;> rfl

section
variable {w w' : World} {base k : Nat} {v : Value} {rs : List R4} {X Y : Nat → Prop} {f : Nat → Rat}
theorem OwnR.line {g n : Nat} (h : OwnR w base (.slice (some ⟨g, 0, none⟩) n n) rs) : Line w g rs ∧ rs.length = n := by
 have hl := h.1
 rw [flat_len] at hl
 rcases h.2 with ⟨h', _⟩ | ⟨g', cap', cur, h', _, hg, _, _, hsz, htake⟩
 ·simp at h'
 ·simp only [Value.slice.injEq, Option.some.injEq, Addr.mk.injEq, and_true, true_and] at h'
  obtain ⟨rfl, hr, rfl⟩ := h'
  refine ⟨?_, hr.symm⟩
  have : cur.toList = flat rs := by
   rw [← htake, List.take_of_length_le (by simp; omega)]
  unfold Line Loc
  rw [hg, ← this]
theorem OwnR.lt (h : OwnR w base v rs) {g : Nat} (hg : v.ownBlock = some g) : g < w.heap.size ∧ base ≤ g := by
 rcases h.2 with ⟨h', _⟩ | ⟨g', cap', cur, h', hb, hg', _, _, hsz, htake⟩
 ·rw [h'] at hg; cases hg
 ·rw [h'] at hg; injection hg with hg; subst hg
  exact ⟨(Array.getElem?_eq_some_iff.1 hg').1, hb⟩
theorem OwnR.nums (h : OwnR w base v rs) (hv : ValL k w X rs f) (hY : ∀ b, b < w.heap.size → Y b → X b) (hg : ∀ g, v.ownBlock = some g → ¬ Y g) : Nums k w Y v rs.length f := by
 have hl := h.1
 rcases h.2 with ⟨rfl, hn⟩ | ⟨g', cap', cur, rfl, _, hg', h1, h2, hsz, htake⟩
 ·rw [hn]; exact Nums.nil k w Y f
 ·refine ⟨rs, _, _, rfl, rfl, h1, h2, fun _ => ⟨_, rfl, (Array.getElem?_eq_some_iff.1 hg').1, hg _ rfl, fun i r hr => ?_⟩, hv.weak hY⟩
  obtain ⟨c0, c1, c2, c3⟩ := flat_get rs i r hr
  have hi := (List.getElem?_eq_some_iff.1 hr).1
  have e : ∀ i, (⟨g', 0, none⟩ : Addr).add i = ⟨g', i, none⟩ := fun i => by simp [Addr.add]; intro h; omega
  have e2 : ∀ i j, (⟨g', i, none⟩ : Addr).add j = ⟨g', i + j, none⟩ := fun i j => by simp [Addr.add]
  rw [e, e2, e2, e2]
  have key : ∀ (j : Nat) (u : Value), (flat rs)[j]? = some u → w.cell? ⟨g', j, none⟩ = some u := fun j u hu => by
   rw [cell_of_row w g' j cur _ (0, 0) hg']
   rw [← htake, List.getElem?_take] at hu
   split at hu
   ·simpa using hu
   ·cases hu
  exact ⟨key _ _ c0, key _ _ c1, key _ _ c2, key _ _ c3⟩
theorem OwnR.below (h : OwnR w base v rs) (hb : Below w.heap.size w w') : OwnR w' base v rs := by
 refine ⟨h.1, ?_⟩
 rcases h.2 with ⟨h', hn⟩ | ⟨g', cap', cur, h', h3, hg', h1, h2, hsz, htake⟩
 ·exact .inl ⟨h', hn⟩
 ·exact .inr ⟨g', cap', cur, h', h3, by rw [hb.block g' (Array.getElem?_eq_some_iff.1 hg').1]; exact hg', h1, h2, hsz, htake⟩
theorem OwnR.keep (h : OwnR w base v rs) (hb : Keep X w w') (hX : ∀ g, v.ownBlock = some g → ¬ X g) : OwnR w' base v rs := by
 refine ⟨h.1, ?_⟩
 rcases h.2 with ⟨h', hn⟩ | ⟨g', cap', cur, h', h3, hg', h1, h2, hsz, htake⟩
 ·exact .inl ⟨h', hn⟩
 ·exact .inr ⟨g', cap', cur, h', h3, by rw [hb.block g' (Array.getElem?_eq_some_iff.1 hg').1 (hX g' (by rw [h']; rfl))]; exact hg', h1, h2, hsz, htake⟩
end

/-- One fraction appended. -/
theorem wp_pushR {o : Oper} {a : Act} {K : Act → World → Prop} {Q : Exit → Act → World → Prop} (w : World) (s x : Operand) (ho : o.op = .call { callee := .builtin .append, args := #[s, x], argTypes := #[71, 71] })
 (base : Nat) (v : Value) (rs : List R4) (hs : a.eval s = v) (hown : OwnR w base v rs) (H : Nat) (r : R4) (hx : a.eval x = .slice (some ⟨H, 0, none⟩) 1 1) (hH : w.heap[H]? = some (.cells r.cs.toArray 213 (0, 0)))
 (hn : rs.length ≤ 1000) (hbase : base ≤ w.heap.size)
 (h : ∀ g cap w', OwnR w' base (.slice (some ⟨g, 0, none⟩) (rs.length + 1) cap) (rs ++ [r]) → w.grownBy w' v.ownBlock → (v.ownBlock = some g ∨ g = w.heap.size) → g < w'.heap.size → K (a.put o.dst (.slice (some ⟨g, 0, none⟩) (rs.length + 1) cap)) w') :
 Oper.wp Tryz.prog o a w K Q := by
 obtain ⟨i, hi, hz0, hz1, hz2⟩ := info_parts info_rat
 refine wp_append_lies w s x 71 ho base 213 i _ 4 64 Tryz.underlying71 hi hz0 hz1 hz2 rfl (by decide) v rs.length (flat rs) hs hown ⟨H, 0, none⟩ 1 1 r.cs hx rfl (fun j u hu => World.news_of_block hH j u (by simpa using hu)) (r4_one r) (by decide) (by unfold maxLen; omega) (by omega) hbase _ rfl ?_
 intro g cap w' h1 h2 h3 h4
 refine h g cap w' ?_ h2 h3 h4
 unfold OwnR
 rw [List.length_append, flat_app, flat_one]
 exact h1
theorem wpList_pushR {ops : Array Oper} {rest : List Oper} {o : Oper} {a : Act} {Q : Exit → Act → World → Prop} (w : World) (hgd : o.guard = none) (s x : Operand) (ho : o.op = .call { callee := .builtin .append, args := #[s, x], argTypes := #[71, 71] })
 (base : Nat) (v : Value) (rs : List R4) (hs : a.eval s = v) (hown : OwnR w base v rs) (H : Nat) (r : R4) (hx : a.eval x = .slice (some ⟨H, 0, none⟩) 1 1) (hH : w.heap[H]? = some (.cells r.cs.toArray 213 (0, 0)))
 (hn : rs.length ≤ 1000) (hbase : base ≤ w.heap.size)
 (h : ∀ g cap w', OwnR w' base (.slice (some ⟨g, 0, none⟩) (rs.length + 1) cap) (rs ++ [r]) → w.grownBy w' v.ownBlock → (v.ownBlock = some g ∨ g = w.heap.size) → g < w'.heap.size → wpList Tryz.prog ops Q rest (a.put o.dst (.slice (some ⟨g, 0, none⟩) (rs.length + 1) cap)) w') : wpList Tryz.prog ops Q (o :: rest) a w :=
 wpList_plain hgd fun _ hK => wp_pushR w s x ho base v rs hs hown H r hx hH hn hbase fun g cap w' h1 h2 h3 h4 => hK _ _ (h g cap w' h1 h2 h3 h4)
theorem step_pushR {ops : Array Oper} {o : Oper} {a : Act} {K : Act → World → Prop} {Q : Exit → Act → World → Prop} {E : Prop} (w : World) (hgd : o.guard = none) (s x : Operand) (ho : o.op = .call { callee := .builtin .append, args := #[s, x], argTypes := #[71, 71] })
 (base : Nat) (v : Value) (rs : List R4) (hs : a.eval s = v) (hown : OwnR w base v rs) (H : Nat) (r : R4) (hx : a.eval x = .slice (some ⟨H, 0, none⟩) 1 1) (hH : w.heap[H]? = some (.cells r.cs.toArray 213 (0, 0)))
 (hn : rs.length ≤ 1000) (hbase : base ≤ w.heap.size)
 (h : ∀ g cap w', OwnR w' base (.slice (some ⟨g, 0, none⟩) (rs.length + 1) cap) (rs ++ [r]) → w.grownBy w' v.ownBlock → (v.ownBlock = some g ∨ g = w.heap.size) → g < w'.heap.size → K (a.put o.dst (.slice (some ⟨g, 0, none⟩) (rs.length + 1) cap)) w') :
 if Region.wanted o (yielded ops a.tmps) = true then Oper.wp Tryz.prog o a w K Q else E := by
 have hw : Region.wanted o (yielded ops a.tmps) = true := by simp [Region.wanted, hgd]
 rw [if_pos hw]
 exact wp_pushR w s x ho base v rs hs hown H r hx hH hn hbase h

end Go.Proofs.YtbdcjhoedhhabaaGreat

/- column. -/
namespace Go.Proofs.YtbdcjhoedhhabaaGreat
open Go.RowKit
attribute [local go_sem ↓] Go.wp_at_zero Go.wp_at_succ

set_option maxHeartbeats 4000000 in
theorem column_any (w : World) (va vb : Value) (m j k : Nat) (N : Nat → Nat) (F : Nat → Nat → Rat) (h : Mat k w (fun _ => False) va m N F) (hs : ∃ B p c, vb = .slice B p c) (hj : ∀ i, i < m → j < N i) (hm : m ≤ 200) :
 Calls Tryz.prog 235 #[.agg #[va, vb], .int .i64 j] w fun e w' => ∃ v', e = .returned v' ∧ Nums k w' (fun _ => False) v' m (fun i => F i j) ∧ Below w.heap.size w w' := by
 obtain ⟨A, c1, rfl, h, l1, l2⟩ := h.op
 obtain ⟨B, p, c2, rfl⟩ := hs
 have H := Lib.hid h
 have HJ := Lib.hid hj
 have i0 : (0 : Int) ≤ (j : Int) := by omega
 clear h hj
 go_enter Tryz.func235, Tryz.ntmps235
 go_wp2_with fail
 go_loopw [5, 11] (fun v i wr => ∃ (c : Nat) (rs : List R4), c ≤ m ∧ i = .int .i64 c ∧ OwnR wr w.heap.size v rs ∧ rs.length = c ∧ ValL k w (fun _ => False) rs (fun i => F i j) ∧ Below w.heap.size w wr) (fun _ i _ => m - (intOf i).toNat)
 case atStart => exact ⟨0, [], by omega, rfl, OwnR.nil _ _, rfl, fun i r hr => by simp at hr, bel⟩
 case round =>
  obtain ⟨c, rs, hc, rfl, hown, hrl, hv, hB⟩ := hrel
  obtain ⟨wo, rfl⟩ : ∃ wo : World, wo = wr := ⟨_, rfl⟩
  have y5 := hB.size; (try simp only [zs] at y5)
  by_cases hlt : c < m
  ·obtain ⟨a, D, d, rfl, hab, -, hcell, hnum, l3, l4⟩ := Mat.at H.out hlt
   have hjc := HJ.out c hlt
   have j1 : (j : Int) < (N c : Int) := by omega
   obtain ⟨a', b3, A3, m3, c3, b3', A3', m3', c3', rfl, ha', -, x0, x1, x2, x3, r3⟩ := Nums.at hnum hjc
   have hcell' : wo.cell? (a.add c) = _ := cell_keep (X := fun _ => False) hcell (by rw [add_block]; exact hab) id (.of_below hB)
   replace x0 : wo.cell? (a'.add (j * 4)) = _ := cell_keep (X := fun _ => False) x0 (by rw [add_block]; exact ha') id (.of_below hB)
   replace x1 : wo.cell? ⟨(a'.add (j * 4)).block, (a'.add (j * 4)).off + 1, none⟩ = _ := cell_keep (X := fun _ => False) x1 (by simp only [add_block]; exact ha') id (.of_below hB)
   replace x2 : wo.cell? ⟨(a'.add (j * 4)).block, (a'.add (j * 4)).off + 2, none⟩ = _ := cell_keep (X := fun _ => False) x2 (by simp only [add_block]; exact ha') id (.of_below hB)
   replace x3 : wo.cell? ⟨(a'.add (j * 4)).block, (a'.add (j * 4)).off + 3, none⟩ = _ := cell_keep (X := fun _ => False) x3 (by simp only [add_block]; exact ha') id (.of_below hB)
   go_wp2_with (at_builtin; refine wpList_pushR _ rfl _ _ rfl w.heap.size _ rs rfl (hown.below ((Below.refl _ _).alloc (Nat.le_refl _) _)) _ ⟨b3, A3, m3, c3, b3', A3', m3', c3'⟩ rfl (heap_alloc_new wo _) (by omega) (by simp only [World.size_alloc]; omega) ?_)
   intro g cap w2 hown2 hg2 ho hl
   have hb2 : Below w.heap.size w w2 := below_own (hB.alloc y5 _) (hown.below ((Below.refl _ _).alloc (Nat.le_refl _) _)) hg2 (Nat.le_refl _) (by simp only [World.size_alloc]; omega)
   go_wp2_with fail
   go_roundw
   case rel =>
    refine ⟨c + 1, rs ++ [⟨b3, A3, m3, c3, b3', A3', m3', c3'⟩], by omega, by go_num, ?_, by simp [hrl], hv.push (by rw [hrl]; exact r3), hb2⟩
    exact hown2
   case measure => simp only [intOf]; omega
  ·obtain rfl : c = m := by omega
   go_wp2_with fail
   go_ret
   subst hrl
   exact ⟨_, rfl, hown.nums (hv.keep (.of_below hB)) (fun _ _ h => h) (fun _ _ h => h), hB⟩

/- solves, CheckPoint. -/

theorem dot_rsz {k n : Nat} {f q : Nat → Rat} (hf : ∀ i, i < n → Rsz k (f i)) (hq : ∀ i, i < n → Rsz k (q i)) (hn : n ≤ 200) (hk : k ≤ 2000) : Rsz 900000 (sm n (fun i => f i * q i)) := by
 have : ∀ i, i ≤ n → Rsz ((2 * k + 2) * i + 2) (sm i (fun i => f i * q i)) := fun i => by
  induction i with
  | zero => intro _; exact (rsz_int (z := 0) (by decide) (by decide))
  | succ i ih =>
    intro hi
    rw [sm_succ]
    exact ((ih (by omega)).add ((hf i (by omega)).mul (hq i (by omega)))).mono (by rw [Nat.mul_add]; omega)
 have h2 : (2 * k + 2) * n ≤ (2 * 2000 + 2) * 200 := Nat.mul_le_mul (by omega) (by omega)
 exact (this n (Nat.le_refl n)).mono (by omega)

/-- The numbers f are a point. -/
def SV (m n nx : Nat) (F : Nat → Nat → Rat) (f bv : Nat → Rat) : Prop := nx = n ∧ (∀ j, j < nx → ¬ f j < 0) ∧ ∀ i, i < m → sm n (fun j => F i j * f j) = bv i

set_option maxHeartbeats 8000000 in
theorem solves_any (w : World) (va vb vx vbv : Value) (m nx mb k : Nat) (N : Nat → Nat) (F : Nat → Nat → Rat) (f bv : Nat → Rat) (h : Mat k w (fun _ => False) va m N F) (hs : ∃ B p c, vb = .slice B p c)
 (hx : Nums k w (fun _ => False) vx nx f) (hbv : Nums k w (fun _ => False) vbv mb bv) (hm1 : 1 ≤ m) (hm2 : m ≤ 80) (hn : N 0 ≤ 80) (hN : ∀ i, i < m → N i = N 0) (hmb : m ≤ mb) (hk1 : 1 ≤ k) (hk : k ≤ 2000) :
 Calls Tryz.prog 232 #[.agg #[va, vb], vx, vbv] w fun e w' => Tells (SV m (N 0) nx F f bv) e ∧ Below w.heap.size w w' := by
 have H := Lib.hid h
 have HX := Lib.hid hx
 have HBV := Lib.hid hbv
 obtain ⟨A, c1, rfl, h, l1, l2⟩ := h.op
 obtain ⟨B, p, c2, rfl⟩ := hs
 obtain ⟨C, c3, rfl, hx, l3, l4⟩ := hx.op
 obtain ⟨E, c4, rfl, hbv, l5, l6⟩ := hbv.op
 obtain ⟨a, D, d, rfl, hab, -, hcell, hnum, l7, l8⟩ := Mat.at h (show 0 < m by omega)
 have e0 : a.add 0 = a := by simp [Addr.add]
 rw [e0] at hcell
 have hc2 : (w.alloc (.cells #[.slice (some a) m c1, .slice B p c2] 73)).cell? a = _ := cell_keep (X := fun _ => False) hcell hab id kp
 have q0 : (0 : Int) < (m : Int) := by omega
 obtain ⟨n, hnn⟩ : ∃ n, N 0 = n := ⟨_, rfl⟩
 rw [hnn] at hcell hnum hc2 l7 hN hn
 rw [hnn]
 have HN := Lib.hid hN
 have L := made1 w #[.slice (some a) m c1, .slice B p c2] 73
 clear hN hnn hnum h hx hbv
 by_cases h1 : nx ≠ n
 ·have hv : Hid (¬ SV m n nx F f bv) := fun h => h1 h.1
  have h4 : ((nx : Int) == (n : Int)) = false := beq_eq_false_iff_ne.2 (by omega)
  have h5 : ((nx : Int) != (n : Int)) = true := bne_iff_ne.2 (by omega)
  go_enter Tryz.func232, Tryz.ntmps232
  go_wp2_with fail
  go_ret
  exact ⟨Tells.no hv.out, bel⟩
 obtain rfl : nx = n := Classical.not_not.1 h1
 clear h1
 go_enter Tryz.func232, Tryz.ntmps232
 go_wp2_with fail
 refine (containsNeg_any _ _ nx k f (Nums.keep HX.out kp) (by omega)).mono ?_
 rintro e w1 ⟨b, rfl, hbi, hb1⟩
 have z1 := sz1 hb1
 have HB : Hid (b = false ↔ ∀ i, i < nx → ¬ f i < 0) := hbi
 clear hbi
 cases b
 ·have HP : Hid (∀ i, i < nx → ¬ f i < 0) := HB.out.1 rfl
  obtain ⟨e1, f1, -⟩ := L.all (w' := w1)
  clear HB hc2
  go_wp2_with fail
  go_loopw [24] (fun i wr => ∃ (c : Nat), c ≤ m ∧ i = .int .i64 c ∧ Hid (∀ i, i < c → sm nx (fun j => F i j * f j) = bv i) ∧ Below w.heap.size w wr) (fun i _ => m - (intOf i).toNat)
  case atStart => exact ⟨0, by omega, rfl, Lib.hid (fun i hi => absurd hi (by omega)), bel⟩
  case round =>
   obtain ⟨c, hc, rfl, hall, hB⟩ := hrel
   obtain ⟨wo, rfl⟩ : ∃ wo : World, wo = wr := ⟨_, rfl⟩
   have y5 := hB.size; (try simp only [zs] at y5)
   by_cases hlt : c < m
   ·obtain ⟨a5, D5, d5, ea5, hab5, -, hcell5, hnum5, l9, l10⟩ := Mat.at (Mat.keep H.out (.of_below hB)) hlt
    injection ea5 with ea5
    subst ea5
    rw [HN.out c hlt] at hcell5 hnum5 l9
    have hcm : c < mb := by omega
    obtain ⟨a6, b6, A6, m6, c6, b6', A6', m6', c6', rfl, ha6, -, x0, x1, x2, x3, r6⟩ := Nums.at (Nums.keep HBV.out (.of_below hB)) hcm
    have HD : Hid (Rsz 900000 (sm nx (fun j => F c j * f j))) := dot_rsz (hnum5.rsz hk1) (HX.out.rsz hk1) (by omega) hk
    have HL : Hid (∀ W, Below wo.heap.size wo W → (W.cell? (a6.add (c * 4)) = some (.bool b6) ∧ W.cell? ⟨(a6.add (c * 4)).block, (a6.add (c * 4)).off + 1, none⟩ = some (.slice A6 m6 c6)) ∧ W.cell? ⟨(a6.add (c * 4)).block, (a6.add (c * 4)).off + 2, none⟩ = some (.bool b6') ∧ W.cell? ⟨(a6.add (c * 4)).block, (a6.add (c * 4)).off + 3, none⟩ = some (.slice A6' m6' c6')) := fun W hW => by
     refine ⟨⟨?_, ?_⟩, ?_, ?_⟩
     ·exact cell_keep (X := fun _ => False) x0 (by rw [add_block]; exact ha6) id (.of_below hW)
     ·exact cell_keep (X := fun _ => False) x1 (by simp only [add_block]; exact ha6) id (.of_below hW)
     ·exact cell_keep (X := fun _ => False) x2 (by simp only [add_block]; exact ha6) id (.of_below hW)
     ·exact cell_keep (X := fun _ => False) x3 (by simp only [add_block]; exact ha6) id (.of_below hW)
    obtain ⟨dv, hdv⟩ : ∃ q, sm nx (fun j => F c j * f j) = q := ⟨_, rfl⟩
    rw [hdv] at HD
    have HDV := Lib.hid hdv
    obtain ⟨qq, hqq⟩ : ∃ q, rcmp dv (bv c) = q := ⟨_, rfl⟩
    have HQ : Hid (qq = 0 ↔ dv = bv c) := by show _ ↔ _; rw [← hqq]; exact rcmp_zero dv (bv c)
    have HQQ := Lib.hid hqq
    clear x0 x1 x2 x3 hdv hqq
    go_wp2_with fail
    go_region_held3 (fun W => (W.cell? (a6.add (c * 4)) = some (.bool b6) ∧ W.cell? ⟨(a6.add (c * 4)).block, (a6.add (c * 4)).off + 1, none⟩ = some (.slice A6 m6 c6)) ∧ W.cell? ⟨(a6.add (c * 4)).block, (a6.add (c * 4)).off + 2, none⟩ = some (.bool b6') ∧ W.cell? ⟨(a6.add (c * 4)).block, (a6.add (c * 4)).off + 3, none⟩ = some (.slice A6' m6' c6'))
     (exact HL.out _ bel)
     (first
      | (go_at_call 234; refine (dot_any _ _ _ nx nx k (F c) f (Nums.keep hnum5 kp) (Nums.keep HX.out kp) (Nat.le_refl _) (by omega) hk1 (by omega)).mono ?_; rintro e u1 ⟨v7, rfl, i7, hb7⟩; rw [HDV.out] at i7; obtain ⟨b7, A7, m7, c7, b7', A7', m7', c7', rfl, i7, -, -⟩ := i7.op; have y7 := hb7.size; (try simp only [zs] at y7))
      | (go_at_call 237; refine (ratcompare_any _ (fun _ => False) _ _ dv (bv c) (RatL.to ((i7.len HD.out).mono (by omega))) (RatL.to (r6.mono (by omega)))).mono ?_; rintro e u2 ⟨he, hb8⟩; rw [HQQ.out] at he; subst he; have y8 := hb8.size; (try simp only [zs] at y8)))
    all_goals
     by_cases hq0 : qq = 0
     ·subst hq0
      have HE := Lib.hid (HQ.out.1 rfl)
      clear HQ HQQ
      go_wp2_with fail
      go_roundw
      case rel =>
       refine ⟨c + 1, by omega, by go_num, Lib.hid (fun i hi => ?_), bel⟩
       by_cases hic : i < c
       ·exact hall.out i hic
       ·obtain rfl : i = c := by omega
        rw [HDV.out]; exact HE.out
      case measure => simp only [intOf]; omega
     ·have HV : Hid (¬ SV m nx nx F f bv) := fun hh => hq0 (HQ.out.2 (by rw [← HDV.out]; exact hh.2.2 c hlt))
      have hq1 : (qq == 0) = false := beq_eq_false_iff_ne.2 hq0
      have hq2 : (qq != 0) = true := bne_iff_ne.2 hq0
      clear HQ HQQ
      go_wp2_with fail
      go_ret
      exact ⟨Tells.no HV.out, bel⟩
   ·obtain rfl : c = m := by omega
    go_wp2_with fail
    go_ret
    exact ⟨Tells.yes ⟨rfl, HP.out, hall.out⟩, hB⟩
 ·have HV : Hid (¬ SV m nx nx F f bv) := fun h => by have := HB.out.2 h.2.1; cases this
  clear HB
  go_wp2_with fail
  go_ret
  exact ⟨Tells.no HV.out, bel⟩
end Go.Proofs.YtbdcjhoedhhabaaGreat

