/- Contracts of the functions that the statements reach, part 39. -/
import Derived.Test.YtdambnieminnfaaGreatRows
import Derived.Test.YtdambnieminnfaaGreatZ25
import Derived.Test.YtdambnieminnfaaGreatZ38
set_option linter.unusedSimpArgs false
set_option linter.unusedVariables false

/- refinement.Equivalent. -/
namespace Go.Proofs.YtdambnieminnfaaGreat
open Go.RowKit
attribute [local go_sem ↓] Go.wp_at_zero Go.wp_at_succ

/-- What Equivalent says. -/
def EqSays (L1 L2 : List (List Int)) (is : Bool) (code : Int) : Prop :=
 ∃ (c1 : Int) (b1 : Bool) (m1 K1 : Nat) (F1 G1 : Nat → Nat → Rat), DecSays L1 L2 c1 b1 m1 F1 K1 G1 ∧ (c1 ≠ 0 → is = false ∧ code = c1) ∧
   (c1 = 0 → ∃ (c2 : Int) (b2 : Bool) (m2 K2 : Nat) (F2 G2 : Nat → Nat → Rat), DecSays L2 L1 c2 b2 m2 F2 K2 G2 ∧ (c2 ≠ 0 → is = false ∧ code = c2) ∧ (c2 = 0 → code = 0 ∧ is = (b1 && b2)))
def EqRes (L1 L2 : List (List Int)) (w : World) (e : Ending) (w' : World) : Prop := ∃ (is : Bool) (code : Int), e = .returned (.tuple #[.bool is, .int .i64 code]) ∧ Hid (EqSays L1 L2 is code) ∧ Below w.heap.size w w'

set_option maxRecDepth 100000 in
set_option maxHeartbeats 16000000 in
theorem equivalent_any (w : World) (v1 v2 : Value) (L1 L2 : List (List Int)) (h1 : IMat w v1 L1) (h2 : IMat w v2 L2) (hs1 : SZ L1 L2) (hs2 : SZ L2 L1) :
 Calls Tryz.prog 39 #[.agg #[v1], .agg #[v2]] w (EqRes L1 L2 w) := by
 have H1 := Lib.hid h1
 have H2 := Lib.hid h2
 have HS1 := Lib.hid hs1
 have HS2 := Lib.hid hs2
 obtain ⟨A1, c1, rfl, -, la1, la2⟩ := h1.op
 obtain ⟨A2, c2, rfl, -, lb1, lb2⟩ := h2.op
 obtain ⟨r, hr⟩ : ∃ r, L1.length = r := ⟨_, rfl⟩
 obtain ⟨s, hs⟩ : ∃ s, L2.length = s := ⟨_, rfl⟩
 rw [hr] at la1 H1
 rw [hs] at lb1 H2
 rw [hr, hs]
 have L := made1 w #[.slice A1 r c1] 24
 have M := made2 w (.cells #[.slice A1 r c1] 24) #[.slice A2 s c2] 24
 clear h1 h2 hr hs hs1 hs2
 go_enter Tryz.func39, Tryz.ntmps39
 go_wp2_with fail
 refine (decide_any _ _ _ L1 L2 (H1.out.keep kp) (H2.out.keep kp) HS1.out).mono ?_
 rintro e w1 ⟨b1, vW, vG, m1, K1, F1, G1, code1, rfl, hm, hd, hb1⟩
 have HD1 := Lib.hid hd.out
 obtain ⟨AW, cW, rfl, -, -, -⟩ := hm.out.1.op
 obtain ⟨AG, cG, rfl, -, -, -⟩ := hm.out.2.op
 obtain ⟨z1, z2⟩ := sz2 hb1
 have L1' : Loc w1 w.heap.size _ _ := L.to
 have M1 : Loc w1 (w.heap.size + 1) _ _ := M.to
 have HB1 : Hid (Below w.heap.size w w1) := bel
 clear hm hd L M hb1
 by_cases h0 : code1 = 0
 case neg =>
  have d1 : (code1 == 0) = false := beq_eq_false_iff_ne.2 h0
  have d2 : (code1 != 0) = true := bne_iff_ne.2 h0
  have HE : Hid (EqSays L1 L2 false code1) := ⟨code1, b1, m1, K1, F1, G1, HD1.out, fun _ => ⟨rfl, rfl⟩, fun h => absurd h h0⟩
  clear h0
  have hb1 := HB1.out
  go_wp2_with fail
  go_ret2
  exact ⟨false, code1, rfl, HE, bel⟩
 subst h0
 have hb1 := HB1.out
 have T1 := made1 w1 #[.bool b1, .slice AW m1 cW, .slice AG K1 cG] 27
 obtain ⟨e1, f1, -⟩ := L1'.all (w' := w1.alloc (.cells #[.bool b1, .slice AW m1 cW, .slice AG K1 cG] 27))
 obtain ⟨e2, f2, -⟩ := M1.all (w' := w1.alloc (.cells #[.bool b1, .slice AW m1 cW, .slice AG K1 cG] 27))
 go_wp2_with fail
 refine (decide_any _ _ _ L2 L1 (H2.out.keep (.of_below (bel : Below w.heap.size w _))) (H1.out.keep (.of_below (bel : Below w.heap.size w _))) HS2.out).mono ?_
 rintro e w2 ⟨b2, vW2, vG2, m2, K2, F2, G2, code2, rfl, hm, hd, hb2⟩
 have HD2 := Lib.hid hd.out
 obtain ⟨AW2, cW2, rfl, -, -, -⟩ := hm.out.1.op
 obtain ⟨AG2, cG2, rfl, -, -, -⟩ := hm.out.2.op
 have y2 := hb2.size; (try simp only [zs] at y2)
 clear hm hd e1 f1 e2 f2
 by_cases h0 : code2 = 0
 case neg =>
  have d1 : (code2 == 0) = false := beq_eq_false_iff_ne.2 h0
  have d2 : (code2 != 0) = true := bne_iff_ne.2 h0
  have HE : Hid (EqSays L1 L2 false code2) := ⟨0, b1, m1, K1, F1, G1, HD1.out, fun h => absurd rfl h, fun _ => ⟨code2, b2, m2, K2, F2, G2, HD2.out, fun _ => ⟨rfl, rfl⟩, fun h => absurd h h0⟩⟩
  clear h0
  go_wp2_with fail
  go_ret2
  exact ⟨false, code2, rfl, HE, bel⟩
 subst h0
 have T1' : Loc w2 w1.heap.size _ _ := T1.to
 obtain ⟨e3, f3, -⟩ := T1'.all (w' := w2.alloc (.cells #[.bool b2, .slice AW2 m2 cW2, .slice AG2 K2 cG2] 27))
 have HE : Hid (EqSays L1 L2 (b1 && b2) 0) := ⟨0, b1, m1, K1, F1, G1, HD1.out, fun h => absurd rfl h, fun _ => ⟨0, b2, m2, K2, F2, G2, HD2.out, fun h => absurd rfl h, fun _ => ⟨rfl, rfl⟩⟩⟩
 cases b1
 ·go_wp2_with fail
  go_ret2
  exact ⟨false, 0, rfl, HE, bel⟩
 ·go_wp2_with fail
  go_ret2
  exact ⟨b2, 0, rfl, by first | exact HE | (have h := HE.out; simpa using h), bel⟩
end Go.Proofs.YtdambnieminnfaaGreat

/- The chapter's examples of channels, plainly. -/
namespace Go.Proofs.YtdambnieminnfaaGreat

def kc : List (List Int) := [[2, 0], [1, 1]]
def kd : List (List Int) := [[3, 1], [2, 2]]
def two2 (a b : Rat) : Nat → Rat := fun i => if i = 0 then a else b
def kW : Nat → Nat → Rat := fun i => if i = 0 then two2 (Rat.divInt 3 4) (Rat.divInt 1 4) else two2 (Rat.divInt 1 4) (Rat.divInt 3 4)
def kG : Nat → Nat → Rat := fun i => if i = 0 then two2 (Rat.divInt 1 1) (Rat.divInt 0 1) else two2 (Rat.divInt 0 1) (Rat.divInt 1 1)
theorem two_cases {p : Nat → Prop} (h0 : p 0) (h1 : p 1) : ∀ i, i < 2 → p i := fun i hi => by
 rcases (show i = 0 ∨ i = 1 by omega) with rfl | rfl
 ·exact h0
 ·exact h1
theorem vc_kc : VC kc := by unfold VC; decide
theorem vc_kd : VC kd := by unfold VC; decide
theorem sz_of_small {L1 L2 : List (List Int)} (h1 : ∀ x y, x < L1.length → y < wid L1 → tot L2 * en L1 x y ≤ 1099511627776) (h2 : ∀ x z, x < L1.length → z < wid L2 → tot L1 * en L2 x z ≤ 1099511627776) (hM : neq L1 L2 ≤ 30) : SZ L1 L2 := fun _ _ _ _ _ =>
 ⟨1099511627776, by decide, h1, h2, by
  refine pow_bits (e := 46) (k := 44) ?_ (by omega)
  have : 2 * ((neq L1 L2 + 1) * 1099511627776) ≤ 2 * (31 * 1099511627776) := Nat.mul_le_mul_left 2 (Nat.mul_le_mul_right _ (by omega))
  exact Nat.le_trans this (by decide)⟩
/-- Channels of at most 5 rows and columns have small systems. -/
theorem sz_few {L1 L2 : List (List Int)} (h1 : L1.length ≤ 5) (h2 : ∀ l ∈ L1, l.length ≤ 5) (h3 : L2.length ≤ 5) (h4 : ∀ l ∈ L2, l.length ≤ 5) : SZ L1 L2 := fun v1 v2 hl hnk hM => by
 have hw1 : wid L1 ≤ 5 := h2 _ (getD_mem v1.1)
 have hw2 : wid L2 ≤ 5 := h4 _ (getD_mem v2.1)
 refine sz_of_small (fun x y hx hy => ?_) (fun x z hx hz => ?_) ?_ v1 v2 hl hnk hM
 ·obtain ⟨_, _, _, a⟩ := v1.en hx hy
  exact (mul40 v2.tot a).2
 ·obtain ⟨_, _, _, a⟩ := v2.en (show x < L2.length by omega) hz
  exact (mul40 v1.tot a).2
 ·unfold neq
  have : L1.length * wid L2 ≤ 5 * 5 := Nat.mul_le_mul h1 hw2
  omega
theorem sz_kcd : SZ kc kd := sz_few (by decide) (by decide) (by decide) (by decide)
theorem sz_kdc : SZ kd kc := sz_few (by decide) (by decide) (by decide) (by decide)
theorem k_wit : WIT kc kd 2 (fun _ => 2) kW := by
 refine ⟨vc_kc, vc_kd, rfl, ⟨⟨by decide, by decide, two_cases ⟨rfl, two_cases ?_ ?_⟩ ⟨rfl, two_cases ?_ ?_⟩⟩, two_cases ?_ ?_⟩, rfl, rfl, two_cases (two_cases ?_ ?_) (two_cases ?_ ?_)⟩ <;> decide +kernel
theorem k_gn : GN kd kc 2 (fun _ => 2) kG := by
 refine ⟨vc_kd, vc_kc, rfl, ⟨by decide, by decide, two_cases ⟨rfl, two_cases ?_ ?_⟩ ⟨rfl, two_cases ?_ ?_⟩⟩, rfl, ?_⟩ <;> decide +kernel
/-- A witness and a separating gain function exclude each other. -/
theorem wit_gn {L1 L2 : List (List Int)} {m Kn : Nat} {N N' : Nat → Nat} {F F' : Nat → Nat → Rat} (h : WIT L1 L2 m N F) (h' : GN L1 L2 Kn N' F') : False := by
 obtain ⟨v1, v2, hl, hst, hm, hn, heq⟩ := h
 obtain ⟨-, -, -, hmx, hn', hlt⟩ := h'
 have hC2 := v2.chan
 rw [← hl] at hC2
 have hW : Wit L1.length (wid L1) (wid L2) (ce L1) ((tot L1 : Int) : Rat) (ce L2) ((tot L2 : Int) : Rat) F := by
  refine ⟨fun y hy z hz => ?_, fun y hy => ?_, fun x hx z hz => ?_⟩
  ·have := (hst.1.2.2 y (by omega)).2 z (by rw [(hst.1.2.2 y (by omega)).1]; omega)
   grind
  ·have := hst.2 y (by omega)
   rw [(hst.1.2.2 y (by omega)).1, hn] at this
   exact this
  ·have := heq x hx z hz
   rw [hm] at this
   exact this
 refine no_both v1.chan hC2 hW (fun w hw x hx => ?_) hlt
 have := (hmx.2.2 w hw).2 x (by rw [(hmx.2.2 w hw).1, hn']; exact hx)
 grind
/-- Decide holds exactly if there is a witness. -/
theorem dec_true {L1 L2 : List (List Int)} {b : Bool} {m Kn : Nat} {F G : Nat → Nat → Rat} {m' : Nat} {N' : Nat → Nat} {F' : Nat → Nat → Rat} (h : DecSays L1 L2 0 b m F Kn G) (hw : WIT L1 L2 m' N' F') : b = true := by
 rcases (h.2.2.2.2.1 rfl).1 with h | h
 ·exact h.1
 ·exact (wit_gn hw h.2.2).elim
theorem dec_false {L1 L2 : List (List Int)} {b : Bool} {m Kn : Nat} {F G : Nat → Nat → Rat} {m' : Nat} {N' : Nat → Nat} {F' : Nat → Nat → Rat} (h : DecSays L1 L2 0 b m F Kn G) (hw : GN L1 L2 m' N' F') : b = false := by
 rcases (h.2.2.2.2.1 rfl).1 with h | h
 ·exact (wit_gn h.2.2 hw).elim
 ·exact h.1
/-- Decide's code of small channels. -/
theorem dec_code {L1 L2 : List (List Int)} {code : Int} {b : Bool} {m Kn : Nat} {F G : Nat → Nat → Rat} (h : DecSays L1 L2 code b m F Kn G) (h1 : VC L1) (h2 : VC L2) (hl : L1.length = L2.length) (hnk : wid L1 * wid L2 ≤ 80) (hM : neq L1 L2 ≤ 80) : code = 0 :=
 h.2.2.2.1 ⟨h1, h2⟩ hl (by omega)
theorem k_eq {is : Bool} {code : Int} (h : EqSays kc kd is code) : is = false ∧ code = 0 := by
 obtain ⟨c1, b1, m1, K1, F1, G1, hd, -, h0⟩ := h
 obtain rfl := dec_code hd vc_kc vc_kd rfl (by decide) (by decide)
 obtain ⟨c2, b2, m2, K2, F2, G2, hd2, -, h2⟩ := h0 rfl
 obtain rfl := dec_code hd2 vc_kd vc_kc rfl (by decide) (by decide)
 obtain ⟨h3, h4⟩ := h2 rfl
 rw [dec_false hd2 k_gn] at h4
 exact ⟨by rw [h4]; simp, h3⟩
end Go.Proofs.YtdambnieminnfaaGreat

/- The law's side of layer 40: known. -/
namespace Go.Proofs.YtdambnieminnfaaGreat
open Go.RowKit
attribute [local go_sem ↓] Go.wp_at_zero Go.wp_at_succ
attribute [local go_sem] beq_self_eq_true

theorem ints_two {W : World} {g : Nat} {t : TypeId} {a b : Int} (L : Loc W g t #[.int .i64 a, .int .i64 b]) (ha : 0 ≤ a ∧ a ≤ 1000) (hb : 0 ≤ b ∧ b ≤ 1000) : IntsV W (.slice (some ⟨g, 0, none⟩) 2 2) [a, b] := by
 refine ⟨_, _, rfl, Nat.le_refl _, by decide, fun _ => ⟨_, rfl, L.lt, fun i z hz => ?_⟩, fun z hz => ?_⟩
 ·have e : (⟨g, 0, none⟩ : Addr).add i = ⟨g, i, none⟩ := by simp [Addr.add]; intro h; omega
  rw [e, Loc.cell L]
  have hi := (List.getElem?_eq_some_iff.1 hz).1
  rcases (show i = 0 ∨ i = 1 by simp at hi; omega) with rfl | rfl
  ·simp at hz; subst hz; rfl
  ·simp at hz; subst hz; rfl
 ·simp at hz
  rcases hz with rfl | rfl <;> omega
theorem imat_two {W : World} {g : Nat} {t : TypeId} {A1 A2 : Option Addr} {c1 c2 : Nat} {l1 l2 : List Int} (L : Loc W g t #[.slice A1 l1.length c1, .slice A2 l2.length c2]) (h1 : IntsV W (.slice A1 l1.length c1) l1) (h2 : IntsV W (.slice A2 l2.length c2) l2) : IMat W (.slice (some ⟨g, 0, none⟩) 2 2) [l1, l2] := by
 refine ⟨_, _, rfl, Nat.le_refl _, by decide, fun _ => ⟨_, rfl, L.lt, fun i l hl => ?_⟩⟩
 have e : (⟨g, 0, none⟩ : Addr).add i = ⟨g, i, none⟩ := by simp [Addr.add]; intro h; omega
 rw [e, Loc.cell L]
 have hi := (List.getElem?_eq_some_iff.1 hl).1
 rcases (show i = 0 ∨ i = 1 by simp at hi; omega) with rfl | rfl
 ·simp at hl; subst hl; exact ⟨A1, c1, rfl, h1⟩
 ·simp at hl; subst hl; exact ⟨A2, c2, rfl, h2⟩
theorem nums_two {k : Nat} {W : World} {g : Nat} {r1 r2 : R4} {a b : Rat} (L : Line W g [r1, r2]) (h1 : RatL k W (fun _ => False) r1.v a) (h2 : RatL k W (fun _ => False) r2.v b) : Nums k W (fun _ => False) (.slice (some ⟨g, 0, none⟩) 2 2) 2 (two2 a b) :=
 L.nums (X := fun _ => False) (fun i r hr => by
  have hi := (List.getElem?_eq_some_iff.1 hr).1
  rcases (show i = 0 ∨ i = 1 by simp at hi; omega) with rfl | rfl
  ·simp at hr; subst hr; exact h1
  ·simp at hr; subst hr; exact h2) rfl (fun _ _ h => h) id (by decide)
theorem mat_two {k : Nat} {w : World} {g n : Nat} {t : TypeId} {v1 v2 : Value} {f1 f2 : Nat → Rat} (L : Loc w g t #[v1, v2]) (h1 : Nums k w (fun _ => False) v1 n f1) (h2 : Nums k w (fun _ => False) v2 n f2) :
 Mat k w (fun _ => False) (.slice (some ⟨g, 0, none⟩) 2 2) 2 (fun _ => n) (fun i => if i = 0 then f1 else f2) := by
 refine ⟨[v1, v2], _, _, rfl, rfl, Nat.le_refl _, by decide, fun _ => ⟨_, rfl, L.lt, id, fun i u hu => ?_⟩, fun i u hu => ?_⟩
 ·have e : (⟨g, 0, none⟩ : Addr).add i = ⟨g, i, none⟩ := by simp [Addr.add]; intro h; omega
  rw [e, Loc.cell L]
  simpa using hu
 ·have hi := (List.getElem?_eq_some_iff.1 hu).1
  rcases (show i = 0 ∨ i = 1 by simp at hi; omega) with rfl | rfl
  ·simp at hu; subst hu; exact h1
  ·simp at hu; subst hu; exact h2
/-- A part of the chapter's matrices. -/
theorem kpart_any (w : World) (z y : Int) (hy : 1 ≤ y) (h0 : 0 ≤ z) (h1 : z ≤ 10) (h3 : y ≤ 10) :
 Calls Tryz.prog 44 #[.int .i64 z, .int .i64 y] w fun e w' => ∃ (b : Bool) (A : Option Addr) (m c : Nat) (b' : Bool) (A' : Option Addr) (m' c' : Nat), e = .returned (.agg #[.bool b, .slice A m c, .bool b', .slice A' m' c']) ∧ RatL 2 w' (fun _ => False) (.agg #[.bool b, .slice A m c, .bool b', .slice A' m' c']) (Rat.divInt z y) ∧ Below w.heap.size w w' := by
 refine (lpart_any w z y (by omega) (by omega) (by omega) (by omega) (by omega)).mono ?_
 rintro e w' ⟨v, rfl, h, hb⟩
 obtain ⟨b, A, m, c, b', A', m', c', rfl, h, -, -⟩ := h.op
 exact ⟨_, _, _, _, _, _, _, _, rfl, RatL.weak (h.len (divInt_Rsz (by omega) (dig_i64 z (by omega) (by omega)) (dig_i64 y (by omega) (by omega)))) (fun _ _ h => h.elim), hb⟩

set_option maxRecDepth 100000 in
set_option maxHeartbeats 32000000 in
theorem known40_any (w : World) : Calls Tryz.prog 13 #[] w fun e w' => e = .returned (.bool true) ∧ Below w.heap.size w w' := by
 go_enter Tryz.func13, Tryz.ntmps13
 go_upto_region 1 with fail
 go_cut [1] from 11 to 15 (fun p W => ∃ (g c1 : Nat) (A1 : Option Addr), p = .pointer (some ⟨g, 0, none⟩) ∧ w.heap.size ≤ g ∧ Loc W g 24 #[.slice A1 2 c1] ∧ Hid (IMat W (.slice A1 2 c1) kc) ∧ Below w.heap.size w W)
 case first =>
  have B1 := made1 w #[.int .i64 2, .int .i64 0] 3
  have B2 := made2 w (.cells #[.int .i64 2, .int .i64 0] 3) #[.int .i64 1, .int .i64 1] 3
  have B3 := made3 w (.cells #[.int .i64 2, .int .i64 0] 3) (.cells #[.int .i64 1, .int .i64 1] 3) #[.slice (some ⟨w.heap.size, 0, none⟩) 2 2, .slice (some ⟨w.heap.size + 1, 0, none⟩) 2 2] 38
  have B4 := made4 w (.cells #[.int .i64 2, .int .i64 0] 3) (.cells #[.int .i64 1, .int .i64 1] 3) (.cells #[.slice (some ⟨w.heap.size, 0, none⟩) 2 2, .slice (some ⟨w.heap.size + 1, 0, none⟩) 2 2] 38) #[.slice (some ⟨w.heap.size + 1 + 1, 0, none⟩) 2 2] 24
  have HI : Hid (IMat ((((w.alloc (.cells #[.int .i64 2, .int .i64 0] 3)).alloc (.cells #[.int .i64 1, .int .i64 1] 3)).alloc (.cells #[.slice (some ⟨w.heap.size, 0, none⟩) 2 2, .slice (some ⟨w.heap.size + 1, 0, none⟩) 2 2] 38)).alloc (.cells #[.slice (some ⟨w.heap.size + 1 + 1, 0, none⟩) 2 2] 24)) (.slice (some ⟨w.heap.size + 1 + 1, 0, none⟩) 2 2) kc) :=
   imat_two (l1 := [2, 0]) (l2 := [1, 1]) (B3.alloc _) (ints_two (((B1.alloc _).alloc _).alloc _) (by decide) (by decide)) (ints_two ((B2.alloc _).alloc _) (by decide) (by decide))
  go_wp2_with fail
  go_meet
  exact ⟨_, _, _, rfl, by omega, B4, HI, bel⟩
 case rest =>
  obtain ⟨g1, c1, A1, rfl, hg1, Lc, HC, hB1⟩ := hcut
  obtain ⟨w1, rfl⟩ : ∃ w1 : World, w1 = wc := ⟨_, rfl⟩
  have HB1 := Lib.hid hB1
  have y1 := hB1.size
  have q1 := Lc.lt
  clear hB1
  go_upto_region 2 with fail
  go_cut [2] from 15 to 19 (fun p W => ∃ (g c1 : Nat) (A1 : Option Addr), p = .pointer (some ⟨g, 0, none⟩) ∧ w1.heap.size ≤ g ∧ Loc W g 24 #[.slice A1 2 c1] ∧ Hid (IMat W (.slice A1 2 c1) kd) ∧ Below w1.heap.size w1 W)
  case first =>
   have B1 := made1 w1 #[.int .i64 3, .int .i64 1] 3
   have B2 := made2 w1 (.cells #[.int .i64 3, .int .i64 1] 3) #[.int .i64 2, .int .i64 2] 3
   have B3 := made3 w1 (.cells #[.int .i64 3, .int .i64 1] 3) (.cells #[.int .i64 2, .int .i64 2] 3) #[.slice (some ⟨w1.heap.size, 0, none⟩) 2 2, .slice (some ⟨w1.heap.size + 1, 0, none⟩) 2 2] 38
   have B4 := made4 w1 (.cells #[.int .i64 3, .int .i64 1] 3) (.cells #[.int .i64 2, .int .i64 2] 3) (.cells #[.slice (some ⟨w1.heap.size, 0, none⟩) 2 2, .slice (some ⟨w1.heap.size + 1, 0, none⟩) 2 2] 38) #[.slice (some ⟨w1.heap.size + 1 + 1, 0, none⟩) 2 2] 24
   have HI : Hid (IMat ((((w1.alloc (.cells #[.int .i64 3, .int .i64 1] 3)).alloc (.cells #[.int .i64 2, .int .i64 2] 3)).alloc (.cells #[.slice (some ⟨w1.heap.size, 0, none⟩) 2 2, .slice (some ⟨w1.heap.size + 1, 0, none⟩) 2 2] 38)).alloc (.cells #[.slice (some ⟨w1.heap.size + 1 + 1, 0, none⟩) 2 2] 24)) (.slice (some ⟨w1.heap.size + 1 + 1, 0, none⟩) 2 2) kd) :=
    imat_two (l1 := [3, 1]) (l2 := [2, 2]) (B3.alloc _) (ints_two (((B1.alloc _).alloc _).alloc _) (by decide) (by decide)) (ints_two ((B2.alloc _).alloc _) (by decide) (by decide))
   go_wp2_with fail
   go_meet
   exact ⟨_, _, _, rfl, by omega, B4, HI, bel⟩
  case rest =>
   obtain ⟨g2, c2, A2, rfl, hg2, Ld, HD, hB2⟩ := hcut
   obtain ⟨w2, rfl⟩ : ∃ w2 : World, w2 = wc := ⟨_, rfl⟩
   have HB2 := Lib.hid hB2
   have y2 := hB2.size
   have q2 := Ld.lt
   clear hB2
   go_upto_region 3 with fail
   go_cut [3] from 19 to 26 (fun v W => ∃ (A : Option Addr) (c : Nat), v = .slice A 2 c ∧ Hid (Mat 2 W (fun _ => False) (.slice A 2 c) 2 (fun _ => 2) kW) ∧ Below w2.heap.size w2 W)
   case first =>
    go_wp2_with fail
    refine (kpart_any _ 3 4 (by decide) (by decide) (by decide) (by decide)).mono ?_
    rintro e u1 ⟨b1, A1, m1, c1, b1', A1', m1', c1', rfl, i1, hb1⟩
    have z1 := hb1.size; (try simp only [zs] at z1)
    go_wp2_with fail
    refine (kpart_any _ 1 4 (by decide) (by decide) (by decide) (by decide)).mono ?_
    rintro e u2 ⟨b2, A2, m2, c2, b2', A2', m2', c2', rfl, i2, hb2⟩
    have z2 := hb2.size; (try simp only [zs] at z2)
    have B1 := made1 u2 #[.bool b1, .slice A1 m1 c1, .bool b1', .slice A1' m1' c1', .bool b2, .slice A2 m2 c2, .bool b2', .slice A2' m2' c2'] 60
    go_wp2_with fail
    refine (kpart_any _ 1 4 (by decide) (by decide) (by decide) (by decide)).mono ?_
    rintro e u3 ⟨b3, A3, m3, c3, b3', A3', m3', c3', rfl, i3, hb3⟩
    have z3 := hb3.size; (try simp only [zs] at z3)
    go_wp2_with fail
    refine (kpart_any _ 3 4 (by decide) (by decide) (by decide) (by decide)).mono ?_
    rintro e u4 ⟨b4, A4, m4, c4, b4', A4', m4', c4', rfl, i4, hb4⟩
    have z4 := hb4.size; (try simp only [zs] at z4)
    have B2 := made1 u4 #[.bool b3, .slice A3 m3 c3, .bool b3', .slice A3' m3' c3', .bool b4, .slice A4 m4 c4, .bool b4', .slice A4' m4' c4'] 60
    have B3 := made2 u4 (.cells #[.bool b3, .slice A3 m3 c3, .bool b3', .slice A3' m3' c3', .bool b4, .slice A4 m4 c4, .bool b4', .slice A4' m4' c4'] 60) #[.slice (some ⟨u2.heap.size, 0, none⟩) 2 2, .slice (some ⟨u4.heap.size, 0, none⟩) 2 2] 55
    have B1' : Loc ((u4.alloc (.cells #[.bool b3, .slice A3 m3 c3, .bool b3', .slice A3' m3' c3', .bool b4, .slice A4 m4 c4, .bool b4', .slice A4' m4' c4'] 60)).alloc (.cells #[.slice (some ⟨u2.heap.size, 0, none⟩) 2 2, .slice (some ⟨u4.heap.size, 0, none⟩) 2 2] 55)) u2.heap.size _ _ := B1.to
    have HMAT : Hid (Mat 2 ((u4.alloc (.cells #[.bool b3, .slice A3 m3 c3, .bool b3', .slice A3' m3' c3', .bool b4, .slice A4 m4 c4, .bool b4', .slice A4' m4' c4'] 60)).alloc (.cells #[.slice (some ⟨u2.heap.size, 0, none⟩) 2 2, .slice (some ⟨u4.heap.size, 0, none⟩) 2 2] 55)) (fun _ => False) (.slice (some ⟨u4.heap.size + 1, 0, none⟩) 2 2) 2 (fun _ => 2) kW) := mat_two (f1 := two2 (Rat.divInt 3 4) (Rat.divInt 1 4)) (f2 := two2 (Rat.divInt 1 4) (Rat.divInt 3 4)) B3 (nums_two (r1 := ⟨b1, A1, m1, c1, b1', A1', m1', c1'⟩) (r2 := ⟨b2, A2, m2, c2, b2', A2', m2', c2'⟩) B1' (i1.keep kp) (i2.keep kp)) (nums_two (r1 := ⟨b3, A3, m3, c3, b3', A3', m3', c3'⟩) (r2 := ⟨b4, A4, m4, c4, b4', A4', m4', c4'⟩) (B2.alloc _) (i3.keep kp) (i4.keep kp))
    go_wp2_with fail
    go_meet
    exact ⟨_, _, rfl, HMAT, bel⟩
   case rest =>
    obtain ⟨A3, c3, rfl, HW, hB3⟩ := hcut
    obtain ⟨w3, rfl⟩ : ∃ w3 : World, w3 = wc := ⟨_, rfl⟩
    have HB3 := Lib.hid hB3
    have y3 := hB3.size
    clear hB3
    go_upto_region 4 with fail
    go_cut [4] from 26 to 33 (fun v W => ∃ (A : Option Addr) (c : Nat), v = .slice A 2 c ∧ Hid (Mat 2 W (fun _ => False) (.slice A 2 c) 2 (fun _ => 2) kG) ∧ Below w3.heap.size w3 W)
    case first =>
     go_wp2_with fail
     refine (kpart_any _ 1 1 (by decide) (by decide) (by decide) (by decide)).mono ?_
     rintro e u1 ⟨b1, A1, m1, c1, b1', A1', m1', c1', rfl, i1, hb1⟩
     have z1 := hb1.size; (try simp only [zs] at z1)
     go_wp2_with fail
     refine (kpart_any _ 0 1 (by decide) (by decide) (by decide) (by decide)).mono ?_
     rintro e u2 ⟨b2, A2, m2, c2, b2', A2', m2', c2', rfl, i2, hb2⟩
     have z2 := hb2.size; (try simp only [zs] at z2)
     have B1 := made1 u2 #[.bool b1, .slice A1 m1 c1, .bool b1', .slice A1' m1' c1', .bool b2, .slice A2 m2 c2, .bool b2', .slice A2' m2' c2'] 60
     go_wp2_with fail
     refine (kpart_any _ 0 1 (by decide) (by decide) (by decide) (by decide)).mono ?_
     rintro e u3 ⟨b3, A3, m3, c3, b3', A3', m3', c3', rfl, i3, hb3⟩
     have z3 := hb3.size; (try simp only [zs] at z3)
     go_wp2_with fail
     refine (kpart_any _ 1 1 (by decide) (by decide) (by decide) (by decide)).mono ?_
     rintro e u4 ⟨b4, A4, m4, c4, b4', A4', m4', c4', rfl, i4, hb4⟩
     have z4 := hb4.size; (try simp only [zs] at z4)
     have B2 := made1 u4 #[.bool b3, .slice A3 m3 c3, .bool b3', .slice A3' m3' c3', .bool b4, .slice A4 m4 c4, .bool b4', .slice A4' m4' c4'] 60
     have B3 := made2 u4 (.cells #[.bool b3, .slice A3 m3 c3, .bool b3', .slice A3' m3' c3', .bool b4, .slice A4 m4 c4, .bool b4', .slice A4' m4' c4'] 60) #[.slice (some ⟨u2.heap.size, 0, none⟩) 2 2, .slice (some ⟨u4.heap.size, 0, none⟩) 2 2] 55
     have B1' : Loc ((u4.alloc (.cells #[.bool b3, .slice A3 m3 c3, .bool b3', .slice A3' m3' c3', .bool b4, .slice A4 m4 c4, .bool b4', .slice A4' m4' c4'] 60)).alloc (.cells #[.slice (some ⟨u2.heap.size, 0, none⟩) 2 2, .slice (some ⟨u4.heap.size, 0, none⟩) 2 2] 55)) u2.heap.size _ _ := B1.to
     have HMAT : Hid (Mat 2 ((u4.alloc (.cells #[.bool b3, .slice A3 m3 c3, .bool b3', .slice A3' m3' c3', .bool b4, .slice A4 m4 c4, .bool b4', .slice A4' m4' c4'] 60)).alloc (.cells #[.slice (some ⟨u2.heap.size, 0, none⟩) 2 2, .slice (some ⟨u4.heap.size, 0, none⟩) 2 2] 55)) (fun _ => False) (.slice (some ⟨u4.heap.size + 1, 0, none⟩) 2 2) 2 (fun _ => 2) kG) := mat_two (f1 := two2 (Rat.divInt 1 1) (Rat.divInt 0 1)) (f2 := two2 (Rat.divInt 0 1) (Rat.divInt 1 1)) B3 (nums_two (r1 := ⟨b1, A1, m1, c1, b1', A1', m1', c1'⟩) (r2 := ⟨b2, A2, m2, c2, b2', A2', m2', c2'⟩) B1' (i1.keep kp) (i2.keep kp)) (nums_two (r1 := ⟨b3, A3, m3, c3, b3', A3', m3', c3'⟩) (r2 := ⟨b4, A4, m4, c4, b4', A4', m4', c4'⟩) (B2.alloc _) (i3.keep kp) (i4.keep kp))
     go_wp2_with fail
     go_meet
     exact ⟨_, _, rfl, HMAT, bel⟩
    case rest =>
     obtain ⟨A4, c4, rfl, HG, hB4⟩ := hcut
     obtain ⟨w4, rfl⟩ : ∃ w4 : World, w4 = wc := ⟨_, rfl⟩
     have y4 := hB4.size
     have Lc4 : Loc w4 g1 _ _ := ((Lc.below HB2.out).below HB3.out).below hB4
     have Ld4 : Loc w4 g2 _ _ := (Ld.below HB3.out).below hB4
     have HC4 : Hid (IMat w4 (.slice A1 2 c1) kc) := HC.out.keep (.of_below ((HB2.out.trans (HB3.out.mono y2)).trans (hB4.mono (by omega))))
     have HD4 : Hid (IMat w4 (.slice A2 2 c2) kd) := HD.out.keep (.of_below (HB3.out.trans (hB4.mono y3)))
     have HW4 : Hid (Mat 2 w4 (fun _ => False) (.slice A3 2 c3) 2 (fun _ => 2) kW) := HW.out.keep (.of_below hB4)
     have HBw : Hid (Below w.heap.size w w4) := ((HB1.out.trans (HB2.out.mono (by omega))).trans (HB3.out.mono (by omega))).trans (hB4.mono (by omega))
     have q4 := Lc4.lt
     have q5 := Ld4.lt
     clear hB4 Lc Ld HC HD HW HB1 HB2 HB3
     obtain ⟨e1, f1, -⟩ := Lc4.all (w' := w4)
     obtain ⟨e2, f2, -⟩ := Ld4.all (w' := w4)
     go_wp2_with fail
     refine (decide_any _ _ _ kc kd HC4.out HD4.out sz_kcd).mono ?_
     rintro e w5 ⟨b1, vW, vG, m1, K1, F1, G1, code1, rfl, hm1, hd1, hb5⟩
     obtain rfl := dec_code hd1.out vc_kc vc_kd rfl (by decide) (by decide)
     obtain rfl := dec_true hd1.out k_wit
     have hP1 := (hd1.out.2.2.2.2.1 rfl).1
     obtain rfl : m1 = 2 := (hd1.out.2.2.2.2.1 rfl).2.1 rfl
     obtain rfl : K1 = 0 := by
      rcases hP1 with h | h
      ·exact h.2.1
      ·cases h.1
     have HP1 := Lib.hid hP1
     have HM1 := Lib.hid hm1.out.1
     have HM1' := Lib.hid hm1.out.2
     obtain ⟨AW, cW, rfl, -, -, -⟩ := hm1.out.1.op
     obtain ⟨AG, cG, rfl, -, -, -⟩ := hm1.out.2.op
     have y5 := hb5.size; (try simp only [zs] at y5)
     have Lc5 : Loc w5 g1 _ _ := Lc4.to
     have Ld5 : Loc w5 g2 _ _ := Ld4.to
     have HB45 : Hid (Below w4.heap.size w4 w5) := bel
     have T5 := made1 w5 #[.bool true, .slice AW 2 cW, .slice AG 0 cG] 27
     clear e1 f1 e2 f2 hd1 hm1 hP1
     obtain ⟨e1, f1, -⟩ := Lc5.all (w' := w5.alloc (.cells #[.bool true, .slice AW 2 cW, .slice AG 0 cG] 27))
     obtain ⟨e2, f2, -⟩ := Ld5.all (w' := w5.alloc (.cells #[.bool true, .slice AW 2 cW, .slice AG 0 cG] 27))
     go_wp2_with fail
     refine (decide_any _ _ _ kd kc (HD4.out.keep (.of_below (HB45.out.trans ((below1 w5 _).mono y5)))) (HC4.out.keep (.of_below (HB45.out.trans ((below1 w5 _).mono y5)))) sz_kdc).mono ?_
     rintro e w6 ⟨b2, vW2, vG2, m2, K2, F2, G2, code2, rfl, hm2, hd2, hb6⟩
     obtain rfl := dec_code hd2.out vc_kd vc_kc rfl (by decide) (by decide)
     obtain rfl := dec_false hd2.out k_gn
     have hP2 := (hd2.out.2.2.2.2.1 rfl).1
     obtain rfl : K2 = 2 := (hd2.out.2.2.2.2.1 rfl).2.2 rfl
     obtain rfl : m2 = 0 := by
      rcases hP2 with h | h
      ·cases h.1
      ·exact h.2.1
     have HP2 := Lib.hid hP2
     have HM2 := Lib.hid hm2.out.1
     have HM2' := Lib.hid hm2.out.2
     obtain ⟨AW2, cW2, rfl, -, -, -⟩ := hm2.out.1.op
     obtain ⟨AG2, cG2, rfl, -, -, -⟩ := hm2.out.2.op
     have y6 := hb6.size; (try simp only [zs] at y6)
     have Lc6 : Loc w6 g1 _ _ := Lc5.to
     have Ld6 : Loc w6 g2 _ _ := Ld5.to
     have T5' : Loc w6 w5.heap.size _ _ := T5.to
     have HB56 : Hid (Below w5.heap.size w5 w6) := (below1 w5 _).trans (hb6.mono (by simp only [World.size_alloc]; omega))
     have T6 := made1 w6 #[.bool false, .slice AW2 0 cW2, .slice AG2 2 cG2] 27
     clear e1 f1 e2 f2 hd2 hm2 hP2
     obtain ⟨e1, f1, -⟩ := Lc6.all (w' := w6.alloc (.cells #[.bool false, .slice AW2 0 cW2, .slice AG2 2 cG2] 27))
     obtain ⟨e2, f2, -⟩ := Ld6.all (w' := w6.alloc (.cells #[.bool false, .slice AW2 0 cW2, .slice AG2 2 cG2] 27))
     have HBA : Hid (Below w4.heap.size w4 (w6.alloc (.cells #[.bool false, .slice AW2 0 cW2, .slice AG2 2 cG2] 27))) := (HB45.out.trans (HB56.out.mono y5)).trans ((below1 w6 _).mono (by omega))
     go_wp2_with fail
     refine (equivalent_any _ _ _ kc kd (HC4.out.keep (.of_below HBA.out)) (HD4.out.keep (.of_below HBA.out)) sz_kcd sz_kdc).mono ?_
     rintro e w7 ⟨is, code3, rfl, he, hb7⟩
     obtain ⟨rfl, rfl⟩ := k_eq he.out
     have y7 := hb7.size; (try simp only [zs] at y7)
     have Lc7 : Loc w7 g1 _ _ := Lc6.to
     have Ld7 : Loc w7 g2 _ _ := Ld6.to
     have T57 : Loc w7 w5.heap.size _ _ := T5'.to
     have T67 : Loc w7 w6.heap.size _ _ := T6.to
     have HB67 : Hid (Below w6.heap.size w6 w7) := (below1 w6 _).trans (hb7.mono (by simp only [World.size_alloc]; omega))
     have HB47 : Hid (Below w4.heap.size w4 w7) := (HB45.out.trans (HB56.out.mono y5)).trans (HB67.out.mono (by omega))
     clear e1 f1 e2 f2 he
     obtain ⟨e1, f1, -⟩ := Lc7.all (w' := w7)
     obtain ⟨e2, f2, -⟩ := Ld7.all (w' := w7)
     go_wp2_with fail
     refine (checkWitness_any _ _ _ _ kc kd 2 2 (fun _ => 2) kW (HC4.out.keep (.of_below HB47.out)) (HD4.out.keep (.of_below HB47.out)) (HW4.out.keep (.of_below HB47.out)) (by decide) (fun _ _ => by decide) (by decide) (by decide)).mono ?_
     rintro e w8 ⟨he, hb8⟩
     have he := he.eq (b := true) ⟨fun _ => k_wit, fun _ => rfl⟩
     subst he
     have y8 := hb8.size; (try simp only [zs] at y8)
     have Lc8 : Loc w8 g1 _ _ := Lc7.to
     have Ld8 : Loc w8 g2 _ _ := Ld7.to
     have HB48 : Hid (Below w4.heap.size w4 w8) := HB47.out.trans (hb8.mono (by omega))
     clear e1 f1 e2 f2
     obtain ⟨e1, f1, -⟩ := Lc8.all (w' := w8)
     obtain ⟨e2, f2, -⟩ := Ld8.all (w' := w8)
     go_wp2_with fail
     refine (checkGain_any _ _ _ _ kd kc 2 2 100 (fun _ => 2) kG (HD4.out.keep (.of_below HB48.out)) (HC4.out.keep (.of_below HB48.out)) (HG.out.keep (.of_below HB48.out)) (by decide) (by decide) (by decide) (by decide) (by decide) (by decide)).mono ?_
     rintro e w9 ⟨he, hb9⟩
     have he := he.eq (b := true) ⟨fun _ => k_gn, fun _ => rfl⟩
     subst he
     have y9 := hb9.size; (try simp only [zs] at y9)
     have Lc9 : Loc w9 g1 _ _ := Lc8.to
     have Ld9 : Loc w9 g2 _ _ := Ld8.to
     have HB49 : Hid (Below w4.heap.size w4 w9) := HB48.out.trans (hb9.mono (by omega))
     clear e1 f1 e2 f2
     obtain ⟨e1, f1, -⟩ := Lc9.all (w' := w9)
     obtain ⟨e2, f2, -⟩ := Ld9.all (w' := w9)
     go_wp2_with fail
     refine (checkGain_any _ _ _ _ kc kd 2 2 100 (fun _ => 2) kG (HC4.out.keep (.of_below HB49.out)) (HD4.out.keep (.of_below HB49.out)) (HG.out.keep (.of_below HB49.out)) (by decide) (by decide) (by decide) (by decide) (by decide) (by decide)).mono ?_
     rintro e w10 ⟨he, hb10⟩
     have he := he.eq (b := false) ⟨fun h => (by cases h), fun h => (wit_gn k_wit h).elim⟩
     subst he
     have y10 := hb10.size; (try simp only [zs] at y10)
     have Lc10 : Loc w10 g1 _ _ := Lc9.to
     have Ld10 : Loc w10 g2 _ _ := Ld9.to
     have HB4A : Hid (Below w4.heap.size w4 w10) := HB49.out.trans (hb10.mono (by omega))
     have HB7A : Hid (Below w7.heap.size w7 w10) := (hb8.trans (hb9.mono (by omega))).trans (hb10.mono (by omega))
     have T5A : Loc w10 w5.heap.size _ _ := T57.below HB7A.out
     have T6A : Loc w10 w6.heap.size _ _ := T67.below HB7A.out
     clear e1 f1 e2 f2
     obtain ⟨e1, f1, -⟩ := Lc10.all (w' := w10)
     obtain ⟨e2, f2, -⟩ := Ld10.all (w' := w10)
     obtain ⟨e3, f3, -⟩ := T5A.all (w' := w10)
     obtain ⟨e4, f4, -⟩ := T6A.all (w' := w10)
     go_wp2_with fail
     have hB5A : Below w5.heap.size w5 w10 := (HB56.out.trans (HB67.out.mono (by omega))).trans (HB7A.out.mono (by omega))
     have hB6A : Below w6.heap.size w6 w10 := HB67.out.trans (HB7A.out.mono (by omega))
     refine (check40_any _ _ _ _ _ true kc kd 2 0 44 (188 * neq kc kd + 41) 40000 (fun _ => wid kd) (fun _ => kc.length) F1 G1 (HC4.out.keep (.of_below HB4A.out)) (HD4.out.keep (.of_below HB4A.out)) (HM1.out.keep (.of_below hB5A)) (HM1'.out.keep (.of_below hB5A)) (by decide) (fun _ _ => by decide) (by decide) (by decide) (by decide) (by decide) (by decide) (by decide) (by decide) (by decide) (by decide)).mono ?_
     rintro e w11 ⟨he, hb11⟩
     have he := he.eq (b := true) ⟨fun _ => HP1.out, fun _ => rfl⟩
     subst he
     have y11 := hb11.size; (try simp only [zs] at y11)
     have Lc11 : Loc w11 g1 _ _ := Lc10.to
     have Ld11 : Loc w11 g2 _ _ := Ld10.to
     have T6B : Loc w11 w6.heap.size _ _ := T6A.to
     have HB4B : Hid (Below w4.heap.size w4 w11) := HB4A.out.trans (hb11.mono (by omega))
     have hB6B : Below w6.heap.size w6 w11 := hB6A.trans (hb11.mono (by omega))
     clear e1 f1 e2 f2 e3 f3 e4 f4
     obtain ⟨e1, f1, -⟩ := Lc11.all (w' := w11)
     obtain ⟨e2, f2, -⟩ := Ld11.all (w' := w11)
     obtain ⟨e4, f4, -⟩ := T6B.all (w' := w11)
     go_wp2_with fail
     refine (check40_any _ _ _ _ _ false kd kc 0 2 44 (188 * neq kd kc + 41) 40000 (fun _ => wid kc) (fun _ => kd.length) F2 G2 (HD4.out.keep (.of_below HB4B.out)) (HC4.out.keep (.of_below HB4B.out)) (HM2.out.keep (.of_below hB6B)) (HM2'.out.keep (.of_below hB6B)) (by decide) (fun _ _ => by decide) (by decide) (by decide) (by decide) (by decide) (by decide) (by decide) (by decide) (by decide) (by decide)).mono ?_
     rintro e w12 ⟨he, hb12⟩
     have he := he.eq (b := true) ⟨fun _ => HP2.out, fun _ => rfl⟩
     subst he
     have y12 := hb12.size; (try simp only [zs] at y12)
     have HBF : Hid (Below w.heap.size w w12) := (HBw.out.trans (HB4B.out.mono (by omega))).trans (hb12.mono (by omega))
     clear e1 f1 e2 f2 e4 f4
     go_wp2_with fail
     go_ret
     exact ⟨rfl, HBF.out⟩
end Go.Proofs.YtdambnieminnfaaGreat

