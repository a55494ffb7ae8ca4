/- Contracts of the functions that the statements reach, part 43. -/
import Derived.Test.YtpeglenapmkdfaaGreatRows
import Derived.Test.YtpeglenapmkdfaaGreatM21
import Derived.Test.YtpeglenapmkdfaaGreatM36
import Derived.Test.YtpeglenapmkdfaaGreatM37
import Derived.Test.YtpeglenapmkdfaaGreatM41
import Derived.Test.YtpeglenapmkdfaaGreatM42
set_option linter.unusedSimpArgs false
set_option linter.unusedVariables false

/- CheckOptimum of the reference. -/
namespace Go.Proofs.YtpeglenapmkdfaaGreat
open Go.RowKit
attribute [local go_sem ↓] Go.wp_at_zero Go.wp_at_succ

section
variable {m mb nx ny nr nc k : Nat} {N : Nat → Nat} {F : Nat → Nat → Rat} {f y r Bv kc : Nat → Rat} {val : Rat}
set_option maxRecDepth 100000 in
set_option maxHeartbeats 16000000 in
theorem rcheckOptimum_any (w : World) (vs vc vx vy vr : Value) (kind : Int) (b1 b1' : Bool) (A1 A1' : Option Addr) (m1 c1 m1' c1' : Nat) (hS : Sys k w vs m mb N F Bv) (hc : Nums k w (fun _ => False) vc nc kc)
    (hx : Nums k w (fun _ => False) vx nx f) (hy : Nums k w (fun _ => False) vy ny y) (hr : Nums k w (fun _ => False) vr nr r) (hv : RatL k w (fun _ => False) (.agg #[.bool b1, .slice A1 m1 c1, .bool b1', .slice A1' m1' c1']) val) (hk1 : 2 ≤ k) (hk : k ≤ 2000) :
    Calls Tryz.prog 31 #[vs, vc, .agg #[.int .i64 kind, vx, vy, vr, .bool b1, .slice A1 m1 c1, .bool b1', .slice A1' m1' c1']] w fun e w' => Tells (OP kind m mb N F Bv nc kc nx f ny y nr r val) e ∧ Below w.heap.size w w' := by
  have HS := Lib.hid hS
  obtain ⟨A, cA, B, d, rfl, hA, hB⟩ := hS
  have HA := Lib.hid hA
  have HBv := Lib.hid hB
  have HC := Lib.hid hc
  have HX := Lib.hid hx
  have HY := Lib.hid hy
  have HR := Lib.hid hr
  obtain ⟨C0, c0, rfl, hc, l1, l2⟩ := hc.op
  obtain ⟨C, c3, rfl, hx, l3, l4⟩ := hx.op
  obtain ⟨E, c4, rfl, hy, l5, l6⟩ := hy.op
  obtain ⟨G, c5, rfl, hr, l7, l8⟩ := hr.op
  have L1 := made1 w #[.slice A m cA, .slice B mb d] 25
  have L2 := made2 w (.cells #[.slice A m cA, .slice B mb d] 25) #[.int .i64 kind, .slice C nx c3, .slice E ny c4, .slice G nr c5, .bool b1, .slice A1 m1 c1, .bool b1', .slice A1' m1' c1'] 61
  obtain ⟨sg, hsg⟩ : ∃ s, val.num.sign = s := ⟨_, rfl⟩
  have HSG := Lib.hid hsg
  have HSV : Hid (sg = 0 ↔ val = 0) := by show _ ↔ _; rw [← hsg]; exact (by rw [Int.sign_eq_zero_iff_zero, Rat.num_eq_zero])
  clear hx hy hr hB hc hsg
  go_enter Tryz.func31, Tryz.ntmps31
  go_wp2_with fail
  refine (rvalid_any _ _ _ m mb k N F Bv (Mat.keep HA.out kp) (Nums.keep HBv.out kp)).mono ?_
  rintro e w1 ⟨⟨b, rfl, hb⟩, hb1⟩
  obtain ⟨z1, z2⟩ := sz2 hb1
  obtain ⟨e1, f1, -⟩ := L1.all (w' := w1)
  obtain ⟨e2, f2, -⟩ := L2.all (w' := w1)
  cases b
  · have HV : Hid (¬ OP kind m mb N F Bv nc kc nx f ny y nr r val) := fun h => by have := hb.out.2 h.1; cases this
    clear hb hA
    go_wp2_with fail
    go_ret
    exact ⟨Tells.no HV.out, bel⟩
  have HV : Hid (VS m mb N) := hb.out.1 rfl
  clear hb
  obtain ⟨v1, v2, rfl, v4, v5, v6⟩ := HV.out
  obtain ⟨a, D, dd, rfl, hab, -, hcell, hnum, l9, l10⟩ := Mat.at hA (show 0 < mb by omega)
  have e0 : a.add 0 = a := by simp [Addr.add]
  rw [e0] at hcell
  have q0 : (0 : Int) < (mb : Int) := by omega
  obtain ⟨n, hnn⟩ : ∃ n, N 0 = n := ⟨_, rfl⟩
  rw [hnn] at hcell hnum l9 v4 v5 v6
  have HN : Hid (∀ i, i < mb → N i = N 0) := HV.out.2.2.2.2.2
  have HN0 := Lib.hid hnn
  clear hA v6 hnn hnum
  have hcw : w1.cell? a = some (.slice D n dd) := cell_keep (X := fun _ => False) hcell hab id (.of_below (bel : Below w.heap.size w w1))
  by_cases hnc : nc ≠ n
  · have HV2 : Hid (¬ OP kind mb mb N F Bv nc kc nx f ny y nr r val) := fun h => hnc (by rw [← HN0.out]; exact h.2.1)
    have h4 : ((nc : Int) == (n : Int)) = false := beq_eq_false_iff_ne.2 (by omega)
    have h5 : ((nc : Int) != (n : Int)) = true := bne_iff_ne.2 (by omega)
    go_wp2_with fail
    go_ret
    exact ⟨Tells.no HV2.out, bel⟩
  obtain rfl : nc = n := Classical.not_not.1 hnc
  have HNC : Hid (nc = N 0) := HN0.out.symm
  clear hnc hcell
  by_cases k0 : kind = 0
  · subst k0
    have HOP : Hid (OP 0 mb mb N F Bv nc kc nx f ny y nr r val ↔ OP0 mb mb N F Bv nx ny y nr val) := op_0 HV.out HN0.out.symm
    go_wp2_with fail
    refine (rcheckFarkas_any (y := y) (ny := ny) _ _ _ (Sys.keep HS.out kp) (Nums.keep HY.out kp) (by omega) hk).mono ?_
    rintro e w3 ⟨⟨b, rfl, hb⟩, hb3⟩
    have y3 := hb3.size; (try simp only [World.size_alloc, size_set, size_drew, size_drewN] at y3)
    clear e1 f1 e2 f2 hcw
    obtain ⟨e1, f1, -⟩ := L1.all (w' := w3)
    obtain ⟨e2, f2, -⟩ := L2.all (w' := w3)
    cases b
    · have HV2 : Hid (¬ OP 0 mb mb N F Bv nc kc nx f ny y nr r val) := fun h => by have := hb.out.2 (HOP.out.1 h).1; cases this
      clear hb HOP
      go_wp2_with fail
      go_ret
      exact ⟨Tells.no HV2.out, bel⟩
    have HFK := Lib.hid (hb.out.1 rfl)
    clear hb
    by_cases hnx : nx ≠ 0
    · have HV2 : Hid (¬ OP 0 mb mb N F Bv nc kc nx f ny y nr r val) := fun h => hnx (HOP.out.1 h).2.1
      have h4 : ((nx : Int) == 0) = false := beq_eq_false_iff_ne.2 (by omega)
      clear HOP
      go_wp2_with fail
      go_ret
      exact ⟨Tells.no HV2.out, bel⟩
    obtain rfl : nx = 0 := Classical.not_not.1 hnx
    by_cases hnr : nr ≠ 0
    · have HV2 : Hid (¬ OP 0 mb mb N F Bv nc kc 0 f ny y nr r val) := fun h => hnr (HOP.out.1 h).2.2.1
      have h4 : ((nr : Int) == 0) = false := beq_eq_false_iff_ne.2 (by omega)
      clear HOP
      go_wp2_with fail
      go_ret
      exact ⟨Tells.no HV2.out, bel⟩
    obtain rfl : nr = 0 := Classical.not_not.1 hnr
    clear hnx hnr
    go_wp2_with fail
    refine (rsign_rat _ (fun _ => False) _ val (RatL.to (hv.mono (by omega)))).mono ?_
    rintro e w2 ⟨he, hb2⟩
    rw [HSG.out] at he
    subst he
    have y2 := hb2.size; (try simp only [World.size_alloc, size_set, size_drew, size_drewN] at y2)
    by_cases hs0 : sg ≠ 0
    · have HV2 : Hid (¬ OP 0 mb mb N F Bv nc kc 0 f ny y 0 r val) := fun h => hs0 (HSV.out.2 (HOP.out.1 h).2.2.2)
      have h4 : (sg == 0) = false := beq_eq_false_iff_ne.2 hs0
      clear HOP HSV HSG
      go_wp2_with fail
      go_ret
      refine ⟨?_, bel⟩
      first | exact Tells.no HV2.out | (simp [h4]; exact Tells.no HV2.out)
    obtain rfl : sg = 0 := Classical.not_not.1 hs0
    have HV2 : Hid (OP 0 mb mb N F Bv nc kc 0 f ny y 0 r val) := HOP.out.2 ⟨HFK.out, rfl, rfl, HSV.out.1 rfl⟩
    clear HOP HSV HSG
    go_wp2_with fail
    go_ret
    exact ⟨Tells.yes HV2.out, bel⟩
  by_cases k1 : kind = 1
  · subst k1
    have HOP : Hid (OP 1 mb mb N F Bv nc kc nx f ny y nr r val ↔ OP1 mb mb N F Bv kc nx f ny nr r val) := op_1 HV.out HN0.out.symm
    go_wp2_with fail
    refine (rcheckPoint_any (f := f) (nx := nx) _ _ _ (Sys.keep HS.out kp) (Nums.keep HX.out kp) (by omega) hk).mono ?_
    rintro e w3 ⟨⟨b, rfl, hb⟩, hb3⟩
    have y3 := hb3.size; (try simp only [World.size_alloc, size_set, size_drew, size_drewN] at y3)
    clear e1 f1 e2 f2 hcw
    obtain ⟨e1, f1, -⟩ := L1.all (w' := w3)
    obtain ⟨e2, f2, -⟩ := L2.all (w' := w3)
    cases b
    · have HV2 : Hid (¬ OP 1 mb mb N F Bv nc kc nx f ny y nr r val) := fun h => by have := hb.out.2 (HOP.out.1 h).1; cases this
      clear hb HOP
      go_wp2_with fail
      go_ret
      exact ⟨Tells.no HV2.out, bel⟩
    have HPT := Lib.hid (hb.out.1 rfl)
    clear hb
    go_wp2_with fail
    refine (rray_any _ _ _ _ _ _ _ (Mat.keep HA.out kp) (Nums.keep HBv.out kp) (Nums.keep HC.out kp) (Nums.keep HR.out kp) v1 v2 (by rw [HN0.out]; exact v5) HN.out HNC.out (by omega) hk).mono ?_
    rintro e w4 ⟨⟨b, rfl, hb⟩, hb4⟩
    have y4 := hb4.size; (try simp only [World.size_alloc, size_set, size_drew, size_drewN] at y4)
    clear e1 f1 e2 f2
    obtain ⟨e1, f1, -⟩ := L1.all (w' := w4)
    obtain ⟨e2, f2, -⟩ := L2.all (w' := w4)
    cases b
    · have HV2 : Hid (¬ OP 1 mb mb N F Bv nc kc nx f ny y nr r val) := fun h => by have := hb.out.2 ⟨(HOP.out.1 h).2.1, (HOP.out.1 h).2.2.1⟩; cases this
      clear hb HOP
      go_wp2_with fail
      go_ret
      exact ⟨Tells.no HV2.out, bel⟩
    have HRY := Lib.hid (hb.out.1 rfl)
    clear hb
    by_cases hny : ny ≠ 0
    · have HV2 : Hid (¬ OP 1 mb mb N F Bv nc kc nx f ny y nr r val) := fun h => hny (HOP.out.1 h).2.2.2.1
      have h4 : ((ny : Int) == 0) = false := beq_eq_false_iff_ne.2 (by omega)
      clear HOP
      go_wp2_with fail
      go_ret
      exact ⟨Tells.no HV2.out, bel⟩
    obtain rfl : ny = 0 := Classical.not_not.1 hny
    clear hny
    go_wp2_with fail
    refine (rsign_rat _ (fun _ => False) _ val (RatL.to (hv.mono (by omega)))).mono ?_
    rintro e w2 ⟨he, hb2⟩
    rw [HSG.out] at he
    subst he
    have y2 := hb2.size; (try simp only [World.size_alloc, size_set, size_drew, size_drewN] at y2)
    by_cases hs0 : sg ≠ 0
    · have HV2 : Hid (¬ OP 1 mb mb N F Bv nc kc nx f 0 y nr r val) := fun h => hs0 (HSV.out.2 (HOP.out.1 h).2.2.2.2)
      have h4 : (sg == 0) = false := beq_eq_false_iff_ne.2 hs0
      clear HOP HSV HSG
      go_wp2_with fail
      go_ret
      refine ⟨?_, bel⟩
      first | exact Tells.no HV2.out | (simp [h4]; exact Tells.no HV2.out)
    obtain rfl : sg = 0 := Classical.not_not.1 hs0
    have HV2 : Hid (OP 1 mb mb N F Bv nc kc nx f 0 y nr r val) := HOP.out.2 ⟨HPT.out, HRY.out.1, HRY.out.2, rfl, HSV.out.1 rfl⟩
    clear HOP HSV HSG
    go_wp2_with fail
    go_ret
    exact ⟨Tells.yes HV2.out, bel⟩
  by_cases k2 : kind = 2
  · subst k2
    have HOP : Hid (OP 2 mb mb N F Bv nc kc nx f ny y nr r val ↔ OP2 mb mb N F Bv kc nx f ny y nr val) := op_2 HV.out HN0.out.symm
    go_wp2_with fail
    refine Reg8o.reg8o _ (Sys.keep HS.out kp) (Nums.keep HC.out kp) (Nums.keep HX.out kp) (Nums.keep HY.out kp) (RatL.keep hv kp) hk1 hk HV HN0 (Loc.to L1) (Loc.to L2) ?_
    intro W b v74 v75 v76 v77 v78 v79 v80 v81 v82 v83 v84 v85 v86 v87 v88 v89 v90 v91 v92 v93 v94 v95 v96 v97 v98 v99 v100 v101 v102 v103 v104 v105 v106 v107 v108 v109 hb hB
    have HB := Lib.hid (hb.out.trans HOP.out.symm)
    clear hb HOP
    go_wp2_with fail
    go_ret
    exact ⟨⟨b, rfl, HB.out⟩, bel⟩
  · have HV2 : Hid (¬ OP kind mb mb N F Bv nc kc nx f ny y nr r val) := op_no k0 k1 k2
    have g0 : (kind == 0) = false := beq_eq_false_iff_ne.2 k0
    have g1 : (kind == 1) = false := beq_eq_false_iff_ne.2 k1
    have g2 : (kind == 2) = false := beq_eq_false_iff_ne.2 k2
    go_wp2_with fail
    go_ret
    exact ⟨Tells.no HV2.out, bel⟩
end
end Go.Proofs.YtpeglenapmkdfaaGreat

/- The plain laws of linear systems: certificates exclude each other, the kinds and values of optima are one. -/
namespace Go.Proofs.YtpeglenapmkdfaaGreat

section
variable {m n : Nat} {F : Nat → Nat → Rat} {f y Bv kc : Nat → Rat}
/-- A vector times the equations. -/
theorem times_rows (y f : Nat → Rat) (h : ∀ i, i < m → sm n (fun j => F i j * f j) = Bv i) : sm m (fun i => y i * Bv i) = sm n (fun j => f j * sm m (fun i => y i * F i j)) := by
  rw [sm_congr (g := fun i => sm n (fun j => f j * (y i * F i j))) (fun i hi => by
    rw [← h i hi, ← sm_mul]
    exact sm_congr (fun j _ => by grind)), sm_swap]
  exact sm_congr (fun j _ => by rw [sm_mul])
theorem sm_mono {f g : Nat → Rat} {m : Nat} (h : ∀ i, i < m → f i ≤ g i) : sm m f ≤ sm m g := by
  have h1 : 0 ≤ sm m (fun i => g i - f i) := sm_nonneg (fun i hi => by have := h i hi; grind)
  rw [sm_sub] at h1
  grind
/-- Weak duality. -/
theorem weak (hf : ∀ j, j < n → ¬ f j < 0) (h : ∀ i, i < m → sm n (fun j => F i j * f j) = Bv i) (hy : ∀ j, j < n → ¬ kc j < sm m (fun i => y i * F i j)) : sm m (fun i => y i * Bv i) ≤ sm n (fun j => kc j * f j) := by
  rw [times_rows y f h]
  refine sm_mono (fun j hj => ?_)
  have h1 := hf j hj
  have h2 := hy j hj
  rw [Rat.mul_comm (kc j)]
  exact Rat.mul_le_mul_of_nonneg_left (by grind) (by grind)
end

section
variable {m nx ny nr nc nx' ny' nr' : Nat} {N N' : Nat → Nat} {F F' : Nat → Nat → Rat} {f y r Bv Bv' kc f' y' r' : Nat → Rat} {val val' : Rat} {k k' : Int}
/-- No system has both a point and a Farkas vector. -/
theorem not_both (hp : PT m m N F Bv nx f) (hk : FK m m N F Bv ny y) : False := by
  obtain ⟨-, e, hf, hs⟩ := hp
  obtain ⟨-, -, hn, hy⟩ := hk
  rw [e] at hf
  have h := weak (kc := fun _ => 0) (y := fun i => -y i) hf hs (fun j hj => by
    have := hy j hj
    rw [sm_congr (g := fun i => -(y i * F i j)) (fun i _ => by grind), sm_neg]; grind)
  rw [sm_congr (f := fun i => -y i * Bv i) (g := fun i => -(y i * Bv i)) (fun i _ => by grind), sm_neg, sm_zero (f := fun j => 0 * f j) (fun j _ => by grind)] at h
  grind
theorem no_ray (hr : SV m (N 0) nr F r (fun _ => 0)) (hc : sm (N 0) (fun j => kc j * r j) < 0) (hy : ∀ j, j < N 0 → ¬ kc j < sm m (fun i => y i * F i j)) : False := by
  obtain ⟨e, hf, hs⟩ := hr
  rw [e] at hf
  have h := weak hf hs hy
  rw [sm_zero (f := fun i => y i * 0) (fun i _ => by grind)] at h
  grind
theorem val_le (hp : PT m m N F Bv nx f) (hy : ∀ j, j < N 0 → ¬ kc j < sm m (fun i => y i * F i j)) : sm m (fun i => y i * Bv i) ≤ sm (N 0) (fun j => kc j * f j) := by
  obtain ⟨-, e, hf, hs⟩ := hp
  rw [e] at hf
  exact weak hf hs hy
/-- The kind and the value of an optimum are one. -/
theorem OP.uniq (h : OP k m m N F Bv nc kc nx f ny y nr r val) (h' : OP k' m m N F Bv nc kc nx' f' ny' y' nr' r' val') : k = k' ∧ val = val' := by
  obtain ⟨-, -, h⟩ := h
  obtain ⟨-, -, h'⟩ := h'
  rcases h with ⟨rfl, h⟩ | ⟨rfl, h⟩ | ⟨rfl, h⟩ <;> rcases h' with ⟨rfl, h'⟩ | ⟨rfl, h'⟩ | ⟨rfl, h'⟩
  · exact ⟨rfl, by rw [h.2.2.2, h'.2.2.2]⟩
  · exact (not_both h'.1 h.1).elim
  · exact (not_both h'.1 h.1).elim
  · exact (not_both h.1 h'.1).elim
  · exact ⟨rfl, by rw [h.2.2.2.2, h'.2.2.2.2]⟩
  · exact (no_ray h.2.1 h.2.2.1 h'.2.1.2).elim
  · exact (not_both h.1 h'.1).elim
  · exact (no_ray h'.2.1 h'.2.2.1 h.2.1.2).elim
  · refine ⟨rfl, ?_⟩
    have h1 := val_le h.1 h'.2.1.2
    have h2 := val_le h'.1 h.2.1.2
    rw [h'.2.2.2.2, h.2.2.2.1] at h1
    rw [h.2.2.2.2, h'.2.2.2.1] at h2
    grind

/-- One equation more. -/
structure Ext (m : Nat) (N N' : Nat → Nat) (F F' : Nat → Nat → Rat) (Bv Bv' : Nat → Rat) : Prop where
  vs : VS (m + 1) (m + 1) N'
  n0 : N' 0 = N 0
  row : ∀ i, i < m → ∀ j, j < N 0 → F' i j = F i j
  rhs : ∀ i, i < m → Bv' i = Bv i
def ex (m : Nat) (y : Nat → Rat) : Nat → Rat := fun i => if i < m then y i else 0
theorem ex_sum (y g : Nat → Rat) : sm (m + 1) (fun i => ex m y i * g i) = sm m (fun i => y i * g i) := by
  rw [sm_succ, sm_congr (g := fun i => y i * g i) (fun i hi => by unfold ex; rw [if_pos hi])]
  unfold ex
  rw [if_neg (by omega)]; grind
theorem Ext.fk (e : Ext m N N' F F' Bv Bv') (h : FK m m N F Bv ny y) : FK (m + 1) (m + 1) N' F' Bv' (m + 1) (ex m y) := by
  refine ⟨e.vs, rfl, ?_, fun j hj => ?_⟩
  · rw [ex_sum, sm_congr (g := fun i => y i * Bv i) (fun i hi => by rw [e.rhs i hi])]; exact h.2.2.1
  · rw [e.n0] at hj
    rw [ex_sum, sm_congr (g := fun i => y i * F i j) (fun i hi => by rw [e.row i hi j hj])]; exact h.2.2.2 j hj
theorem Ext.du (e : Ext m N N' F F' Bv Bv') (hy : ∀ j, j < N 0 → ¬ kc j < sm m (fun i => y i * F i j)) : ∀ j, j < N' 0 → ¬ kc j < sm (m + 1) (fun i => ex m y i * F' i j) := fun j hj => by
  rw [e.n0] at hj
  rw [ex_sum, sm_congr (g := fun i => y i * F i j) (fun i hi => by rw [e.row i hi j hj])]; exact hy j hj
/-- A solution of the system with the equation more. -/
theorem Ext.sv (e : Ext m N N' F F' Bv Bv') {b b' : Nat → Rat} (hb : ∀ i, i < m → b' i = b i) (h : SV (m + 1) (N' 0) nx F' f b') : SV m (N 0) nx F f b := by
  obtain ⟨h1, h2, h3⟩ := h
  rw [e.n0] at h1 h3
  refine ⟨h1, h2, fun i hi => ?_⟩
  rw [← hb i hi, ← h3 i (by omega)]
  exact sm_congr (fun j hj => by rw [e.row i hi j hj])
theorem Ext.sv' (e : Ext m N N' F F' Bv Bv') {b b' : Nat → Rat} (hb : ∀ i, i < m → b' i = b i) (h : SV m (N 0) nx F f b) (hl : sm (N 0) (fun j => F' m j * f j) = b' m) : SV (m + 1) (N' 0) nx F' f b' := by
  obtain ⟨h1, h2, h3⟩ := h
  refine ⟨by rw [e.n0]; exact h1, h2, fun i hi => ?_⟩
  rw [e.n0]
  by_cases him : i < m
  · rw [hb i him, ← h3 i him]
    exact sm_congr (fun j hj => by rw [e.row i him j hj])
  · rw [show i = m by omega]; exact hl
/-- An equation that is a combination of two others changes nothing. -/
theorem Ext.same (e : Ext m N N' F F' Bv Bv') {a c : Nat} {t : Rat} (ha : a < m) (hc : c < m) (hrow : ∀ j, j < N 0 → F' m j = F a j + t * F c j) (hrhs : Bv' m = Bv a + t * Bv c)
    (h : OP k m m N F Bv nc kc nx f ny y nr r val) (h' : OP k' (m + 1) (m + 1) N' F' Bv' nc kc nx' f' ny' y' nr' r' val') : k = k' ∧ val = val' := by
  have comb : ∀ {g b b' : Nat → Rat} {ng : Nat}, SV m (N 0) ng F g b → b' m = b a + t * b c → sm (N 0) (fun j => F' m j * g j) = b' m := fun {g b b' ng} hs hb => by
    rw [sm_congr (g := fun j => F a j * g j + t * (F c j * g j)) (fun j hj => by rw [hrow j hj]; grind), sm_add, sm_mul, hs.2.2 a ha, hs.2.2 c hc, hb]
  have hpt : ∀ {g : Nat → Rat} {ng : Nat}, PT m m N F Bv ng g → PT (m + 1) (m + 1) N' F' Bv' ng g := fun hp => ⟨e.vs, e.sv' e.rhs hp.2 (comb hp.2 hrhs)⟩
  have h0 : ∃ ny2 y2, OP k (m + 1) (m + 1) N' F' Bv' nc kc nx f ny2 y2 nr r val := by
    obtain ⟨-, hn, h⟩ := h
    rcases h with ⟨rfl, h⟩ | ⟨rfl, h⟩ | ⟨rfl, h⟩
    · exact ⟨_, _, e.vs, by rw [e.n0]; exact hn, .inl ⟨rfl, e.fk h.1, h.2⟩⟩
    · refine ⟨ny, y, e.vs, by rw [e.n0]; exact hn, .inr (.inl ⟨rfl, hpt h.1, e.sv' (b' := fun _ => 0) (fun _ _ => rfl) h.2.1 (comb (b' := fun _ => 0) h.2.1 (by show (0 : Rat) = 0 + t * 0; grind)), by rw [e.n0]; exact h.2.2.1, h.2.2.2⟩)⟩
    · refine ⟨_, ex m y, e.vs, by rw [e.n0]; exact hn, .inr (.inr ⟨rfl, hpt h.1, ⟨rfl, e.du h.2.1.2⟩, h.2.2.1, by rw [e.n0]; exact h.2.2.2.1, ?_⟩)⟩
      rw [ex_sum, sm_congr (g := fun i => y i * Bv i) (fun i hi => by rw [e.rhs i hi])]; exact h.2.2.2.2
  obtain ⟨ny2, y2, h0⟩ := h0
  exact h0.uniq h'
/-- With one equation more the least cost does not fall. -/
theorem Ext.less (e : Ext m N N' F F' Bv Bv') (h : OP k m m N F Bv nc kc nx f ny y nr r val) (h' : OP k' (m + 1) (m + 1) N' F' Bv' nc kc nx' f' ny' y' nr' r' val') :
    (k = 0 → k' = 0) ∧ (k = 2 → k' ≠ 1) ∧ (k = 2 → k' = 2 → val ≤ val') := by
  obtain ⟨-, -, h⟩ := h
  obtain ⟨-, -, h'⟩ := h'
  refine ⟨fun h0 => ?_, fun h2 h1 => ?_, fun h2 h3 => ?_⟩
  · subst h0
    rcases h with ⟨-, h⟩ | ⟨h, -⟩ | ⟨h, -⟩
    · rcases h' with ⟨h', -⟩ | ⟨-, h'⟩ | ⟨-, h'⟩
      · exact h'
      · exact (not_both h'.1 (e.fk h.1)).elim
      · exact (not_both h'.1 (e.fk h.1)).elim
    · exact absurd h (by decide)
    · exact absurd h (by decide)
  · subst h2
    subst h1
    rcases h with ⟨h, -⟩ | ⟨h, -⟩ | ⟨-, h⟩
    · exact absurd h (by decide)
    · exact absurd h (by decide)
    rcases h' with ⟨h', -⟩ | ⟨-, h'⟩ | ⟨h', -⟩
    · exact absurd h' (by decide)
    · exact no_ray h'.2.1 h'.2.2.1 (e.du h.2.1.2)
    · exact absurd h' (by decide)
  · subst h2
    subst h3
    rcases h with ⟨h, -⟩ | ⟨h, -⟩ | ⟨-, h⟩
    · exact absurd h (by decide)
    · exact absurd h (by decide)
    rcases h' with ⟨h', -⟩ | ⟨h', -⟩ | ⟨-, h'⟩
    · exact absurd h' (by decide)
    · exact absurd h' (by decide)
    have hp : PT m m N F Bv nx' f' := ⟨h.1.1, e.sv e.rhs h'.1.2⟩
    have h1 := val_le hp h.2.1.2
    rw [h.2.2.2.2, ← e.n0, h'.2.2.2.1] at h1
    exact h1
end
end Go.Proofs.YtpeglenapmkdfaaGreat

/- What small systems give. -/
namespace Go.Proofs.YtpeglenapmkdfaaGreat
open Go.RowKit

theorem Tells.eq {P : Prop} {e : Ending} {b : Bool} (h : Tells P e) (hb : b = true ↔ P) : e = .returned (.bool b) := by
  obtain ⟨c, rfl, hc⟩ := h
  have : c = b := by
    have h1 := hc.out.trans hb.symm
    cases c <;> cases b <;> simp_all
  rw [this]
theorem tell (P : Prop) : ∃ b : Bool, Hid (b = true ↔ P) := by
  rcases Classical.em P with h | h
  · exact ⟨true, fun _ => h, fun _ => rfl⟩
  · exact ⟨false, fun h' => (by cases h'), fun h' => absurd h' h⟩
section
variable {w : World} {v0 v1 : Value} {L : List (List RF)} {l : List RF}
theorem FewS.mat (h : FewS L l) (hA : RMat w v0 L) : Mat 2 w (fun _ => False) v0 L.length (lens L) (qm L) := hA.mat (fun i r hr j e he => (h.2.2 i r hr).2 j e he)
theorem FewS.rhs (h : FewS L l) (hB : Rats w (fun _ => False) v1 l) : Nums 2 w (fun _ => False) v1 l.length (qs l) := hB.nums h.2.1.2
theorem NB.nums {k : Nat} (h : NB l k) (hB : Rats w (fun _ => False) v1 l) : Nums 2 w (fun _ => False) v1 l.length (qs l) := hB.nums h.2
theorem FewS.sys (h : FewS L l) (hA : RMat w v0 L) (hB : Rats w (fun _ => False) v1 l) : Sys 2 w (.agg #[v0, v1]) L.length l.length (lens L) (qm L) (qs l) := by
  obtain ⟨A, cA, rfl, hA', la1, la2⟩ := hA.op
  obtain ⟨B, cB, rfl, hB', lb1, lb2⟩ := hB.op
  exact ⟨_, _, _, _, rfl, h.mat hA', h.rhs hB'⟩
theorem FewS.len8 (h : FewS L l) : ∀ i, i < L.length → lens L i ≤ 8 := fun i hi => by
  have he := List.getElem?_eq_getElem hi
  rw [lens_get he]
  exact (h.2.2 i _ he).1
end
/-- The sizes K1 and K2 for numbers of two words. -/
theorem FewS.sz1 {w : World} {v : Value} {L : List (List RF)} {l : List RF} (h : FewS L l) (hS : Sys 2 w v L.length l.length (lens L) (qm L) (qs l)) : VS L.length l.length (lens L) → Szk 126 779 L.length (lens L 0) (t0 L.length (lens L 0) (qm L) (qs l)) (d1 L.length (lens L 0)) := hS.sz1 (by decide) h.1 h.len8 (by decide) (by decide)
theorem FewS.sz2 {w w2 : World} {v vc : Value} {L : List (List RF)} {l : List RF} {nc : Nat} {kc : Nat → Rat} (h : FewS L l) (hS : Sys 2 w v L.length l.length (lens L) (qm L) (qs l)) (hc : Nums 2 w2 (fun _ => False) vc nc kc) : VS L.length l.length (lens L) → nc = lens L 0 → Szk 126 779 L.length (lens L 0) (t0 L.length (lens L 0) (qm L) (qs l)) (d2 (lens L 0) kc) := hS.sz2 hc (by decide) h.1 h.len8 (by decide) (by decide)
theorem FewS.sz1x {w : World} {v : Value} {L : List (List RF)} {l : List RF} {nc : Nat} (h : FewS L l) (hS : Sys 2 w v L.length l.length (lens L) (qm L) (qs l)) : VS L.length l.length (lens L) → nc = lens L 0 → Szk 126 779 L.length (lens L 0) (t0 L.length (lens L 0) (qm L) (qs l)) (d1 L.length (lens L 0)) := fun hv _ => h.sz1 hS hv
section
variable {m mb nx ny nx' ny' : Nat} {N : Nat → Nat} {F : Nat → Nat → Rat} {f y Bv f' y' : Nat → Rat} {b : Bool}
theorem not_bothS (hp : PT m mb N F Bv nx f) (hk : FK m mb N F Bv ny y) : False := by
  obtain rfl := hp.1.2.2.1
  exact not_both hp hk
theorem rs_fk (h : RS b m mb N F Bv nx f ny y) (hk : FK m mb N F Bv ny' y') : b = false := by
  rcases h with ⟨_, _, h⟩ | ⟨h, _, _⟩
  · exact (not_bothS h hk).elim
  · exact h
theorem rs_pt (h : RS b m mb N F Bv nx f ny y) (hp : PT m mb N F Bv nx' f') : b = true := by
  rcases h with ⟨h, _, _⟩ | ⟨_, _, h⟩
  · exact h
  · exact (not_bothS hp h).elim
end
end Go.Proofs.YtpeglenapmkdfaaGreat

/- The chapter's examples of linear systems, plainly. -/
namespace Go.Proofs.YtpeglenapmkdfaaGreat
/-- Integers as fractions. -/
def zi (zs : List Int) : Nat → Rat := fun i => ((zs.getD i 0 : Int) : Rat)
def kA : Nat → Nat → Rat := fun i => if i = 0 then zi [1, 1] else zi [1, -1]
theorem k_vs : VS 2 2 (fun _ => 2) := ⟨by decide, by decide, rfl, by decide, by decide, fun _ _ => rfl⟩
theorem two_of {p : Nat → Prop} (h0 : p 0) (h1 : p 1) : ∀ i, i < 2 → p i := fun i hi => by
  rcases (show i = 0 ∨ i = 1 by omega) with rfl | rfl
  · exact h0
  · exact h1
theorem one_of {p : Nat → Prop} (h0 : p 0) : ∀ i, i < 1 → p i := fun i hi => by
  obtain rfl : i = 0 := by omega
  exact h0
theorem k_pt : PT 2 2 (fun _ => 2) kA (zi [3, 1]) 2 (zi [2, 1]) := ⟨k_vs, rfl, two_of (by decide +kernel) (by decide +kernel), two_of (by decide +kernel) (by decide +kernel)⟩
theorem k_npt : ¬ PT 2 2 (fun _ => 2) kA (zi [3, 1]) 2 (zi [1, 2]) := fun ⟨_, _, _, h⟩ => absurd (h 1 (by decide)) (by decide +kernel)
theorem k_vs1 : VS 1 1 (fun _ => 1) := ⟨by decide, by decide, rfl, by decide, by decide, fun _ _ => rfl⟩
theorem k_fk : FK 1 1 (fun _ => 1) (fun _ => zi [1]) (zi [-1]) 1 (zi [1]) := ⟨k_vs1, rfl, by decide +kernel, one_of (by decide +kernel)⟩
theorem k_nfk : ¬ FK 1 1 (fun _ => 1) (fun _ => zi [1]) (zi [-1]) 1 (zi [0]) := fun ⟨_, _, h, _⟩ => absurd h (by decide +kernel)
theorem k_un {nx : Nat} {f : Nat → Rat} (h : PT 2 2 (fun _ => 2) kA (zi [3, 1]) nx f) : nx = 2 ∧ ∀ i, i < 2 → f i = zi [2, 1] i := by
  obtain ⟨_, h1, _, h⟩ := h
  have a := h 0 (by decide)
  have b := h 1 (by decide)
  simp only [sm] at a b
  rw [show kA 0 0 = 1 by decide +kernel, show kA 0 1 = 1 by decide +kernel, show zi [3, 1] 0 = 3 by decide +kernel] at a
  rw [show kA 1 0 = 1 by decide +kernel, show kA 1 1 = -1 by decide +kernel, show zi [3, 1] 1 = 1 by decide +kernel] at b
  refine ⟨h1, two_of ?_ ?_⟩
  · rw [show zi [2, 1] 0 = 2 by decide +kernel]; grind
  · rw [show zi [2, 1] 1 = 1 by decide +kernel]; grind
theorem k_vs2 : VS 1 1 (fun _ => 2) := ⟨by decide, by decide, rfl, by decide, by decide, fun _ _ => rfl⟩
theorem k_op : OP 2 1 1 (fun _ => 2) (fun _ => zi [1, 1]) (zi [3]) 2 (zi [2, 1]) 2 (zi [0, 3]) 1 (zi [1]) 0 (fun _ => 0) 3 :=
  ⟨k_vs2, rfl, .inr (.inr ⟨rfl, ⟨k_vs2, rfl, two_of (by decide +kernel) (by decide +kernel), one_of (by decide +kernel)⟩, ⟨rfl, two_of (by decide +kernel) (by decide +kernel)⟩, rfl, by decide +kernel, by decide +kernel⟩)⟩
/-- Solve of the example: the point. -/
theorem k_rs {b : Bool} {nx ny : Nat} {f y : Nat → Rat} (h : RS b 2 2 (fun _ => 2) kA (zi [3, 1]) nx f ny y) : b = true ∧ nx = 2 ∧ ∀ i, i < 2 → f i = zi [2, 1] i := by
  rcases h with ⟨h1, _, h⟩ | ⟨_, _, h⟩
  · exact ⟨h1, k_un h⟩
  · exact (not_both k_pt h).elim
end Go.Proofs.YtpeglenapmkdfaaGreat

