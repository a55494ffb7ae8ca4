/- Contracts of the functions that the statements reach, part 33. -/
import Derived.Test.YtpeglenapmkdfaaGreatRows
import Derived.Test.YtpeglenapmkdfaaGreatM23
import Derived.Test.YtpeglenapmkdfaaGreatM29
import Derived.Test.YtpeglenapmkdfaaGreatM31
import Derived.Test.YtpeglenapmkdfaaGreatM32
set_option linter.unusedSimpArgs false
set_option linter.unusedVariables false

/- CheckPoint, CheckFarkas, CheckResult of the program. -/
namespace Go.Proofs.YtpeglenapmkdfaaGreat
open Go.RowKit
attribute [local go_sem ↓] Go.wp_at_zero Go.wp_at_succ

/-- A system that is read. -/
def Sys (k : Nat) (w : World) (v : Value) (m mb : Nat) (N : Nat → Nat) (F : Nat → Nat → Rat) (Bv : Nat → Rat) : Prop :=
  ∃ A c B d, v = .agg #[.slice A m c, .slice B mb d] ∧ Mat k w (fun _ => False) (.slice A m c) m N F ∧ Nums k w (fun _ => False) (.slice B mb d) mb Bv
theorem Sys.keep {k : Nat} {w w' : World} {v : Value} {m mb : Nat} {N : Nat → Nat} {F : Nat → Nat → Rat} {Bv : Nat → Rat} (h : Sys k w v m mb N F Bv) (hk : Keep (fun _ => False) w w') : Sys k w' v m mb N F Bv := by
  obtain ⟨A, c, B, d, rfl, h1, h2⟩ := h
  exact ⟨A, c, B, d, rfl, h1.keep hk, h2.keep hk⟩
/-- A point of a system. -/
def PT (m mb : Nat) (N : Nat → Nat) (F : Nat → Nat → Rat) (Bv : Nat → Rat) (nx : Nat) (f : Nat → Rat) : Prop := VS m mb N ∧ SV m (N 0) nx F f Bv
/-- A Farkas vector of a system. -/
def FK (m mb : Nat) (N : Nat → Nat) (F : Nat → Nat → Rat) (Bv : Nat → Rat) (ny : Nat) (y : Nat → Rat) : Prop := VS m mb N ∧ ny = m ∧ sm m (fun i => y i * Bv i) < 0 ∧ ∀ j, j < N 0 → ¬ sm m (fun i => y i * F i j) < 0

section
variable {m mb nx ny k : Nat} {N : Nat → Nat} {F : Nat → Nat → Rat} {f y Bv : Nat → Rat}

set_option maxHeartbeats 4000000 in
theorem checkPoint_any (w : World) (vs vx : Value) (hS : Sys k w vs m mb N F Bv) (hx : Nums k w (fun _ => False) vx nx f) (hk1 : 1 ≤ k) (hk : k ≤ 2000) :
    Calls Tryz.prog 16 #[vs, vx] w fun e w' => Tells (PT m mb N F Bv nx f) e ∧ Below w.heap.size w w' := by
  obtain ⟨A, c, B, d, rfl, hA, hB⟩ := hS
  have HA := Lib.hid hA
  have HB := Lib.hid hB
  have HX := Lib.hid hx
  obtain ⟨C, c3, rfl, hx, l3, l4⟩ := hx.op
  have L := made1 w #[.slice A m c, .slice B mb d] 25
  clear hA hB hx
  go_enter Tryz.func16, Tryz.ntmps16
  go_wp2_with fail
  refine (valid_any _ _ _ m mb k N F Bv (Mat.keep HA.out kp) (Nums.keep HB.out kp)).mono ?_
  rintro e w1 ⟨⟨b, rfl, hb⟩, hb1⟩
  have z1 := sz1 hb1
  obtain ⟨e1, f1, -⟩ := L.all (w' := w1)
  cases b
  · have HV : Hid (¬ PT m mb N F Bv nx f) := fun h => by have := hb.out.2 h.1; cases this
    clear hb
    go_wp2_with fail
    go_ret
    exact ⟨Tells.no HV.out, bel⟩
  · have HV : Hid (VS m mb N) := hb.out.1 rfl
    clear hb
    go_wp2_with fail
    obtain ⟨v1, v2, v3, v4, v5, v6⟩ := HV.out
    refine (solves_any _ _ _ _ _ m nx mb k N F f Bv (Mat.keep HA.out kp) ⟨_, _, _, rfl⟩ (Nums.keep HX.out kp) (Nums.keep HB.out kp) v1 v2 v5 v6 (by omega) hk1 hk).mono ?_
    rintro e w2 ⟨⟨b, rfl, hb⟩, hb2⟩
    have y2 := hb2.size; (try simp only [World.size_alloc, size_set, size_drew, size_drewN] at y2)
    clear v1 v2 v3 v4 v5 v6
    cases b
    · have HV2 : Hid (¬ PT m mb N F Bv nx f) := fun h => by have := hb.out.2 h.2; cases this
      clear hb
      go_wp2_with fail
      go_ret
      exact ⟨Tells.no HV2.out, bel⟩
    · have HV2 : Hid (PT m mb N F Bv nx f) := ⟨HV.out, hb.out.1 rfl⟩
      clear hb
      go_wp2_with fail
      go_ret
      exact ⟨Tells.yes HV2.out, bel⟩

set_option maxHeartbeats 8000000 in
theorem checkFarkas_any (w : World) (vs vy : Value) (hS : Sys k w vs m mb N F Bv) (hy : Nums k w (fun _ => False) vy ny y) (hk1 : 1 ≤ k) (hk : k ≤ 2000) :
    Calls Tryz.prog 18 #[vs, vy] w fun e w' => Tells (FK m mb N F Bv ny y) e ∧ Below w.heap.size w w' := by
  obtain ⟨A, c, B, d, rfl, hA, hB⟩ := hS
  have HA := Lib.hid hA
  have HB := Lib.hid hB
  have HY := Lib.hid hy
  obtain ⟨C, c3, rfl, hy, l3, l4⟩ := hy.op
  have L := made1 w #[.slice A m c, .slice B mb d] 25
  go_enter Tryz.func18, Tryz.ntmps18
  go_wp2_with fail
  refine (valid_any _ _ _ m mb k N F Bv (Mat.keep HA.out kp) (Nums.keep HB.out kp)).mono ?_
  rintro e w1 ⟨⟨b, rfl, hb⟩, hb1⟩
  have z1 := sz1 hb1
  obtain ⟨e1, f1, -⟩ := L.all (w' := w1)
  cases b
  · have HV : Hid (¬ FK m mb N F Bv ny y) := fun h => by have := hb.out.2 h.1; cases this
    clear hb hA hB hy
    go_wp2_with fail
    go_ret
    exact ⟨Tells.no HV.out, bel⟩
  have HV : Hid (VS m mb N) := hb.out.1 rfl
  clear hb
  obtain ⟨v1, v2, rfl, v4, v5, v6⟩ := HV.out
  by_cases hny : ny ≠ mb
  · have HV2 : Hid (¬ FK mb mb N F Bv ny y) := fun h => hny h.2.1
    have h4 : ((ny : Int) == (mb : Int)) = false := beq_eq_false_iff_ne.2 (by omega)
    have h5 : ((ny : Int) != (mb : Int)) = true := bne_iff_ne.2 (by omega)
    clear hA hB hy v6
    go_wp2_with fail
    go_ret
    exact ⟨Tells.no HV2.out, bel⟩
  obtain rfl : ny = mb := Classical.not_not.1 hny
  obtain ⟨a, D, dd, rfl, hab, -, hcell, hnum, l7, l8⟩ := Mat.at hA (show 0 < ny by omega)
  have e0 : a.add 0 = a := by simp [Addr.add]
  rw [e0] at hcell
  have HCELL : Hid (∀ W, Below w.heap.size w W → W.cell? a = some (.slice D (N 0) dd)) := fun W hW => cell_keep (X := fun _ => False) hcell hab id (.of_below hW)
  have q0 : (0 : Int) < (ny : Int) := by omega
  have HN := Lib.hid v6
  obtain ⟨n, hnn⟩ : ∃ n, N 0 = n := ⟨_, rfl⟩
  rw [hnn] at HCELL hnum l7 v4 v5
  have HN0 := Lib.hid hnn
  have HD : Hid (∀ q : Nat → Rat, (∀ i, i < ny → Rsz k (q i)) → Rsz 900000 (sm ny (fun i => y i * q i))) := fun q hq => dot_rsz (HY.out.rsz hk1) hq (by omega) hk
  have HR : Hid (∀ i, i < ny → Rsz k (Bv i)) := HB.out.rsz hk1
  clear hA hB hy v6 hny hcell hnn
  obtain ⟨dv, hdv⟩ : ∃ q, sm ny (fun i => y i * Bv i) = q := ⟨_, rfl⟩
  have HDV := Lib.hid hdv
  have HDS : Hid (Rsz 900000 dv) := by show Rsz _ _; rw [← hdv]; exact HD.out Bv HR.out
  clear hdv
  go_wp2_with fail
  refine (dot_any _ _ _ ny ny k y Bv (Nums.keep HY.out kp) (Nums.keep HB.out kp) (Nat.le_refl _) (by omega) hk1 (by omega)).mono ?_
  rintro e w2 ⟨u2, rfl, i2, hb2⟩
  rw [HDV.out] at i2
  have y2 := hb2.size; (try simp only [World.size_alloc, size_set, size_drew, size_drewN] at y2)
  obtain ⟨b2, A2, m2, c2, b2', A2', m2', c2', rfl, i2, -, -⟩ := i2.op
  go_wp2_with fail
  refine (negative_any _ 900000 _ dv (RatL.to (i2.len HDS.out))).mono ?_
  rintro e w3 ⟨he, hb3⟩
  have y3 := hb3.size; (try simp only [World.size_alloc, size_set, size_drew, size_drewN] at y3)
  by_cases hneg : dv < 0
  · rw [decide_eq_true hneg] at he
    subst he
    have HNEG := Lib.hid hneg
    clear hneg e1 f1
    obtain ⟨e1, f1, -⟩ := L.all (w' := w3)
    have hc3 := HCELL.out w3 bel
    go_wp2_with fail
    go_loopw [30] (fun i wr => ∃ (c : Nat), c ≤ n ∧ i = .int .i64 c ∧ Hid (∀ j, j < c → ¬ sm ny (fun i => y i * F i j) < 0) ∧ Below w.heap.size w wr ∧ Loc wr w.heap.size 25 _) (fun i _ => n - (intOf i).toNat)
    case atStart => exact ⟨0, by omega, rfl, Lib.hid (fun i hi => absurd hi (by omega)), bel, L.to⟩
    case round =>
      obtain ⟨c6, hc, rfl, hall, hB, NL⟩ := hrel
      obtain ⟨wo, rfl⟩ : ∃ wo : World, wo = wr := ⟨_, rfl⟩
      have y5 := hB.size; (try simp only [World.size_alloc, size_set, size_drew, size_drewN] at y5)
      by_cases hlt : c6 < n
      · clear e1 f1 hc3
        obtain ⟨e1, f1, l1⟩ := NL.all (w' := wo)
        obtain ⟨dw, hdw⟩ : ∃ q, sm ny (fun i => y i * F i c6) = q := ⟨_, rfl⟩
        have HDW := Lib.hid hdw
        clear hdw
        go_wp2_with fail
        refine (column_any _ _ _ ny c6 k N F (Mat.keep HA.out kp) ⟨_, _, _, rfl⟩ (fun i hi => by rw [HN.out i hi, HN0.out]; exact hlt) (by omega)).mono ?_
        rintro e w4 ⟨u4, rfl, i4, hb4⟩
        have y4 := hb4.size; (try simp only [World.size_alloc, size_set, size_drew, size_drewN] at y4)
        have HDS4 : Hid (Rsz 900000 dw) := by show Rsz _ _; rw [← HDW.out]; exact HD.out _ (i4.rsz hk1)
        obtain ⟨C4, c4, rfl, i4, l9, l10⟩ := i4.op
        go_wp2_with fail
        refine (dot_any _ _ _ ny ny k y (fun i => F i c6) (Nums.keep HY.out kp) i4 (Nat.le_refl _) (by omega) hk1 (by omega)).mono ?_
        rintro e w5 ⟨u5, rfl, i5, hb5⟩
        rw [HDW.out] at i5
        have y6 := hb5.size; (try simp only [World.size_alloc, size_set, size_drew, size_drewN] at y6)
        obtain ⟨b5, A5, m5, c5, b5', A5', m5', c5', rfl, i5, -, -⟩ := i5.op
        go_wp2_with fail
        refine (negative_any _ 900000 _ dw (RatL.to (i5.len HDS4.out))).mono ?_
        rintro e w6 ⟨he, hb6⟩
        have y7 := hb6.size; (try simp only [World.size_alloc, size_set, size_drew, size_drewN] at y7)
        by_cases hneg2 : dw < 0
        · rw [decide_eq_true hneg2] at he
          subst he
          have HV2 : Hid (¬ FK ny ny N F Bv ny y) := fun h => h.2.2.2 c6 (by rw [HN0.out]; exact hlt) (by rw [HDW.out]; exact hneg2)
          clear hneg2
          go_wp2_with fail
          go_ret
          exact ⟨Tells.no HV2.out, bel⟩
        · rw [decide_eq_false hneg2] at he
          subst he
          have HNN := Lib.hid hneg2
          clear hneg2
          go_wp2_with fail
          go_roundw
          case rel =>
            refine ⟨c6 + 1, by omega, by go_num, Lib.hid (fun i hi => ?_), bel, NL.to⟩
            by_cases hic : i < c6
            · exact hall.out i hic
            · obtain rfl : i = c6 := by omega
              rw [HDW.out]; exact HNN.out
          case measure => simp only [intOf]; omega
      · obtain rfl : c6 = n := by omega
        go_wp2_with fail
        go_ret
        exact ⟨Tells.yes ⟨HV.out, rfl, by rw [HDV.out]; exact HNEG.out, by rw [HN0.out]; exact hall.out⟩, hB⟩
  · rw [decide_eq_false hneg] at he
    subst he
    have HV2 : Hid (¬ FK ny ny N F Bv ny y) := fun h => hneg (by rw [← HDV.out]; exact h.2.2.1)
    clear hneg
    go_wp2_with fail
    go_ret
    exact ⟨Tells.no HV2.out, bel⟩
end
end Go.Proofs.YtpeglenapmkdfaaGreat

/- CheckResult and CheckOptimum of the program. -/
namespace Go.Proofs.YtpeglenapmkdfaaGreat
open Go.RowKit
attribute [local go_sem ↓] Go.wp_at_zero Go.wp_at_succ

/-- A result that proves itself. -/
def RS (feas : Bool) (m mb : Nat) (N : Nat → Nat) (F : Nat → Nat → Rat) (Bv : Nat → Rat) (nx : Nat) (f : Nat → Rat) (ny : Nat) (y : Nat → Rat) : Prop :=
  (feas = true ∧ ny = 0 ∧ PT m mb N F Bv nx f) ∨ (feas = false ∧ nx = 0 ∧ FK m mb N F Bv ny y)
/-- An optimum that proves itself: the three kinds. -/
def OP0 (m mb : Nat) (N : Nat → Nat) (F : Nat → Nat → Rat) (Bv : Nat → Rat) (nx ny : Nat) (y : Nat → Rat) (nr : Nat) (val : Rat) : Prop := FK m mb N F Bv ny y ∧ nx = 0 ∧ nr = 0 ∧ val = 0
def OP1 (m mb : Nat) (N : Nat → Nat) (F : Nat → Nat → Rat) (Bv kc : Nat → Rat) (nx : Nat) (f : Nat → Rat) (ny nr : Nat) (r : Nat → Rat) (val : Rat) : Prop :=
  PT m mb N F Bv nx f ∧ SV m (N 0) nr F r (fun _ => 0) ∧ sm (N 0) (fun j => kc j * r j) < 0 ∧ ny = 0 ∧ val = 0
def OP2 (m mb : Nat) (N : Nat → Nat) (F : Nat → Nat → Rat) (Bv kc : Nat → Rat) (nx : Nat) (f : Nat → Rat) (ny : Nat) (y : Nat → Rat) (nr : Nat) (val : Rat) : Prop :=
  PT m mb N F Bv nx f ∧ (ny = m ∧ ∀ j, j < N 0 → ¬ kc j < sm m (fun i => y i * F i j)) ∧ nr = 0 ∧ sm (N 0) (fun j => kc j * f j) = val ∧ sm m (fun i => y i * Bv i) = val
def OP (kind : Int) (m mb : Nat) (N : Nat → Nat) (F : Nat → Nat → Rat) (Bv : Nat → Rat) (nc : Nat) (kc : Nat → Rat) (nx : Nat) (f : Nat → Rat) (ny : Nat) (y : Nat → Rat) (nr : Nat) (r : Nat → Rat) (val : Rat) : Prop :=
  VS m mb N ∧ nc = N 0 ∧ ((kind = 0 ∧ OP0 m mb N F Bv nx ny y nr val) ∨ (kind = 1 ∧ OP1 m mb N F Bv kc nx f ny nr r val) ∨ (kind = 2 ∧ OP2 m mb N F Bv kc nx f ny y nr val))

section
variable {m mb nx ny nr nc k : Nat} {N : Nat → Nat} {F : Nat → Nat → Rat} {f y r Bv kc : Nat → Rat} {val : Rat}

set_option maxHeartbeats 4000000 in
theorem checkResult_any (w : World) (vs vx vy : Value) (feas : Bool) (hS : Sys k w vs m mb N F Bv) (hx : Nums k w (fun _ => False) vx nx f) (hy : Nums k w (fun _ => False) vy ny y) (hk1 : 1 ≤ k) (hk : k ≤ 2000) :
    Calls Tryz.prog 30 #[vs, .agg #[.bool feas, vx, vy]] w fun e w' => Tells (RS feas m mb N F Bv nx f ny y) e ∧ Below w.heap.size w w' := by
  have HS := Lib.hid hS
  obtain ⟨A, c, B, d, rfl, hA, hB⟩ := hS
  have HX := Lib.hid hx
  have HY := Lib.hid hy
  obtain ⟨C, c3, rfl, hx, l3, l4⟩ := hx.op
  obtain ⟨E, c4, rfl, hy, l5, l6⟩ := hy.op
  have L := made1 w #[.slice A m c, .slice B mb d] 25
  clear hA hB hx hy
  cases feas
  · by_cases h0 : nx ≠ 0
    · have HV : Hid (¬ RS false m mb N F Bv nx f ny y) := fun h => by
        rcases h with ⟨h, _⟩ | ⟨_, h, _⟩
        · cases h
        · exact h0 h
      have h4 : ((nx : Int) == 0) = false := beq_eq_false_iff_ne.2 (by omega)
      go_enter Tryz.func30, Tryz.ntmps30
      go_wp2_with fail
      go_ret
      exact ⟨Tells.no HV.out, bel⟩
    · obtain rfl : nx = 0 := Classical.not_not.1 h0
      go_enter Tryz.func30, Tryz.ntmps30
      go_wp2_with fail
      refine (checkFarkas_any (y := y) (ny := ny) _ _ _ (Sys.keep HS.out kp) (Nums.keep HY.out kp) hk1 hk).mono ?_
      rintro e w1 ⟨⟨b, rfl, hb⟩, hb1⟩
      obtain ⟨z1, z2⟩ := sz2 hb1
      cases b
      · have HV : Hid (¬ RS false m mb N F Bv 0 f ny y) := fun h => by
          rcases h with ⟨h, _⟩ | ⟨_, _, h⟩
          · cases h
          · have := hb.out.2 h; cases this
        clear hb
        go_wp2_with fail
        go_ret
        exact ⟨Tells.no HV.out, bel⟩
      · have HV : Hid (RS false m mb N F Bv 0 f ny y) := .inr ⟨rfl, rfl, hb.out.1 rfl⟩
        clear hb
        go_wp2_with fail
        go_ret
        exact ⟨Tells.yes HV.out, bel⟩
  · by_cases h0 : ny ≠ 0
    · have HV : Hid (¬ RS true m mb N F Bv nx f ny y) := fun h => by
        rcases h with ⟨_, h, _⟩ | ⟨h, _⟩
        · exact h0 h
        · cases h
      have h4 : ((ny : Int) == 0) = false := beq_eq_false_iff_ne.2 (by omega)
      go_enter Tryz.func30, Tryz.ntmps30
      go_wp2_with fail
      go_ret
      exact ⟨Tells.no HV.out, bel⟩
    · obtain rfl : ny = 0 := Classical.not_not.1 h0
      go_enter Tryz.func30, Tryz.ntmps30
      go_wp2_with fail
      refine (checkPoint_any (f := f) (nx := nx) _ _ _ (Sys.keep HS.out kp) (Nums.keep HX.out kp) hk1 hk).mono ?_
      rintro e w1 ⟨⟨b, rfl, hb⟩, hb1⟩
      obtain ⟨z1, z2⟩ := sz2 hb1
      cases b
      · have HV : Hid (¬ RS true m mb N F Bv nx f 0 y) := fun h => by
          rcases h with ⟨_, _, h⟩ | ⟨h, _⟩
          · have := hb.out.2 h; cases this
          · cases h
        clear hb
        go_wp2_with fail
        go_ret
        exact ⟨Tells.no HV.out, bel⟩
      · have HV : Hid (RS true m mb N F Bv nx f 0 y) := .inl ⟨rfl, rfl, hb.out.1 rfl⟩
        clear hb
        go_wp2_with fail
        go_ret
        exact ⟨Tells.yes HV.out, bel⟩
end
end Go.Proofs.YtpeglenapmkdfaaGreat

/- What the tableaux at the ends of the two phases prove of the system: plain laws. -/
namespace Go.Proofs.YtpeglenapmkdfaaGreat

section
variable {m n : Nat} {F : Nat → Nat → Rat} {Bv kc : Nat → Rat} {S : St} {N : Nat → Nat}
theorem sgn_sq (Bv : Nat → Rat) (l : Nat) : ((sgn Bv l : Int) : Rat) * ((sgn Bv l : Int) : Rat) = 1 := by
  rcases sgn_or Bv l with h | h <;> rw [h]
  · rw [show ((1 : Int) : Rat) = 1 from rfl]; grind
  · rw [show ((-1 : Int) : Rat) = -1 from rfl]; grind
theorem sgn_cancel (Bv : Nat → Rat) (l : Nat) {x y : Rat} (h : ((sgn Bv l : Int) : Rat) * x = ((sgn Bv l : Int) : Rat) * y) : x = y := by
  have h2 := sgn_sq Bv l
  have : ((sgn Bv l : Int) : Rat) * (((sgn Bv l : Int) : Rat) * x) = ((sgn Bv l : Int) : Rat) * (((sgn Bv l : Int) : Rat) * y) := by rw [h]
  grind
/-- A solution of the first tableau solves the system. -/
theorem sv_of {f : Nat → Rat} {bv : Nat → Rat} (hf : ∀ j, j < n → 0 ≤ f j) (h : ∀ l, l < m → sm n (fun j => t0 m n F Bv l j * f j) = ((sgn Bv l : Int) : Rat) * bv l) : SV m n n F f bv := by
  refine ⟨rfl, fun j hj => Rat.not_lt.2 (hf j hj), fun l hl => sgn_cancel Bv l ?_⟩
  rw [← h l hl, ← sm_mul]
  exact sm_congr (fun j hj => by rw [t0_left hj]; grind)
theorem pt_sv (G : Good m n (t0 m n F Bv) S.T S.b) (hF : Feas m n S) (hZ : Zer m n S) : SV m n n F (pt m n S) Bv :=
  sv_of (fun j _ => pt_nonneg hF j) (fun l hl => by rw [pt_solves G hZ hl, t0_right])
theorem ry_sv (G : Good m n (t0 m n F Bv) S.T S.b) (hN : Non m n m S) {j : Nat} (hj : j < n) (hno : ∀ i, i < m → ¬ 0 < S.T i j) : SV m n n F (ry m S j) (fun _ => 0) :=
  sv_of (fun c _ => ry_nonneg hno c) (fun l hl => by rw [ry_solves G hN hj hl]; grind)
/-- The vector of the duals, its signs back, times the system. -/
theorem du_left (G : Good m n (t0 m n F Bv) S.T S.b) (d : Nat → Rat) {c : Nat} (hc : c < n) : sm m (fun l => (((sgn Bv l : Int) : Rat) * du m n d S l) * F l c) = d c - rho m d S.T S.b c := by
  rw [G.dual (d := d) (show c ≤ n + m by omega), sm_congr (g := fun l => du m n d S l * t0 m n F Bv l c) (fun l _ => by rw [t0_left hc]; grind)]; grind
theorem du_right (G : Good m n (t0 m n F Bv) S.T S.b) (d : Nat → Rat) : sm m (fun l => (((sgn Bv l : Int) : Rat) * du m n d S l) * Bv l) = d (n + m) - rho m d S.T S.b (n + m) := by
  rw [G.dual (d := d) (Nat.le_refl (n + m)), sm_congr (g := fun l => du m n d S l * t0 m n F Bv l (n + m)) (fun l _ => by rw [t0_right]; grind)]; grind
theorem du_1 {l : Nat} (hl : l < m) : ((-(sgn Bv l) : Int) : Rat) * (1 - rho m (d1 m n) S.T S.b (n + l)) = -(((sgn Bv l : Int) : Rat) * du m n (d1 m n) S l) := by
  have h : d1 m n (n + l) = 1 := by unfold d1; rw [if_pos (by omega)]
  unfold du
  rw [h, Rat.intCast_neg]; grind
theorem du_2 {l : Nat} : ((-(sgn Bv l) : Int) : Rat) * rho m (d2 n kc) S.T S.b (n + l) = ((sgn Bv l : Int) : Rat) * du m n (d2 n kc) S l := by
  have h : d2 n kc (n + l) = 0 := by unfold d2; rw [if_neg (by omega)]
  unfold du
  rw [h, Rat.intCast_neg]; grind

theorem rho_basic {T0 : Nat → Nat → Rat} {d : Nat → Rat} (G : Good m n T0 S.T S.b) {i : Nat} (hi : i < m) : rho m d S.T S.b (S.b i) = 0 := by
  unfold rho
  rw [sm_one _ i hi (fun l hl hne => by rw [G.id i hi l hl, if_neg hne]; grind), G.id i hi i hi, if_pos rfl]; grind
/-- The first phase fails: its duals are a Farkas vector. -/
theorem fk_of (hV : VS m m N) (hN : N 0 = n) (G : Good m n (t0 m n F Bv) S.T S.b) (hF : Feas m n S) (ho : ∀ j, j < n → ¬ rho m (d1 m n) S.T S.b j < 0) (hne : rho m (d1 m n) S.T S.b (n + m) ≠ 0) :
    FK m m N F Bv m (fun i => ((-(sgn Bv i) : Int) : Rat) * (1 - rho m (d1 m n) S.T S.b (n + i))) := by
  refine ⟨hV, rfl, ?_, fun j hj => ?_⟩
  · have h := du_right G (d1 m n)
    rw [d1_right] at h
    rw [sm_congr (g := fun l => -((((sgn Bv l : Int) : Rat) * du m n (d1 m n) S l) * Bv l)) (fun l hl => by dsimp only; rw [du_1 hl]; grind), sm_neg, h]
    have := p1_le (n := n) hF
    have h0 : rho m (d1 m n) S.T S.b (n + m) < 0 := Rat.lt_of_le_of_ne this hne
    grind
  · rw [hN] at hj
    have h := du_left G (d1 m n) hj
    have h0 : d1 m n j = 0 := by unfold d1; rw [if_neg (by omega)]
    rw [h0] at h
    rw [sm_congr (g := fun l => -((((sgn Bv l : Int) : Rat) * du m n (d1 m n) S l) * F l j)) (fun l hl => by dsimp only; rw [du_1 hl]; grind), sm_neg, h]
    have := ho j hj
    grind
/-- The first phase succeeds: its point solves the system. -/
theorem pt_of (hV : VS m m N) (hN : N 0 = n) (G : Good m n (t0 m n F Bv) S.T S.b) (hF : Feas m n S) (hZ : Zer m n S) : PT m m N F Bv n (pt m n S) :=
  ⟨hV, by rw [hN]; exact pt_sv G hF hZ⟩
/-- The second phase is bounded. -/
theorem op2_of (hV : VS m m N) (hN : N 0 = n) (G : Good m n (t0 m n F Bv) S.T S.b) (hF : Feas m n S) (hZ : Zer m n S) (ho : ∀ j, j < n → ¬ rho m (d2 n kc) S.T S.b j < 0) :
    OP2 m m N F Bv kc n (pt m n S) m (fun i => ((-(sgn Bv i) : Int) : Rat) * rho m (d2 n kc) S.T S.b (n + i)) 0 (-rho m (d2 n kc) S.T S.b (n + m)) := by
  refine ⟨pt_of hV hN G hF hZ, ⟨rfl, fun j hj => ?_⟩, rfl, ?_, ?_⟩
  · rw [hN] at hj
    have h := du_left G (d2 n kc) hj
    have h0 : d2 n kc j = kc j := by unfold d2; rw [if_pos hj]
    rw [h0] at h
    rw [sm_congr (g := fun l => (((sgn Bv l : Int) : Rat) * du m n (d2 n kc) S l) * F l j) (fun l hl => by dsimp only; rw [du_2]), h]
    have := ho j hj
    grind
  · rw [hN]; exact pt_cost kc
  · have h := du_right G (d2 n kc)
    rw [d2_right] at h
    rw [sm_congr (g := fun l => (((sgn Bv l : Int) : Rat) * du m n (d2 n kc) S l) * Bv l) (fun l hl => by dsimp only; rw [du_2]), h]
    grind
/-- The second phase is unbounded. -/
theorem op1_of (hV : VS m m N) (hN : N 0 = n) (G : Good m n (t0 m n F Bv) S.T S.b) (hF : Feas m n S) (hZ : Zer m n S) (hNo : Non m n m S) {j : Nat} (hj : In m n (d2 n kc) S j) (hno : ∀ i, i < m → ¬ 0 < S.T i j) :
    OP1 m m N F Bv kc n (pt m n S) 0 n (ry m S j) 0 := by
  refine ⟨pt_of hV hN G hF hZ, by rw [hN]; exact ry_sv G hNo hj.1 hno, ?_, rfl, rfl⟩
  rw [hN, ry_cost G kc hj.1]
  exact hj.2.1
end
end Go.Proofs.YtpeglenapmkdfaaGreat

/- feasible, Solve. -/
namespace Go.Proofs.YtpeglenapmkdfaaGreat
open Go.RowKit
attribute [local go_sem ↓] Go.wp_at_zero Go.wp_at_succ

theorem Tab.cong {w : World} {l : Lay} {m n : Nat} {S : St} {k k' : Nat → Rat} {sg : Nat → Int} (h : Tab w l m n S k sg) (hk : ∀ c, c ≤ n + m → k' c = k c) : Tab w l m n S k' sg :=
  ⟨h.fix, h.rows, h.cost.congr (fun i hi => hk i (by omega)), h.bas, h.dis⟩

/-- The sizes of all tableaux, told. -/
def Szk (K1 K2 m n : Nat) (T0 : Nat → Nat → Rat) (d : Nat → Rat) : Prop := ∀ S : St, Good m n T0 S.T S.b → (∀ r, r < m → ∀ c, c ≤ n + m → Rsz K1 (S.T r c)) ∧ ∀ r, r ≤ m → ∀ c, c ≤ n + m → Rsz K2 (prc d S r c)
theorem Szk.szs {K1 K2 m n : Nat} {T0 : Nat → Nat → Rat} {d : Nat → Rat} (h : Szk K1 K2 m n T0 d) (h1 : K1 ≤ 3000) (h2 : K2 ≤ 9000) : Szs m n T0 d := fun S hG => ⟨fun r hr c hc => ((h S hG).1 r hr c hc).mono h1, fun r hr c hc => ((h S hG).2 r hr c hc).mono h2⟩
theorem Szk.rho {K1 K2 m n : Nat} {T0 : Nat → Nat → Rat} {d : Nat → Rat} (h : Szk K1 K2 m n T0 d) {S : St} (hG : Good m n T0 S.T S.b) : ∀ c, c ≤ n + m → Rsz K2 (rho m d S.T S.b c) := fun c hc => (h S hG).2 m (Nat.le_refl m) c hc

/-- What the first phase leaves. -/
structure Ph1 (w w' : World) (m n : Nat) (F : Nat → Nat → Rat) (Bv : Nat → Rat) (l : Lay) (S : St) (ok : Bool) : Prop where
  good : Good m n (t0 m n F Bv) S.T S.b
  feas : Feas m n S
  ok : ok = true ↔ rho m (d1 m n) S.T S.b (n + m) = 0
  opt : ∀ j, j < n → ¬ rho m (d1 m n) S.T S.b j < 0
  tab : Tab w' l m n S (rho m (d1 m n) S.T S.b) (sgn Bv)
  low : ∀ b, l.X m b → w.heap.size ≤ b

set_option maxRecDepth 100000 in
set_option maxHeartbeats 8000000 in
theorem feasible_any (w : World) (m n k : Nat) (N : Nat → Nat) (F : Nat → Nat → Rat) (Bv : Nat → Rat) (va vb : Value) (hA : Mat k w (fun _ => False) va m N F) (hB : Nums k w (fun _ => False) vb m Bv) (hN : ∀ i, i < m → N i = n) (hm1 : 1 ≤ m) (hn1 : 1 ≤ n) (hm : m ≤ 80) (hn : n ≤ 80) (hk : k ≤ 1000) (hk1 : 1 ≤ k)
    (hs : Szs m n (t0 m n F Bv) (d1 m n)) :
    Calls Tryz.prog 47 #[.agg #[va, vb]] w fun e w' => ∃ (l : Lay) (S : St) (ok : Bool), e = .returned (.tuple #[.pointer (some ⟨l.p, 0, none⟩), .bool ok]) ∧ Hid (Ph1 w w' m n F Bv l S ok) ∧ Below w.heap.size w w' := by
  have HA := Lib.hid hA
  have HB := Lib.hid hB
  have HN := Lib.hid hN
  have HS := Lib.hid hs
  obtain ⟨A, cA, rfl, hA, la1, la2⟩ := hA.op
  obtain ⟨C, cB, rfl, hB, lb1, lb2⟩ := hB.op
  have L := made1 w #[.slice A m cA, .slice C m cB] 25
  clear hA hB hN hs
  go_enter Tryz.func47, Tryz.ntmps47
  go_wp2_with fail
  refine (begin_any _ m n k N F Bv _ _ (HA.out.keep kp) (HB.out.keep kp) HN.out hm1 hn1 hm hn hk hk1).mono ?_
  rintro e w1 ⟨l, rfl, hT, hb1, hlow⟩
  have hw0 : (w.alloc (.cells #[.slice A m cA, .slice C m cB] 25)).heap.size = w.heap.size + 1 := World.size_alloc _ _
  have hb1' : Below w.heap.size w w1 := bel
  have HT : Hid (Tab w1 l m n ⟨t0 m n F Bv, fun i => n + i⟩ (rho m (d1 m n) (t0 m n F Bv) (fun i => n + i)) (sgn Bv)) := hT.cong (fun c hc => c0_rho hc)
  have HLOW : Hid (∀ b, l.X m b → w.heap.size ≤ b) := fun b hb => by have := hlow b hb; omega
  have hG0 := t0_good (m := m) (n := n) (F := F) (Bv := Bv)
  clear hT hlow hw0
  go_wp2_with fail
  refine (minimize_any _ l m n (t0 m n F Bv) (d1 m n) ⟨t0 m n F Bv, fun i => n + i⟩ (sgn Bv) (fun _ => True) HT.out hG0 t0_feas trivial (fun _ _ _ _ _ _ => trivial) hm hn (fun S h => ⟨(HS.out S h).1, fun c hc => (HS.out S h).2 m (Nat.le_refl m) c hc⟩)).mono ?_
  rintro e w2 ⟨S, hG, hF, -, hT, hK, hres⟩
  have hend : Hid (e = .returned (.tuple #[.int .i64 0, .bool true]) ∧ ∀ j, j < n → ¬ rho m (d1 m n) S.T S.b j < 0) := by
    rcases hres.out with h | ⟨j, -, hj, hno⟩
    · exact h
    · obtain ⟨i, hi, hp⟩ := p1_bound hj
      exact absurd hp (hno i hi)
  have he := hend.out.1
  have HO := Lib.hid hend.out.2
  have HT2 := Lib.hid hT
  have HG := Lib.hid hG
  have HF := Lib.hid hF
  subst he
  have hb2 : Below w.heap.size w w2 := hb1'.trans (hK.low hb1'.size (fun b hb hx => by have := HLOW.out b hx; omega))
  obtain ⟨⟨⟨cs, cr, cb, hbox, hcs, hcr, hcb⟩, -, -⟩, -, ⟨rs, KC, hcl, hcv⟩, -, -⟩ := hT
  obtain ⟨R, hR⟩ : ∃ R, n + m = R := ⟨_, rfl⟩
  obtain ⟨M, hM⟩ : ∃ M, n + m + 1 = M := ⟨_, rfl⟩
  rw [hM] at hbox hcl
  have HR := Lib.hid hR
  have r0 : (0 : Int) ≤ (R : Int) := by omega
  have r1 : (R : Int) < (M : Int) := by omega
  obtain ⟨⟨b5, A5, m5, c5, b5', A5', m5', c5'⟩, hq5⟩ : ∃ q, rs[R]? = some q := ⟨_, List.getElem?_eq_getElem (by omega)⟩
  have j5 : RatL 100000 w2 _ _ _ := hcv R _ hq5
  obtain ⟨x0, x1, x2, x3⟩ := KC.cells hq5
  unfold R4.v at j5
  dsimp only at j5 x0 x1 x2 x3
  obtain ⟨sv, hsv⟩ : ∃ s, (rho m (d1 m n) S.T S.b R).num.sign = s := ⟨_, rfl⟩
  have HSV := Lib.hid hsv
  have HSZ : Hid (sv = 0 ↔ rho m (d1 m n) S.T S.b (n + m) = 0) := by show _ ↔ _; rw [← hsv, hR]; exact sign_zero_iff _
  have hlb := hbox.lt
  have hlc := KC.lt
  have HL : Hid (∀ W, Below w2.heap.size w2 W → W.cell? ⟨l.p, 3, none⟩ = some (.slice (some ⟨l.gc, 0, none⟩) M M) ∧ (W.cell? ⟨l.gc, R * 4, none⟩ = some (.bool b5) ∧ W.cell? ⟨l.gc, R * 4 + 1, none⟩ = some (.slice A5 m5 c5)) ∧ W.cell? ⟨l.gc, R * 4 + 2, none⟩ = some (.bool b5') ∧ W.cell? ⟨l.gc, R * 4 + 3, none⟩ = some (.slice A5' m5' c5')) := fun W hW => by
    refine ⟨Loc.cell (Loc.below hbox hW) 3, ⟨?_, ?_⟩, ?_, ?_⟩
    · exact cell_keep (X := fun _ => False) x0 hlc id (.of_below hW)
    · exact cell_keep (X := fun _ => False) x1 hlc id (.of_below hW)
    · exact cell_keep (X := fun _ => False) x2 hlc id (.of_below hW)
    · exact cell_keep (X := fun _ => False) x3 hlc id (.of_below hW)
  clear hR hM hsv x0 x1 x2 x3 hbox hcv KC hcl hq5 hK hG hF hend hres hb1 hb1' HT hG0
  by_cases hs0 : sv = 0
  · subst hs0
    have HPH : Hid (∀ W, Below w2.heap.size w2 W → Hid (Ph1 w W m n F Bv l S true)) := fun W hW => ⟨HG.out, HF.out, ⟨fun _ => HSZ.out.1 rfl, fun _ => rfl⟩, HO.out, HT2.out.on (.of_below hW), HLOW.out⟩
    clear HSZ HO HF
    go_wp2_with fail
    go_region_held3 (fun W => W.cell? ⟨l.p, 3, none⟩ = some (.slice (some ⟨l.gc, 0, none⟩) M M) ∧ (W.cell? ⟨l.gc, R * 4, none⟩ = some (.bool b5) ∧ W.cell? ⟨l.gc, R * 4 + 1, none⟩ = some (.slice A5 m5 c5)) ∧ W.cell? ⟨l.gc, R * 4 + 2, none⟩ = some (.bool b5') ∧ W.cell? ⟨l.gc, R * 4 + 3, none⟩ = some (.slice A5' m5' c5'))
      (exact HL.out _ bel)
      (first
        | (go_at_call 60; refine (tright_any _ l m n (sgn Bv) (HT2.out.on kp).fix hm hn).mono ?_; rintro e u1 ⟨he, hb6⟩; rw [HR.out] at he; subst he; have y6 := hb6.size; (try simp only [World.size_alloc, size_set, size_drew, size_drewN] at y6))
        | (go_at_call 66; refine (sign_rat _ (fun _ => False) 100000 _ _ (RatL.to j5)).mono ?_; rintro e u2 ⟨he, hb7⟩; rw [HSV.out] at he; subst he; have y7 := hb7.size; (try simp only [World.size_alloc, size_set, size_drew, size_drewN] at y7)))
    all_goals
      go_wp2_with fail
      go_ret2
      exact ⟨l, S, true, rfl, HPH.out _ bel, hb2.trans ((bel : Below w2.heap.size w2 _).mono hb2.size)⟩
  · have hs1 : (sv == 0) = false := beq_eq_false_iff_ne.2 hs0
    have HPH : Hid (∀ W, Below w2.heap.size w2 W → Hid (Ph1 w W m n F Bv l S false)) := fun W hW => ⟨HG.out, HF.out, ⟨fun h => (by cases h), fun h => absurd (HSZ.out.2 h) hs0⟩, HO.out, HT2.out.on (.of_below hW), HLOW.out⟩
    clear HSZ HO HF
    go_wp2_with fail
    go_region_held3 (fun W => W.cell? ⟨l.p, 3, none⟩ = some (.slice (some ⟨l.gc, 0, none⟩) M M) ∧ (W.cell? ⟨l.gc, R * 4, none⟩ = some (.bool b5) ∧ W.cell? ⟨l.gc, R * 4 + 1, none⟩ = some (.slice A5 m5 c5)) ∧ W.cell? ⟨l.gc, R * 4 + 2, none⟩ = some (.bool b5') ∧ W.cell? ⟨l.gc, R * 4 + 3, none⟩ = some (.slice A5' m5' c5'))
      (exact HL.out _ bel)
      (first
        | (go_at_call 60; refine (tright_any _ l m n (sgn Bv) (HT2.out.on kp).fix hm hn).mono ?_; rintro e u1 ⟨he, hb6⟩; rw [HR.out] at he; subst he; have y6 := hb6.size; (try simp only [World.size_alloc, size_set, size_drew, size_drewN] at y6))
        | (go_at_call 66; refine (sign_rat _ (fun _ => False) 100000 _ _ (RatL.to j5)).mono ?_; rintro e u2 ⟨he, hb7⟩; rw [HSV.out] at he; subst he; have y7 := hb7.size; (try simp only [World.size_alloc, size_set, size_drew, size_drewN] at y7)))
    all_goals
      go_wp2_with fail
      go_ret2
      exact ⟨l, S, false, rfl, HPH.out _ bel, hb2.trans ((bel : Below w2.heap.size w2 _).mono hb2.size)⟩
end Go.Proofs.YtpeglenapmkdfaaGreat

