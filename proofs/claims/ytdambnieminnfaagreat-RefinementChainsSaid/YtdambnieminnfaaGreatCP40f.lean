/- For every input the law returns true: the law's walk, and the statement out of it. -/
import Derived.Test.YtdambnieminnfaaGreatRows
import Derived.Test.YtdambnieminnfaaGreatX3
import Derived.Test.YtdambnieminnfaaGreatX20
import Derived.Test.YtdambnieminnfaaGreatX27
import Derived.Test.YtdambnieminnfaaGreatX41
import Derived.Test.YtdambnieminnfaaGreatX42
import Derived.Test.YtdambnieminnfaaGreatX44
set_option linter.unusedSimpArgs false
set_option linter.unusedVariables false

/- RefinementChains: the law's walk. -/
namespace Go.Proofs.YtdambnieminnfaaGreat
open Go.RowKit
attribute [local go_sem ↓] Go.wp_at_zero Go.wp_at_succ
attribute [local go_sem] beq_self_eq_true

/-- The product of stochastic matrices is stochastic. -/
theorem sto_prod {m n n2 : Nat} {F F2 : Nat → Nat → Rat} (h : STO m (fun _ => n) F) (h2 : STO n (fun _ => n2) F2) : STO m (fun _ => n2) (prod n F F2) := by
 refine ⟨⟨h.1.1, h2.1.2.1, fun i hi => ⟨rfl, fun j hj => ?_⟩⟩, fun i hi => ?_⟩
 ·have : 0 ≤ prod n F F2 i j := sm_nonneg (fun u hu => Rat.mul_nonneg (by have := (h.1.2.2 i hi).2 u hu; grind) (by have := (h2.1.2.2 u hu).2 j hj; grind))
  grind
 ·unfold prod
  rw [sm_swap, sm_congr (g := fun u => F i u) (fun u hu => by rw [sm_mul, h2.2 u hu]; grind)]
  exact h.2 i hi
theorem STO.lens {m : Nat} {N : Nat → Nat} {F : Nat → Nat → Rat} (h : STO m N F) {n : Nat} (hn : N 0 = n) : STO m (fun _ => n) F := by
 subst hn
 refine ⟨⟨h.1.1, h.1.2.1, fun i hi => ⟨rfl, ?_⟩⟩, fun i hi => ?_⟩
 ·have := (h.1.2.2 i hi).2
  rw [(h.1.2.2 i hi).1] at this
  exact this
 ·have := h.2 i hi
  rw [(h.1.2.2 i hi).1] at this
  exact this
theorem Mat.up {w : World} {X : Nat → Prop} {v : Value} {m k k' : Nat} {N : Nat → Nat} {F : Nat → Nat → Rat} (h : Mat k w X v m N F) (hk : k ≤ k') : Mat k' w X v m N F := by
 obtain ⟨us, A, cap, h1, h2, h3, h4, h5, h6⟩ := h
 exact ⟨us, A, cap, h1, h2, h3, h4, h5, fun i u hu => (h6 i u hu).mono hk⟩
/-- One number stored in a line of fractions. -/
theorem line_put {k z : Nat} {w : World} {g : Nat} {rs : List R4} {f f' : Nat → Rat} (h : Line w g rs) (hv : ValL k w (fun b => b ≤ g) rs f) (hz : z < rs.length) (r : R4) (hr : RatL k w (fun b => b ≤ g) r.v (f' z)) (hf : ∀ j, j ≠ z → j < rs.length → f' j = f j) :
 Line ((((w.setCell ⟨g, z * 4, none⟩ (.bool r.b)).setCell ⟨g, z * 4 + 1, none⟩ (.slice r.A r.m r.c)).setCell ⟨g, z * 4 + 2, none⟩ (.bool r.b')).setCell ⟨g, z * 4 + 3, none⟩ (.slice r.A' r.m' r.c')) g (rs.set z r) ∧
 ValL k ((((w.setCell ⟨g, z * 4, none⟩ (.bool r.b)).setCell ⟨g, z * 4 + 1, none⟩ (.slice r.A r.m r.c)).setCell ⟨g, z * 4 + 2, none⟩ (.bool r.b')).setCell ⟨g, z * 4 + 3, none⟩ (.slice r.A' r.m' r.c')) (fun b => b ≤ g) (rs.set z r) f' := by
 have hg : g ≤ g := Nat.le_refl _
 have k1 : Keep (fun b => b ≤ g) w ((((w.setCell ⟨g, z * 4, none⟩ (.bool r.b)).setCell ⟨g, z * 4 + 1, none⟩ (.slice r.A r.m r.c)).setCell ⟨g, z * 4 + 2, none⟩ (.bool r.b')).setCell ⟨g, z * 4 + 3, none⟩ (.slice r.A' r.m' r.c')) :=
  ((((Keep.refl _ w).set (.inl hg) _).set (.inl hg) _).set (.inl hg) _).set (.inl hg) _
 exact ⟨h.put hz r, (hv.keep k1).set (hr.keep k1) hf⟩

set_option maxRecDepth 100000 in
set_option maxHeartbeats 16000000 in
theorem chains_walk (w : World) (vv vw : Value) (M1 M2 : List (List RF)) (h1 : RMat w vv M1) (h2 : RMat w vw M2) :
 Calls Tryz.prog 11 #[vv, vw] w fun e w' => e = .returned (.bool true) ∧ Below w.heap.size w w' := by
 have H1 := Lib.hid h1
 have H2 := Lib.hid h2
 obtain ⟨A1, c1, rfl, -, -, -⟩ := h1.op
 obtain ⟨A2, c2, rfl, -, -, -⟩ := h2.op
 obtain ⟨m, hr1⟩ : ∃ r, M1.length = r := ⟨_, rfl⟩
 obtain ⟨m2, hr2⟩ : ∃ r, M2.length = r := ⟨_, rfl⟩
 have HR1 := Lib.hid hr1
 have HR2 := Lib.hid hr2
 rw [hr1] at H1
 rw [hr2] at H2
 rw [hr1, hr2]
 clear h1 h2 hr1 hr2
 go_enter Tryz.func11, Tryz.ntmps11
 go_wp2_with fail
 refine (known40_any _).mono ?_
 rintro e w1 ⟨rfl, hb1⟩
 have z1 := hb1.size
 have HB1 : Hid (Below w.heap.size w w1) := bel
 clear hb1
 go_wp2_with fail
 refine (tidy_any _ _ M1 (H1.out.keep (.of_below HB1.out))).mono ?_
 rintro e w2 ⟨⟨bf, rfl, hf⟩, hb2⟩
 have y2 := hb2.size; (try simp only [zs] at y2)
 have HB2 : Hid (Below w.heap.size w w2) := HB1.out.trans (hb2.mono (by omega))
 cases bf
 case false =>
  clear hf
  go_wp2_with fail
  go_ret
  exact ⟨rfl, HB2.out⟩
 have HF1 : Hid (TI M1) := hf.out.1 rfl
 clear hf
 go_wp2_with fail
 refine (tidy_any _ _ M2 (H2.out.keep (.of_below HB2.out))).mono ?_
 rintro e w3 ⟨⟨bf, rfl, hf⟩, hb3⟩
 have y3 := hb3.size; (try simp only [zs] at y3)
 have HB3 : Hid (Below w.heap.size w w3) := HB2.out.trans (hb3.mono (by omega))
 cases bf
 case false =>
  clear hf
  go_wp2_with fail
  go_ret
  exact ⟨rfl, HB3.out⟩
 have HF2 : Hid (TI M2) := hf.out.1 rfl
 clear hf
 obtain ⟨hm1, hm2, hm3⟩ := RMat.tidy (by have := H1.out; rw [← HR1.out] at this; exact this) HF1.out
 obtain ⟨hg1, hg2, hg3⟩ := RMat.tidy (by have := H2.out; rw [← HR2.out] at this; exact this) HF2.out
 rw [HR1.out] at hm1 hm2 hm3
 rw [HR2.out] at hg1 hg2 hg3
 obtain ⟨N, hN⟩ : ∃ N, lens M1 = N := ⟨_, rfl⟩
 obtain ⟨F, hF⟩ : ∃ N, qm M1 = N := ⟨_, rfl⟩
 obtain ⟨N2, hN2⟩ : ∃ N, lens M2 = N := ⟨_, rfl⟩
 obtain ⟨F2, hF2⟩ : ∃ N, qm M2 = N := ⟨_, rfl⟩
 rw [hN, hF] at hm1
 rw [hN] at hm3
 rw [hN2, hF2] at hg1
 rw [hN2] at hg3
 have HM := Lib.hid hm1
 have HG := Lib.hid hg1
 have HNN : Hid (∀ i, i < m → N i ≤ 200) := fun i hi => Nat.le_trans (hm3 i hi) (by decide)
 have HNN2 : Hid (∀ i, i < m2 → N2 i ≤ 200) := fun i hi => Nat.le_trans (hg3 i hi) (by decide)
 have HN6 := Lib.hid hm3
 have HN62 := Lib.hid hg3
 have HFZ := Lib.hid (hm1.rsz (by decide))
 have HFZ2 := Lib.hid (hg1.rsz (by decide))
 clear hm1 hg1 hm3 hg3 hN hF hN2 hF2 H1 H2 HF1 HF2 HR1 HR2
 have hm200 : m ≤ 200 := by omega
 have hm2200 : m2 ≤ 200 := by omega
 go_wp2_with fail
 refine (chain_any _ _ _ m m2 2 N N2 F F2 (HM.out.keep (.of_below HB3.out)) (HG.out.keep (.of_below HB3.out)) hm200 hm2200 HNN.out HNN2.out (by decide) (by decide)).mono ?_
 rintro e w4 ⟨vO, code, mo, rfl, hO, hcode, hb4⟩
 have y4 := hb4.size; (try simp only [zs] at y4)
 have HB4 : Hid (Below w.heap.size w w4) := HB3.out.trans (hb4.mono (by omega))
 clear hb4
 by_cases hst : STO m N F
 case neg =>
  have HST : Hid (¬ STO m N F) := hst
  obtain ⟨rfl, rfl⟩ := hcode.out.1 (fun h => hst h.1)
  clear hst hcode
  obtain ⟨AO, cO, rfl, -, -, -⟩ := hO.out.op
  clear hO
  go_wp2_with fail
  refine (lstochastic_any _ _ m 2 N F (HM.out.keep (.of_below HB4.out)) hm200 HNN.out (by decide) (by decide)).mono ?_
  rintro e w5 ⟨he, hb5⟩
  have y5 := hb5.size; (try simp only [zs] at y5)
  have HB5 : Hid (Below w.heap.size w w5) := HB4.out.trans (hb5.mono (by omega))
  have he := he.eq (b := false) ⟨fun h => (by cases h), fun h => absurd h HST.out⟩
  subst he
  go_wp2_with fail
  go_ret
  exact ⟨rfl, HB5.out⟩
 have HST := Lib.hid hst
 by_cases hst2 : STO m2 N2 F2
 case neg =>
  have HST2 : Hid (¬ STO m2 N2 F2) := hst2
  obtain ⟨rfl, rfl⟩ := hcode.out.1 (fun h => hst2 h.2)
  clear hst hst2 hcode
  obtain ⟨AO, cO, rfl, -, -, -⟩ := hO.out.op
  clear hO
  go_wp2_with fail
  refine (lstochastic_any _ _ m 2 N F (HM.out.keep (.of_below HB4.out)) hm200 HNN.out (by decide) (by decide)).mono ?_
  rintro e w5 ⟨he, hb5⟩
  have y5 := hb5.size; (try simp only [zs] at y5)
  have HB5 : Hid (Below w.heap.size w w5) := HB4.out.trans (hb5.mono (by omega))
  have he := he.eq (b := true) ⟨fun _ => HST.out, fun _ => rfl⟩
  subst he
  go_wp2_with fail
  refine (lstochastic_any _ _ m2 2 N2 F2 (HG.out.keep (.of_below HB5.out)) hm2200 HNN2.out (by decide) (by decide)).mono ?_
  rintro e w6 ⟨he, hb6⟩
  have y6 := hb6.size; (try simp only [zs] at y6)
  have HB6 : Hid (Below w.heap.size w w6) := HB5.out.trans (hb6.mono (by omega))
  have he := he.eq (b := false) ⟨fun h => (by cases h), fun h => absurd h HST2.out⟩
  subst he
  go_wp2_with fail
  go_ret
  exact ⟨rfl, HB6.out⟩
 have HST2 := Lib.hid hst2
 clear hst hst2
 have hm1 : 0 < m := HST.out.1.1
 have hm21 : 0 < m2 := HST2.out.1.1
 obtain ⟨n, hn⟩ : ∃ n, N 0 = n := ⟨_, rfl⟩
 obtain ⟨n2, hn2⟩ : ∃ n, N2 0 = n := ⟨_, rfl⟩
 obtain ⟨a1, D1, d1, rfl, hab1, -, hcell1, -, lc1, -⟩ := Mat.at HM.out hm1
 obtain ⟨a2, D2, d2, rfl, hab2, -, hcell2, -, lc2, -⟩ := Mat.at HG.out hm21
 rw [addr_zero, hn] at hcell1
 rw [addr_zero, hn2] at hcell2
 rw [hn] at lc1
 rw [hn2] at lc2
 have HN := Lib.hid hn
 have HN2 := Lib.hid hn2
 have HN3 : Hid (∀ i, i < m → N i = n) := fun i hi => by rw [← hn]; exact (HST.out.1.2.2 i hi).1
 have HN4 : Hid (∀ i, i < m2 → N2 i = n2) := fun i hi => by rw [← hn2]; exact (HST2.out.1.2.2 i hi).1
 have hn6 : n ≤ 6 := by rw [← hn]; exact HN6.out 0 hm1
 have hn26 : n2 ≤ 6 := by rw [← hn2]; exact HN62.out 0 hm21
 have hn2p : 1 ≤ n2 := by rw [← hn2]; exact HST2.out.1.2.1
 have hnp : 1 ≤ n := by rw [← hn]; exact HST.out.1.2.1
 have i1 : (0 : Int) < (m : Int) := by omega
 have i2 : (0 : Int) < (m2 : Int) := by omega
 have HSS : Hid (∀ W, Below w.heap.size w W → W.cell? a1 = some (.slice D1 n d1) ∧ W.cell? a2 = some (.slice D2 n2 d2)) := fun W hW => ⟨cell_keep (X := fun _ => False) hcell1 hab1 id (.of_below hW), cell_keep (X := fun _ => False) hcell2 hab2 id (.of_below hW)⟩
 rw [hn, hn2] at hO
 rw [hn] at hcode
 clear hn hn2 hcell1 hcell2
 by_cases hne : n = m2
 case neg =>
  have d3 : ((n : Int) == (m2 : Int)) = false := beq_eq_false_iff_ne.2 (by omega)
  have d4 : ((n : Int) != (m2 : Int)) = true := bne_iff_ne.2 (by omega)
  obtain ⟨rfl, rfl⟩ := hcode.out.2.1 ⟨HST.out, HST2.out⟩ hne
  clear hcode
  obtain ⟨AO, cO, rfl, -, -, -⟩ := hO.out.op
  clear hO hne
  go_wp2_with fail
  refine (lstochastic_any _ _ m 2 N F (HM.out.keep (.of_below HB4.out)) hm200 HNN.out (by decide) (by decide)).mono ?_
  rintro e w5 ⟨he, hb5⟩
  have y5 := hb5.size; (try simp only [zs] at y5)
  have HB5 : Hid (Below w.heap.size w w5) := HB4.out.trans (hb5.mono (by omega))
  have he := he.eq (b := true) ⟨fun _ => HST.out, fun _ => rfl⟩
  subst he
  go_wp2_with fail
  refine (lstochastic_any _ _ m2 2 N2 F2 (HG.out.keep (.of_below HB5.out)) hm2200 HNN2.out (by decide) (by decide)).mono ?_
  rintro e w6 ⟨he, hb6⟩
  have y6 := hb6.size; (try simp only [zs] at y6)
  have HB6 : Hid (Below w.heap.size w w6) := HB5.out.trans (hb6.mono (by omega))
  have he := he.eq (b := true) ⟨fun _ => HST2.out, fun _ => rfl⟩
  subst he
  obtain ⟨g1, -⟩ := HSS.out w6 HB6.out
  go_wp2_with fail
  go_ret
  exact ⟨rfl, HB6.out⟩
 subst hne
 have d3 : ((n : Int) == (n : Int)) = true := beq_iff_eq.2 rfl
 have d4 : ((n : Int) != (n : Int)) = false := by simp only [bne, d3]; rfl
 obtain ⟨rfl, hmo⟩ := hcode.out.2.2 ⟨HST.out, HST2.out⟩ rfl
 subst hmo
 clear hcode
 obtain ⟨AO, cO, rfl, -, lo1, lo2⟩ := hO.out.op
 go_wp2_with fail
 refine (lstochastic_any _ _ mo 2 N F (HM.out.keep (.of_below HB4.out)) hm200 HNN.out (by decide) (by decide)).mono ?_
 rintro e w5 ⟨he, hb5⟩
 have y5 := hb5.size; (try simp only [zs] at y5)
 have HB5 : Hid (Below w.heap.size w w5) := HB4.out.trans (hb5.mono (by omega))
 have HB45 := Lib.hid hb5
 have he := he.eq (b := true) ⟨fun _ => HST.out, fun _ => rfl⟩
 subst he
 clear hb5
 go_wp2_with fail
 refine (lstochastic_any _ _ n 2 N2 F2 (HG.out.keep (.of_below HB5.out)) hm2200 HNN2.out (by decide) (by decide)).mono ?_
 rintro e w6 ⟨he, hb6⟩
 have y6 := hb6.size; (try simp only [zs] at y6)
 have HB6 : Hid (Below w.heap.size w w6) := HB5.out.trans (hb6.mono (by omega))
 have HB46 : Hid (Below w4.heap.size w4 w6) := HB45.out.trans (hb6.mono (by omega))
 have he := he.eq (b := true) ⟨fun _ => HST2.out, fun _ => rfl⟩
 subst he
 clear hb6
 have HO6 : Hid (MatV w6 (fun _ => False) (.slice AO mo cO) mo n2 (prod n F F2)) := hO.out.keep (.of_below HB46.out)
 obtain ⟨g1, -⟩ := HSS.out w6 HB6.out
 clear hO HB45 HB46
 go_wp2_with fail
 clear g1
 go_loopw [7, 61] (fun v i wr => ∃ (x : Nat) (us : List Value), x ≤ mo ∧ i = .int .i64 x ∧ us.length = x ∧ OwnL wr w6.heap.size v us ∧ Hid (∀ i u, us[i]? = some u → Nums 1000000 wr (fun b => v.ownBlock = some b) u n2 (prod n F F2 i)) ∧ Below w6.heap.size w6 wr) (fun _ i _ => mo - (intOf i).toNat)
 case atStart => exact ⟨0, [], by omega, rfl, rfl, World.ownsRow_nil _ _ _ _, Lib.hid (fun i u hu => by simp at hu), Below.refl _ _⟩
 case round =>
  obtain ⟨x, us, hx, rfl, hul, hown, hrows, hBx⟩ := hrel
  obtain ⟨wx, rfl⟩ : ∃ wx : World, wx = wr := ⟨_, rfl⟩
  have yx := hBx.size
  have HUL := Lib.hid hul
  have HBX := Lib.hid hBx
  have HOWN := Lib.hid hown
  have HBWX : Hid (Below w.heap.size w wx) := HB6.out.trans (hBx.mono (by omega))
  clear hul hBx hown
  by_cases hlt : x < mo
  ·obtain ⟨a9, D9, d9, ea, hab9, -, hcell9, hnum9, lc9, -⟩ := Mat.at HM.out hlt
   injection ea with ea
   subst ea
   rw [HN3.out x hlt] at hcell9 hnum9 lc9
   have HNUM := Lib.hid hnum9
   have hab9' : (a1.add x).block < w.heap.size := by rw [addr_block]; exact hab9
   obtain ⟨-, g2⟩ := HSS.out wx HBWX.out
   have k0 : (0 : Int) ≤ (x : Int) := by omega
   have k1 : (x : Int) < (mo : Int) := by omega
   clear hnum9
   go_wp2_with (at_make; refine wpList_makeR _ rfl _ _ rfl wx.heap.size n2 rfl rfl rfl rfl (by omega) (Nat.le_refl _) ?_)
   intro w7 hline hg7
   have hB7 : Below wx.heap.size wx w7 := below_none (Below.refl _ _) hg7 (Nat.le_refl _)
   have hl7 := Loc.lt hline
   have HL := Lib.hid hline
   have HB7 := Lib.hid hB7
   clear hline hg7 g2 hB7
   go_wp2_with fail
   go_loopw [71] (fun i wr => ∃ (k : Nat) (rs : List R4), k ≤ n ∧ i = .int .i64 k ∧ Line wr wx.heap.size rs ∧ rs.length = n2 ∧ Hid (ValL 1000000 wr (fun b => b ≤ wx.heap.size) rs (fun z => sm k (fun y => F x y * F2 y z))) ∧ Below wx.heap.size wx wr) (fun i _ => n - (intOf i).toNat)
   case atStart =>
    refine ⟨0, _, by omega, rfl, HL.out, by simp, Lib.hid (fun i r hr => ?_), HB7.out⟩
    have := List.mem_of_getElem? hr
    rw [List.mem_replicate] at this
    rw [this.2]
    exact zR4L _ _ _
   case round =>
    clear HL
    obtain ⟨k, rs, hk, rfl, hline, hrl, hval, hBk⟩ := hrel
    obtain ⟨wk, rfl⟩ : ∃ wk : World, wk = wr := ⟨_, rfl⟩
    have yk := hBk.size
    have ylk := Loc.lt hline
    have HRL := Lib.hid hrl
    have HBK := Lib.hid hBk
    have HL := Lib.hid hline
    clear hrl hBk hline
    by_cases hltk : k < n
    ·obtain ⟨a8, D8, d8, ea, hab8, -, hcell8, hnum8, lc8, -⟩ := Mat.at HG.out hltk
     injection ea with ea
     subst ea
     rw [HN4.out k hltk] at hcell8 hnum8 lc8
     have HNUM8 := Lib.hid hnum8
     have hab8' : (a2.add k).block < w.heap.size := by rw [addr_block]; exact hab8
     have k2 : (0 : Int) ≤ (k : Int) := by omega
     have k3 : (k : Int) < (n : Int) := by omega
     have HSM : Hid (∀ z, z < n2 → ∀ i, i ≤ n → Rsz 1000000 (sm i (fun y => F x y * F2 y z))) := fun z hz i hi => by
      have hi6 : i ≤ 6 := by omega
      exact (sum_rsz (k := 4) (n := n) (fun y hy => ((HFZ.out x hlt y (by rw [HN3.out x hlt]; exact hy)).mul (HFZ2.out y hy z (by rw [HN4.out y hy]; exact hz)))) i hi).mono (by omega)
     clear hnum8
     go_wp2_with fail
     go_loopw [76] (fun i wr => ∃ (z : Nat) (rs : List R4), z ≤ n2 ∧ i = .int .i64 z ∧ Line wr wx.heap.size rs ∧ rs.length = n2 ∧ Hid (ValL 1000000 wr (fun b => b ≤ wx.heap.size) rs (fun z' => sm (if z' < z then k + 1 else k) (fun y => F x y * F2 y z'))) ∧ Below wx.heap.size wx wr) (fun i _ => n2 - (intOf i).toNat)
     case atStart => exact ⟨0, rs, by omega, rfl, HL.out, HRL.out, Lib.hid (hval.out.congr (fun i hi => by (try dsimp only); rw [if_neg (Nat.not_lt_zero i)])), HBK.out⟩
     case round =>
      clear HL HBK HRL hval
      obtain ⟨z, rs, hz, rfl, hline, hrl, hval, hBz⟩ := hrel
      obtain ⟨wz, rfl⟩ : ∃ wz : World, wz = wr := ⟨_, rfl⟩
      have yz := hBz.size
      have ylz := Loc.lt hline
      have HRL := Lib.hid hrl
      have HBZ := Lib.hid hBz
      have HBWZ : Hid (Below w.heap.size w wz) := HBWX.out.trans (hBz.mono (by omega))
      have HL := Lib.hid hline
      clear hBz
      by_cases hltz : z < n2
      ·obtain ⟨r0, hr0⟩ : ∃ r, rs[z]? = some r := ⟨_, List.getElem?_eq_getElem (by omega)⟩
       obtain ⟨b0, A0, m0, c0, b0', A0', m0', c0'⟩ := r0
       obtain ⟨x0, x1, x2, x3⟩ := Line.cells hline hr0
       dsimp only at x0 x1 x2 x3
       have gf := Line.frz hline
       have HR0 : Hid (RatL 1000000 wz (fun b => b ≤ wx.heap.size) (.agg #[.bool b0, .slice A0 m0 c0, .bool b0', .slice A0' m0' c0']) (sm k (fun y => F x y * F2 y z))) := by
        have := hval.out z _ hr0
        dsimp only at this
        rw [if_neg (Nat.lt_irrefl z)] at this
        exact this
       obtain ⟨a7, b7, A7, m7, c7, b7', A7', m7', c7', rfl, hab7, -, t0, t1, t2, t3, r7⟩ := Nums.at HNUM.out hltk
       obtain ⟨a6, b6, A6, m6, c6, b6', A6', m6', c6', rfl, hab6, -, u0, u1, u2, u3, r6⟩ := Nums.at HNUM8.out hltz
       have hb7 : (a7.add (k * 4)).block < w.heap.size := by rw [addr_block]; exact hab7
       have hb6 : (a6.add (z * 4)).block < w.heap.size := by rw [addr_block]; exact hab6
       have HLS : Hid (∀ W, Below wz.heap.size wz W → ((W.cell? ⟨wx.heap.size, z * 4, none⟩ = some (.bool b0) ∧ W.cell? ⟨wx.heap.size, z * 4 + 1, none⟩ = some (.slice A0 m0 c0)) ∧ W.cell? ⟨wx.heap.size, z * 4 + 2, none⟩ = some (.bool b0') ∧ W.cell? ⟨wx.heap.size, z * 4 + 3, none⟩ = some (.slice A0' m0' c0')) ∧ (W.cell? (a1.add x) = some (.slice (some a7) n d9) ∧ W.cell? (a2.add k) = some (.slice (some a6) n2 d8)) ∧ ((W.cell? (a7.add (k * 4)) = some (.bool b7) ∧ W.cell? ⟨(a7.add (k * 4)).block, (a7.add (k * 4)).off + 1, none⟩ = some (.slice A7 m7 c7)) ∧ W.cell? ⟨(a7.add (k * 4)).block, (a7.add (k * 4)).off + 2, none⟩ = some (.bool b7') ∧ W.cell? ⟨(a7.add (k * 4)).block, (a7.add (k * 4)).off + 3, none⟩ = some (.slice A7' m7' c7')) ∧ (W.cell? (a6.add (z * 4)) = some (.bool b6) ∧ W.cell? ⟨(a6.add (z * 4)).block, (a6.add (z * 4)).off + 1, none⟩ = some (.slice A6 m6 c6)) ∧ W.cell? ⟨(a6.add (z * 4)).block, (a6.add (z * 4)).off + 2, none⟩ = some (.bool b6') ∧ W.cell? ⟨(a6.add (z * 4)).block, (a6.add (z * 4)).off + 3, none⟩ = some (.slice A6' m6' c6')) := fun W hW => by
        have hK : Keep (fun _ => False) w W := .of_below (HBWZ.out.trans (hW.mono (by omega)))
        have hKz : Keep (fun _ => False) wz W := .of_below hW
        exact ⟨⟨⟨cell_keep x0 ylz id hKz, cell_keep x1 ylz id hKz⟩, cell_keep x2 ylz id hKz, cell_keep x3 ylz id hKz⟩, ⟨cell_keep hcell9 hab9' id hK, cell_keep hcell8 hab8' id hK⟩, ⟨⟨cell_keep t0 hb7 id hK, cell_keep t1 hb7 id hK⟩, cell_keep t2 hb7 id hK, cell_keep t3 hb7 id hK⟩, ⟨cell_keep u0 hb6 id hK, cell_keep u1 hb6 id hK⟩, cell_keep u2 hb6 id hK, cell_keep u3 hb6 id hK⟩
       have HR7 := Lib.hid r7
       have HR6 := Lib.hid r6
       have HFX : Hid (Rsz 2 (F x k) ∧ Rsz 2 (F2 k z)) := ⟨HFZ.out x hlt k (by rw [HN3.out x hlt]; exact hltk), HFZ2.out k hltk z (by rw [HN4.out k hltk]; exact hltz)⟩
       have HE : Hid (sm (k + 1) (fun y => F x y * F2 y z) = sm k (fun y => F x y * F2 y z) + F x k * F2 k z) := sm_succ _ _
       have HS1 := Lib.hid (HSM.out z hltz (k + 1) hltk)
       have k4 : (0 : Int) ≤ (z : Int) := by omega
       have k5 : (z : Int) < (n2 : Int) := by omega
       have HR0' := Lib.hid hr0
       clear x0 x1 x2 x3 t0 t1 t2 t3 u0 u1 u2 u3 r7 r6 hline hr0 gf
       go_wp2_with fail
       refine wp_region_noPanic ?_
       refine wp_region_heldK (k := 23) (S := (fun W => ((W.cell? ⟨wx.heap.size, z * 4, none⟩ = some (.bool b0) ∧ W.cell? ⟨wx.heap.size, z * 4 + 1, none⟩ = some (.slice A0 m0 c0)) ∧ W.cell? ⟨wx.heap.size, z * 4 + 2, none⟩ = some (.bool b0') ∧ W.cell? ⟨wx.heap.size, z * 4 + 3, none⟩ = some (.slice A0' m0' c0')) ∧ (W.cell? (a1.add x) = some (.slice (some a7) n d9) ∧ W.cell? (a2.add k) = some (.slice (some a6) n2 d8)) ∧ ((W.cell? (a7.add (k * 4)) = some (.bool b7) ∧ W.cell? ⟨(a7.add (k * 4)).block, (a7.add (k * 4)).off + 1, none⟩ = some (.slice A7 m7 c7)) ∧ W.cell? ⟨(a7.add (k * 4)).block, (a7.add (k * 4)).off + 2, none⟩ = some (.bool b7') ∧ W.cell? ⟨(a7.add (k * 4)).block, (a7.add (k * 4)).off + 3, none⟩ = some (.slice A7' m7' c7')) ∧ (W.cell? (a6.add (z * 4)) = some (.bool b6) ∧ W.cell? ⟨(a6.add (z * 4)).block, (a6.add (z * 4)).off + 1, none⟩ = some (.slice A6 m6 c6)) ∧ W.cell? ⟨(a6.add (z * 4)).block, (a6.add (z * 4)).off + 2, none⟩ = some (.bool b6') ∧ W.cell? ⟨(a6.add (z * 4)).block, (a6.add (z * 4)).off + 3, none⟩ = some (.slice A6' m6' c6'))) (by kernel_rfl) ?_ (fun hHeld => ?_)
       ·exact HLS.out _ bel
       refine puK 0 ?_
       (try simp only [Act.put, ly])
       refine puK 1 ?_
       (try simp only [Act.put, ly])
       refine puK 2 ?_
       (try simp only [Act.put, ly])
       refine puK 3 ?_
       (try simp only [Act.put, ly])
       refine puK 4 ?_
       (try simp only [Act.put, ly])
       refine tkK 5 ?_
       (try simp only [Act.put, ly])
       refine puK 6 ?_
       (try simp only [Act.put, ly])
       refine puK 7 ?_
       (try simp only [Act.put, ly])
       refine puK 8 ?_
       (try simp only [Act.put, ly])
       refine tkK 9 ?_
       (try simp only [Act.put, ly])
       refine puK 10 ?_
       (try simp only [Act.put, ly])
       refine puK 11 ?_
       (try simp only [Act.put, ly])
       refine tkK 12 ?_
       (try simp only [Act.put, ly])
       refine puK 13 ?_
       (try simp only [Act.put, ly])
       refine puK 14 ?_
       (try simp only [Act.put, ly])
       refine puK 15 ?_
       (try simp only [Act.put, ly])
       refine tkK 16 ?_
       (try simp only [Act.put, ly])
       refine puK 17 ?_
       (try simp only [Act.put, ly])
       refine puK 18 ?_
       (try simp only [Act.put, ly])
       refine tkK 19 ?_
       (try simp only [Act.put, ly])
       refine wpAnyK_ready (rs := [20]) (by kernel_rfl) (by simp) ?_
       refine AllReadyK.cons rfl (fun KK hKK => ?_) AllReadyK.nil
       go_simp
       refine (rmul_rat _ (fun _ => False) _ _ (F x k) (F2 k z) ((HR7.out.keep (.of_below (HBWZ.out.trans (bel : Below w.heap.size wz _)))).mono (by omega)) ((HR6.out.keep (.of_below (HBWZ.out.trans (bel : Below w.heap.size wz _)))).mono (by omega))).mono ?_
       rintro e u1 ⟨v1, rfl, j1, hb1⟩
       obtain ⟨b12, A12, m12, c12, b12', A12', m12', c12', rfl, j1, -, -⟩ := j1.op
       have y11 := hb1.size; (try simp only [zs] at y11)
       have hbz1 : Below wz.heap.size wz u1 := bel
       (try go_wp2_with fail)
       refine hKK.out _ _ ?_ (fun hHeld => ?_)
       ·(try dsimp only)
        exact HLS.out _ hbz1
       clear hKK KK
       (try simp only [Act.put, ly])
       refine wpAnyK_ready (rs := [21]) (by kernel_rfl) (by simp) ?_
       refine AllReadyK.cons rfl (fun KK hKK => ?_) AllReadyK.nil
       go_simp
       refine (radd_rat _ (fun _ => False) _ _ (sm k (fun y => F x y * F2 y z)) (F x k * F2 k z) (RatL.weak (HR0.out.keep (.of_below (hbz1.trans (bel : Below wz.heap.size u1 _)))) (fun _ _ h => h.elim)) (RatL.to ((j1.len (HFX.out.1.mul HFX.out.2)).mono (by omega)))).mono ?_
       rintro e u2 ⟨v2, rfl, j2, hb2⟩
       rw [← HE.out] at j2
       obtain ⟨b13, A13, m13, c13, b13', A13', m13', c13', rfl, j2, -, -⟩ := j2.op
       have y12 := hb2.size; (try simp only [zs] at y12)
       have hbz2 : Below wz.heap.size wz u2 := bel
       have hl2 : Line u2 wx.heap.size rs := Loc.below HL.out hbz2
       obtain ⟨g0, g1, g2, g3⟩ := Line.cells hl2 HR0'.out
       have gf := Line.frz hl2
       have gl := Loc.lt hl2
       have HPUT := Lib.hid (line_put hl2 ((hval.out.keep (.of_below hbz2)) : ValL 1000000 u2 _ rs _) (z := z) (by omega) ⟨b13, A13, m13, c13, b13', A13', m13', c13'⟩ (f' := fun z' => sm (if z' < z + 1 then k + 1 else k) (fun y => F x y * F2 y z')) (by
        (try dsimp only)
        rw [if_pos (Nat.lt_succ_self z)]
        exact RatL.weak (j2.len HS1.out) (fun b _ hb => by show b < _; (try simp only [size_drew]); omega)) (fun j hj _ => by
        by_cases h : j < z
        ·rw [if_pos h, if_pos (by omega)]
        ·rw [if_neg h, if_neg (by omega)]))
       have HBF : Hid (Below wx.heap.size wx ((((u2.setCell ⟨wx.heap.size, z * 4, none⟩ (.bool b13)).setCell ⟨wx.heap.size, z * 4 + 1, none⟩ (.slice A13 m13 c13)).setCell ⟨wx.heap.size, z * 4 + 2, none⟩ (.bool b13')).setCell ⟨wx.heap.size, z * 4 + 3, none⟩ (.slice A13' m13' c13'))) := ((((HBZ.out.trans (hbz2.mono yz)).setCell (Nat.le_refl _) _).setCell (Nat.le_refl _) _).setCell (Nat.le_refl _) _).setCell (Nat.le_refl _) _
       (try go_wp2_with fail)
       refine hKK.out _ _ ?_ (fun hHeld => ?_)
       ·(try dsimp only)
        exact HLS.out _ hbz2
       clear hKK KK
       (try simp only [Act.put, ly])
       refine puK 22 ?_
       (try simp only [Act.put, ly])
       refine wpAnyK_ready (rs := [23]) (by kernel_rfl) (by simp) ?_
       refine AllReadyK.last (by kernel_rfl) rfl (fun KK hKK => ?_) AllReadyK.nil
       go_simp
       refine hKK.out _ _ ?_
       clear hKK KK
       (try simp only [Act.put, ly])
       refine wpAnyK_done (by kernel_rfl) ?_ _
       refine NoPanic.normal ?_
       clear g0 g1 g2 g3 gf gl
       go_wp2_with fail
       go_roundw
       case rel => exact ⟨z + 1, rs.set z ⟨b13, A13, m13, c13, b13', A13', m13', c13'⟩, by omega, by go_num, HPUT.out.1, by simp [HRL.out], Lib.hid HPUT.out.2, HBF.out⟩
       case measure => simp only [intOf]; omega
      ·obtain rfl : z = n2 := by omega
       go_wp2_with fail
       go_roundw
       case rel => exact ⟨k + 1, rs, by omega, by go_num, HL.out, HRL.out, Lib.hid (hval.out.congr (fun i hi => by (try dsimp only); rw [if_pos (by omega)])), HBZ.out⟩
       case measure => simp only [intOf]; omega
    ·obtain rfl : k = n := by omega
     have HROW : Hid (Nums 1000000 wk (fun b => u7.ownBlock = some b) (.slice (some ⟨wx.heap.size, 0, none⟩) n2 n2) n2 (prod k F F2 x)) :=
      HL.out.nums hval.out HRL.out (fun b hb h => Nat.le_of_lt (HOWN.out.lt b h).2) (fun h => Nat.lt_irrefl _ (HOWN.out.lt _ h).2) (by unfold maxLen; omega)
     have hownA : OwnL (wk.alloc (.cells #[.slice (some ⟨wx.heap.size, 0, none⟩) n2 n2] 55)) w6.heap.size u7 us := (OwnL.below HOWN.out HBK.out).below (below1 _ _)
     have hul200 : us.length ≤ 200 := by rw [HUL.out]; omega
     have yk2 := HBK.out.size
     go_wp2_with (at_builtin; refine wpList_pushL _ rfl _ _ rfl w6.heap.size _ us rfl hownA ⟨wk.heap.size, 0, none⟩ 1 1 (us.length + 1) [.slice (some ⟨wx.heap.size, 0, none⟩) n2 n2] rfl rfl rfl (fun j u hu => World.news_of_block (made1 wk #[.slice (some ⟨wx.heap.size, 0, none⟩) n2 n2] 55) j u (by simpa using hu)) (fun u hu => ⟨_, _, _, List.mem_singleton.1 hu⟩) (by decide) (by omega) (by simp only [World.size_alloc]; omega) ?_)
     intro gA capA w8 hoa8 hg8 ho8 hl8
     (try simp only [World.size_alloc] at ho8)
     have y8 := hg8.size
     (try simp only [World.size_alloc] at y8)
     have hb8 : Below w6.heap.size w6 w8 := below_own ((HBX.out.trans (HBK.out.mono yx)).trans ((below1 wk _).mono (by omega))) hownA hg8 (Nat.le_refl _) (by simp only [World.size_alloc]; omega)
     have HROWS : Hid (∀ i u, (us ++ [.slice (some ⟨wx.heap.size, 0, none⟩) n2 n2])[i]? = some u → Nums 1000000 w8 (fun b => (Value.slice (some ⟨gA, 0, none⟩) (us.length + 1) capA).ownBlock = some b) u n2 (prod k F F2 i)) := fun i u hu => by
      have hk8 : Keep (fun b => u7.ownBlock = some b) wk w8 := ((Keep.refl _ wk).alloc (.cells #[.slice (some ⟨wx.heap.size, 0, none⟩) n2 n2] 55)).grown hg8 (fun g hg => .inl hg)
      have hY8 : ∀ b, b < wk.heap.size → (Value.slice (some ⟨gA, 0, none⟩) (us.length + 1) capA).ownBlock = some b → u7.ownBlock = some b := fun b hb hh => by
       have hh' : some gA = some b := hh
       rcases ho8 with ho | ho
       ·rw [ho]; exact hh'
       ·injection hh' with hh'
        omega
      by_cases hi : i < us.length
      ·rw [List.getElem?_append_left hi] at hu
       exact ((hrows.out i u hu).keep (.of_below HBK.out)).turn hk8 hY8
      ·have hlt2 := (List.getElem?_eq_some_iff.1 hu).1
       simp at hlt2
       obtain rfl : i = us.length := by omega
       simp at hu
       subst hu
       rw [HUL.out]
       exact HROW.out.turn hk8 hY8
     clear hownA hg8
     go_wp2_with fail
     go_roundw
     case rel => exact ⟨x + 1, _, by omega, by go_num, by simp [HUL.out], hoa8, HROWS, hb8⟩
     case measure => simp only [intOf]; omega
  ·obtain rfl : x = mo := by omega
   obtain ⟨g, cap, rfl⟩ : ∃ g c, u7 = .slice (some ⟨g, 0, none⟩) x c := by
    rcases HOWN.out.2 with ⟨-, hn⟩ | ⟨g, cap, cur, rfl, -⟩
    ·rw [HUL.out] at hn; omega
    ·rw [HUL.out]; exact ⟨_, _, rfl⟩
   have HWANT := Lib.hid (OwnL.mat (N := fun _ => n2) HOWN.out HUL.out hm1 (fun i u hu => (hrows.out i u hu).weak (fun _ _ h => h.elim)))
   have HPZ : Hid (∀ i, i < x → ∀ j, j < n2 → Rsz 1990 (prod n F F2 i j)) := fun i hi j hj => prod_rsz (m := x) (p := n2) (fun i hi j hj => (HFZ.out i hi j (by rw [HN3.out i hi]; exact hj)).mono (by omega)) (fun i hi j hj => (HFZ2.out i hi j (by rw [HN4.out i hi]; exact hj)).mono (by omega)) (by omega) i hi j hj
   have HOX : Hid (MatV wx (fun _ => False) (.slice AO x cO) x n2 (prod n F F2)) := HO6.out.keep (.of_below HBX.out)
   clear hrows HO6
   go_wp2_with fail
   go_loopw [111] (fun i wr => ∃ (c : Nat), c ≤ x ∧ i = .int .i64 c ∧ Below wx.heap.size wx wr) (fun i _ => x - (intOf i).toNat)
   case atStart => exact ⟨0, by omega, rfl, Below.refl _ _⟩
   case round =>
    obtain ⟨c, hc, rfl, hBc⟩ := hrel
    obtain ⟨wc', rfl⟩ : ∃ wz : World, wz = wr := ⟨_, rfl⟩
    have yc := hBc.size
    have HBC := Lib.hid hBc
    clear hBc
    by_cases hltc : c < x
    ·obtain ⟨ao, Do, dd, rfl, habo, -, hcello, hnumo, -, -⟩ := MatV.at (MatV.keep HOX.out (.of_below HBC.out)) hltc
     have HNO := Lib.hid hnumo
     have k2 : (0 : Int) ≤ (c : Int) := by omega
     have k3 : (c : Int) < (x : Int) := by omega
     clear hnumo
     go_wp2_with fail
     refine (containsV_none _ 36 _ n2 (prod n F F2 c) HNO.out (fun i hi => (HPZ.out c hltc i hi).mono (by omega)) (enters Tryz.func36 (by kernel_rfl) (by kernel_rfl)) (show DeniesV 36 from fun W v q h hk => chains1_any W v q h hk)).mono ?_
     rintro e w8 ⟨rfl, hb8⟩
     have y8 := hb8.size; (try simp only [zs] at y8)
     go_wp2_with fail
     go_roundw
     case rel => exact ⟨c + 1, by omega, by go_num, HBC.out.trans (hb8.mono (by omega))⟩
     case measure => simp only [intOf]; omega
    ·obtain rfl : c = x := by omega
     have HMO : Hid (Mat 1990 wc' (fun _ => False) (.slice AO c cO) c (fun _ => n2) (prod n F F2)) := (HOX.out.keep (.of_below HBC.out)).mat HPZ.out
     have HBW : Hid (Below w.heap.size w wc') := (HBWX.out).trans (HBC.out.mono (by omega))
     go_wp2_with fail
     refine (lequal_any _ _ _ c c (fun _ => n2) (fun _ => n2) (prod n F F2) (prod n F F2) (HMO.out.up (by decide)) (HWANT.out.keep (.of_below HBC.out))).mono ?_
     rintro e w8 ⟨he, hb8⟩
     have he := he.eq (b := true) ⟨fun _ => ⟨rfl, fun _ _ => ⟨rfl, fun _ _ => rfl⟩⟩, fun _ => rfl⟩
     subst he
     have y8 := hb8.size; (try simp only [zs] at y8)
     have HB8 : Hid (Below w.heap.size w w8) := HBW.out.trans (hb8.mono (by omega))
     have HMO8 : Hid (Mat 1990 w8 (fun _ => False) (.slice AO c cO) c (fun _ => n2) (prod n F F2)) := HMO.out.keep (.of_below hb8)
     clear hb8
     go_wp2_with fail
     refine (lstochastic_any _ _ c 1990 (fun _ => n2) (prod n F F2) HMO8.out hm200 (fun _ _ => by omega) (by decide) (by decide)).mono ?_
     rintro e w9 ⟨he, hb9⟩
     have he := he.eq (b := true) ⟨fun _ => sto_prod (HST.out.lens HN.out) (HST2.out.lens HN2.out), fun _ => rfl⟩
     subst he
     have y9 := hb9.size; (try simp only [zs] at y9)
     have HB9 : Hid (Below w.heap.size w w9) := HB8.out.trans (hb9.mono (by omega))
     go_wp2_with fail
     go_ret
     exact ⟨rfl, HB9.out⟩
end Go.Proofs.YtdambnieminnfaaGreat

/- The statement 'RefinementChains' out of its walk. The frame is the guide's own (proof-skeleton), printed by lawgen.py. -/
namespace Go.Proofs.YtdambnieminnfaaGreat.refinementChains
open Go.ChangeShapes Go.WideShapes Go.ChangeAt Go.RowKit Go.Proofs.YtdambnieminnfaaGreat
open Go.ChangeMaps (open_string shut_string)
set_option linter.unusedVariables false

set_option maxRecDepth 100000 in
theorem lifted (os : Os) (started : os.Started) (H : Type) (enc : TypeId × Value → H) :
 ReturnsInHanded {} Tryz.checked os 11 .any (Rows.refinementChainsSpec.pre6 enc Tryz.prog Tryz.f11 Rows.refinementChainsRow.domain false) (Rows.refinementChainsSpec.post enc Tryz.prog Tryz.f11 false true false false) := by
 refine returnsInHanded_of_change (C := Tryz.checked) own started (by kernel_rfl) Tryz.func11
  (ChangeSpec.witness6 (enc := enc) (C := Tryz.checked) false ⟨#[], #[.slice none 0 0, .slice none 0 0], []⟩ 8 (by kernel_rfl) (by kernel_rfl) (by kernel_rfl) (by kernel_rfl)) ?_
 intro W base args ds gs before hval0 hW hcnd _
 have hval : ∀ (j : Nat) t v, Tryz.f11.params[j]? = some t → args[j]? = some v → Value.okWide Tryz.prog W .any base t v := hval0
 have hW' := hW
 obtain ⟨p, q, hA0, hV, rfl, hfz, hnd⟩ := hW
 have hA : DataW.TrodAll enc Tryz.prog W 0 (fun _ => true) true Tryz.f11.params.toList args.toList ds p := hA0
 rw [Tryz.params11] at hA hval
 obtain ⟨v0, vs0, d0, ds0, p0, q0, hargs, rfl, rfl, h0, r0⟩ := trodAll_cons hA
 obtain ⟨v1, vs1, d1, ds1, p1, q1, rfl, rfl, rfl, h1, r1⟩ := trodAll_cons r0
 obtain ⟨rfl, rfl, rfl⟩ := trodAll_nil r1
 obtain rfl : args = #[v0, v1] := by cases args; simp_all
 obtain ⟨rfl, rfl⟩ := trodVars_none hV
 have lt0 : ∀ x ∈ p0, x.block < W.heap.size := by obtain ⟨m, hm⟩ := h0; exact DataW.trod_lt m _ _ _ hm
 have k0 := fun (W' : World) (bel : Below W.heap.size W W') => Below.trod laidOut (by kernel_rfl) (of_decide_eq_true (by kernel_rfl)) h0 bel lt0
 obtain ⟨L0, ha0⟩ := open_RMatV (hval 0 25 v0 rfl rfl) h0
 have lt1 : ∀ x ∈ p1, x.block < W.heap.size := by obtain ⟨m, hm⟩ := h1; exact DataW.trod_lt m _ _ _ hm
 have k1 := fun (W' : World) (bel : Below W.heap.size W W') => Below.trod laidOut (by kernel_rfl) (of_decide_eq_true (by kernel_rfl)) h1 bel lt1
 obtain ⟨L1, ha1⟩ := open_RMatV (hval 1 25 v1 rfl rfl) h1
 refine (chains_walk _ _ _ _ _ ha0 ha1).mono fun e W' ⟨he, bel⟩ => ?_
 subst he
 exact ⟨_, rfl, _, _, _, [], _, [], hW', trodAll_mk1 (shut_bool Tryz.underlying4 _), (trodAll_cons_mk (k0 _ bel) (trodAll_cons_mk (k1 _ bel) trodAll_mk0)), rfl, bel.frame _, fun h => by cases h⟩

theorem over : Rows.refinementChainsRow.holds Tryz.pinned (OpenSpec.ofChange Rows.refinementChainsSpec) :=
 OpenClaim.holds_of_wide 11 Tryz.f11 rfl rfl rfl rfl rfl rfl rfl ⟨rfl, rfl, rfl, rfl, rfl⟩ rfl rfl rfl rfl rfl (by kernel_rfl) Tryz.func11 (by kernel_rfl)
  (of_decide_eq_true (by kernel_rfl)) (by unfold Func.isWrapper; first | (rw [if_pos (by decide +kernel)]; kernel_rfl) | (rw [if_neg (by decide +kernel)]; exact ⟨rfl, rfl⟩))
  (fun os started H enc _ => lifted os started H enc)

/-- The statement: for every input the law returns true; each argument reads behind the call as it read before. -/
theorem proved : Rows.RefinementChainsSaid := over
end Go.Proofs.YtdambnieminnfaaGreat.refinementChains

