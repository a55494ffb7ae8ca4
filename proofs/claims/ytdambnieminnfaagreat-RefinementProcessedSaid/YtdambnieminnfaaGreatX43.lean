/- Contracts of the functions that the statements reach, part 43. -/
import Derived.Test.YtdambnieminnfaaGreatRows
import Derived.Test.YtdambnieminnfaaGreatX41
set_option linter.unusedSimpArgs false
set_option linter.unusedVariables false

/- refinement.Chain. -/
namespace Go.Proofs.YtdambnieminnfaaGreat
open Go.RowKit
attribute [local go_sem ↓] Go.wp_at_zero Go.wp_at_succ

/-- A list of canonical fractions that is read. -/
def NumsV (w : World) (X : Nat → Prop) (v : Value) (n : Nat) (f : Nat → Rat) : Prop :=
 ∃ (rs : List R4) (A : Option Addr) (cap : Nat), rs.length = n ∧ v = .slice A n cap ∧ n ≤ cap ∧ cap ≤ maxLen ∧
   (n ≠ 0 → ∃ a : Addr, A = some a ∧ a.block < w.heap.size ∧ ¬ X a.block ∧ ∀ i r, rs[i]? = some r →
    w.cell? (a.add (i * 4)) = some (.bool r.b) ∧ w.cell? ((a.add (i * 4)).add 1) = some (.slice r.A r.m r.c) ∧ w.cell? ((a.add (i * 4)).add 2) = some (.bool r.b') ∧ w.cell? ((a.add (i * 4)).add 3) = some (.slice r.A' r.m' r.c')) ∧ ValV w X rs f
/-- A list of such lists. -/
def MatV (w : World) (X : Nat → Prop) (v : Value) (m n : Nat) (F : Nat → Nat → Rat) : Prop :=
 ∃ (us : List Value) (A : Option Addr) (cap : Nat), us.length = m ∧ v = .slice A m cap ∧ m ≤ cap ∧ cap ≤ maxLen ∧
   (m ≠ 0 → ∃ a : Addr, A = some a ∧ a.block < w.heap.size ∧ ¬ X a.block ∧ ∀ i u, us[i]? = some u → w.cell? (a.add i) = some u) ∧ ∀ i u, us[i]? = some u → NumsV w X u n (F i)
section
variable {w w' W W2 : World} {k n m : Nat} {X Y : Nat → Prop} {v : Value} {f f' : Nat → Rat} {F F' : Nat → Nat → Rat} {rs : List R4} {q : Rat}
theorem NumsV.nums (h : NumsV w X v n f) (hs : ∀ i, i < n → Rsz k (f i)) : Nums k w X v n f := by
 obtain ⟨rs, A, cap, h1, h2, h3, h4, h5, h6⟩ := h
 exact ⟨rs, A, cap, h1, h2, h3, h4, h5, h6.len (fun i hi => hs i (by omega))⟩
theorem NumsV.keep (h : NumsV w X v n f) (hk : Keep X w w') : NumsV w' X v n f := by
 obtain ⟨rs, A, cap, h1, h2, h3, h4, h5, h6⟩ := h
 refine ⟨rs, A, cap, h1, h2, h3, h4, fun hn => ?_, h6.keep hk⟩
 obtain ⟨a, ea, hb, hX, hc⟩ := h5 hn
 refine ⟨a, ea, Nat.lt_of_lt_of_le hb hk.size, hX, fun i r hr => ?_⟩
 obtain ⟨c0, c1, c2, c3⟩ := hc i r hr
 have key : ∀ (p : Addr) (u : Value), p.block = a.block → w.cell? p = some u → w'.cell? p = some u := fun p u hp hu => cell_keep hu (by rw [hp]; exact hb) (by rw [hp]; exact hX) hk
 refine ⟨key _ _ ?_ c0, key _ _ ?_ c1, key _ _ ?_ c2, key _ _ ?_ c3⟩ <;> simp only [add_block]
theorem NumsV.weak (h : NumsV w X v n f) (hY : ∀ b, b < w.heap.size → Y b → X b) : NumsV w Y v n f := by
 obtain ⟨rs, A, cap, h1, h2, h3, h4, h5, h6⟩ := h
 refine ⟨rs, A, cap, h1, h2, h3, h4, fun hn => ?_, h6.weak hY⟩
 obtain ⟨a, ea, hb, hX, hc⟩ := h5 hn
 exact ⟨a, ea, hb, fun hy => hX (hY _ hb hy), hc⟩
theorem NumsV.congr (h : NumsV w X v n f) (hf : ∀ i, i < n → f' i = f i) : NumsV w X v n f' := by
 obtain ⟨rs, A, cap, h1, h2, h3, h4, h5, h6⟩ := h
 exact ⟨rs, A, cap, h1, h2, h3, h4, h5, h6.congr (by rw [h1]; exact hf)⟩
theorem NumsV.turn (h : NumsV W X v n f) (hk : Keep X W W2) (hY : ∀ b, b < W.heap.size → Y b → X b) : NumsV W2 Y v n f :=
 ((h.weak (Y := fun b => X b ∨ Y b) (fun b hb h => h.elim id (hY b hb))).keep hk.both).weak (fun _ _ h => .inr h)
theorem ValV.turn (h : ValV W X rs f) (hk : Keep X W W2) (hY : ∀ b, b < W.heap.size → Y b → X b) : ValV W2 Y rs f :=
 ((h.weak (Y := fun b => X b ∨ Y b) (fun b hb h => h.elim id (hY b hb))).keep hk.both).weak (fun _ _ h => .inr h)
theorem OwnR.numsV {base : Nat} (h : OwnR w base v rs) (hv : ValV w X rs f) (hY : ∀ b, b < w.heap.size → Y b → X b) (hg : ∀ g, v.ownBlock = some g → ¬ Y g) : NumsV w Y v rs.length f := by
 have hl := h.1
 rcases h.2 with ⟨rfl, hn⟩ | ⟨g', cap', cur, rfl, _, hg', h1, h2, hsz, htake⟩
 ·have : rs = [] := List.eq_nil_of_length_eq_zero hn
  subst this
  exact ⟨[], none, 0, rfl, rfl, Nat.le_refl _, Nat.zero_le _, fun h => absurd rfl h, fun i r h => by simp at h⟩
 ·refine ⟨rs, _, _, rfl, rfl, h1, h2, fun _ => ⟨_, rfl, (Array.getElem?_eq_some_iff.1 hg').1, hg _ rfl, fun i r hr => ?_⟩, hv.weak hY⟩
  obtain ⟨c0, c1, c2, c3⟩ := flat_get rs i r hr
  have hi := (List.getElem?_eq_some_iff.1 hr).1
  have hfl := flat_len rs
  have e : ∀ i, (⟨g', 0, none⟩ : Addr).add i = ⟨g', i, none⟩ := fun i => by simp [Addr.add]; intro h; omega
  have e2 : ∀ i j, (⟨g', i, none⟩ : Addr).add j = ⟨g', i + j, none⟩ := fun i j => by simp [Addr.add]
  rw [e, e2, e2, e2]
  refine ⟨?_, ?_, ?_, ?_⟩
  ·rw [World.ownsRow.cellAt h _ (by omega)]; exact c0
  ·rw [World.ownsRow.cellAt h _ (by omega)]; exact c1
  ·rw [World.ownsRow.cellAt h _ (by omega)]; exact c2
  ·rw [World.ownsRow.cellAt h _ (by omega)]; exact c3
theorem MatV.mat (h : MatV w X v m n F) (hs : ∀ i, i < m → ∀ j, j < n → Rsz k (F i j)) : Mat k w X v m (fun _ => n) F := by
 obtain ⟨us, A, cap, h1, h2, h3, h4, h5, h6⟩ := h
 exact ⟨us, A, cap, h1, h2, h3, h4, h5, fun i u hu => (h6 i u hu).nums (hs i (by rw [← h1]; exact (List.getElem?_eq_some_iff.1 hu).1))⟩
theorem MatV.keep (h : MatV w X v m n F) (hk : Keep X w w') : MatV w' X v m n F := by
 obtain ⟨us, A, cap, h1, h2, h3, h4, h5, h6⟩ := h
 refine ⟨us, A, cap, h1, h2, h3, h4, fun hn => ?_, fun i u hu => (h6 i u hu).keep hk⟩
 obtain ⟨a, ea, hb, hX, hc⟩ := h5 hn
 exact ⟨a, ea, Nat.lt_of_lt_of_le hb hk.size, hX, fun i u hu => cell_keep (hc i u hu) (by rw [add_block]; exact hb) (by rw [add_block]; exact hX) hk⟩
theorem OwnL.matV {base g cap M : Nat} {us : List Value} (h : OwnL w base (.slice (some ⟨g, 0, none⟩) M cap) us) (hM : us.length = M) (hn : 0 < M) (hu : ∀ i u, us[i]? = some u → NumsV w (fun _ => False) u n (F i)) :
 MatV w (fun _ => False) (.slice (some ⟨g, 0, none⟩) M cap) M n F := by
 subst hM
 have hg := h.lt g rfl
 have h1 : us.length ≤ cap ∧ cap ≤ maxLen := by
  rcases h.2 with ⟨h', _⟩ | ⟨g', cap', cur, h', _, _, h1, h2, _⟩
  ·simp at h'
  ·simp only [Value.slice.injEq, Option.some.injEq, Addr.mk.injEq, and_true, true_and] at h'
   obtain ⟨rfl, rfl⟩ := h'
   exact ⟨h1, h2⟩
 refine ⟨us, _, _, rfl, rfl, h1.1, h1.2, fun _ => ⟨_, rfl, hg.2, id, fun i u hu => ?_⟩, hu⟩
 have e : (⟨g, 0, none⟩ : Addr).add i = ⟨g, i, none⟩ := by simp [Addr.add]; intro h; omega
 have hi := (List.getElem?_eq_some_iff.1 hu).1
 rw [e, World.ownsRow.cellAt h i (by omega)]
 exact hu
end
/-- The product of two matrices. -/
def prod (n : Nat) (F F2 : Nat → Nat → Rat) : Nat → Nat → Rat := fun i z => sm n (fun y => F i y * F2 y z)
/-- What Chain returns. -/
def ChRes (m : Nat) (N : Nat → Nat) (F : Nat → Nat → Rat) (m2 : Nat) (N2 : Nat → Nat) (F2 : Nat → Nat → Rat) (w : World) (e : Ending) (w' : World) : Prop :=
 ∃ (vO : Value) (code : Int) (mo : Nat), e = .returned (.tuple #[vO, .int .i64 code]) ∧ Hid (MatV w' (fun _ => False) vO mo (N2 0) (prod (N 0) F F2)) ∧
   Hid ((¬ (STO m N F ∧ STO m2 N2 F2) → code = 1 ∧ mo = 0) ∧ (STO m N F ∧ STO m2 N2 F2 → N 0 ≠ m2 → code = 2 ∧ mo = 0) ∧ (STO m N F ∧ STO m2 N2 F2 → N 0 = m2 → code = 0 ∧ mo = m)) ∧ Below w.heap.size w w'

set_option maxRecDepth 100000 in
set_option maxHeartbeats 16000000 in
theorem chain_any (w : World) (vv vw : Value) (m m2 k : Nat) (N N2 : Nat → Nat) (F F2 : Nat → Nat → Rat) (h : Mat k w (fun _ => False) vv m N F) (h2 : Mat k w (fun _ => False) vw m2 N2 F2)
 (hm : m ≤ 200) (hm2 : m2 ≤ 200) (hN : ∀ i, i < m → N i ≤ 200) (hN2 : ∀ i, i < m2 → N2 i ≤ 200) (hk1 : 1 ≤ k) (hk : k ≤ 2000) :
 Calls Tryz.prog 31 #[vv, vw] w (ChRes m N F m2 N2 F2 w) := by
 have H := Lib.hid h
 have H2 := Lib.hid h2
 have HNN := Lib.hid hN
 have HNN2 := Lib.hid hN2
 have HFZ := Lib.hid (h.rsz hk1)
 have HFZ2 := Lib.hid (h2.rsz hk1)
 obtain ⟨A, cA, rfl, -, l1, l2⟩ := h.op
 obtain ⟨A2, cA2, rfl, -, l3, l4⟩ := h2.op
 have HEMPTY : Hid (∀ (W : World) (n : Nat) (F : Nat → Nat → Rat), MatV W (fun _ => False) (.slice none 0 0) 0 n F) := fun W n F => ⟨[], none, 0, rfl, rfl, Nat.le_refl _, Nat.zero_le _, fun h => absurd rfl h, fun i u h => by simp at h⟩
 clear hN hN2
 by_cases hst : STO m N F
 case neg =>
  have HST : Hid (¬ STO m N F) := hst
  clear hst h h2
  go_enter Tryz.func31, Tryz.ntmps31
  go_wp2_with fail
  refine (stochastic_any _ _ m k N F (H.out.keep kp) HNN.out hk1 (by omega)).mono ?_
  rintro e w1 ⟨he, hb1⟩
  have y1 := hb1.size; (try simp only [zs] at y1)
  have he := he.eq (b := false) ⟨fun h => (by cases h), fun h => absurd h HST.out⟩
  subst he
  go_wp2_with fail
  go_ret2
  exact ⟨_, 1, 0, rfl, HEMPTY.out _ _ _, ⟨fun _ => ⟨rfl, rfl⟩, fun h => absurd h.1 HST.out, fun h => absurd h.1 HST.out⟩, bel⟩
 have HST := Lib.hid hst
 clear hst
 by_cases hst2 : STO m2 N2 F2
 case neg =>
  have HST2 : Hid (¬ STO m2 N2 F2) := hst2
  clear hst2 h h2
  go_enter Tryz.func31, Tryz.ntmps31
  go_wp2_with fail
  refine (stochastic_any _ _ m k N F (H.out.keep kp) HNN.out hk1 (by omega)).mono ?_
  rintro e w1 ⟨he, hb1⟩
  have y1 := hb1.size; (try simp only [zs] at y1)
  have he := he.eq (b := true) ⟨fun _ => HST.out, fun _ => rfl⟩
  subst he
  go_wp2_with fail
  refine (stochastic_any _ _ m2 k N2 F2 (H2.out.keep kp) HNN2.out hk1 (by omega)).mono ?_
  rintro e w2 ⟨he, hb2⟩
  have y2 := hb2.size; (try simp only [zs] at y2)
  have he := he.eq (b := false) ⟨fun h => (by cases h), fun h => absurd h HST2.out⟩
  subst he
  go_wp2_with fail
  go_ret2
  exact ⟨_, 1, 0, rfl, HEMPTY.out _ _ _, ⟨fun _ => ⟨rfl, rfl⟩, fun h => absurd h.2 HST2.out, fun h => absurd h.2 HST2.out⟩, bel⟩
 have HST2 := Lib.hid hst2
 clear hst2
 have hm1 : 0 < m := HST.out.1.1
 have hm21 : 0 < m2 := HST2.out.1.1
 obtain ⟨n, hn⟩ : ∃ n, N 0 = n := ⟨_, rfl⟩
 obtain ⟨n2, hn2⟩ : ∃ n, N2 0 = n := ⟨_, rfl⟩
 obtain ⟨a1, D1, d1, rfl, hab1, -, hcell1, -, lc1, -⟩ := Mat.at h hm1
 obtain ⟨a2, D2, d2, rfl, hab2, -, hcell2, -, lc2, -⟩ := Mat.at h2 hm21
 rw [addr_zero, hn] at hcell1
 rw [addr_zero, hn2] at hcell2
 rw [hn] at lc1
 rw [hn2] at lc2
 have HN := Lib.hid hn
 have HN2 := Lib.hid hn2
 have HN3 : Hid (∀ i, i < m → N i = n) := fun i hi => by rw [← hn]; exact (HST.out.1.2.2 i hi).1
 have HN4 : Hid (∀ i, i < m2 → N2 i = n2) := fun i hi => by rw [← hn2]; exact (HST2.out.1.2.2 i hi).1
 have hn200 : n ≤ 200 := by rw [← hn]; exact HNN.out 0 hm1
 have hn2200 : n2 ≤ 200 := by rw [← hn2]; exact HNN2.out 0 hm21
 have hn2p : 1 ≤ n2 := by rw [← hn2]; exact HST2.out.1.2.1
 have i1 : (0 : Int) < (m : Int) := by omega
 have i2 : (0 : Int) < (m2 : Int) := by omega
 have HSS : Hid (∀ W, Below w.heap.size w W → W.cell? a1 = some (.slice D1 n d1) ∧ W.cell? a2 = some (.slice D2 n2 d2)) := fun W hW => ⟨cell_keep (X := fun _ => False) hcell1 hab1 id (.of_below hW), cell_keep (X := fun _ => False) hcell2 hab2 id (.of_below hW)⟩
 clear h h2 hn hn2 hcell1 hcell2
 by_cases hne : n = m2
 case neg =>
  have d3 : ((n : Int) == (m2 : Int)) = false := beq_eq_false_iff_ne.2 (by omega)
  have d4 : ((n : Int) != (m2 : Int)) = true := bne_iff_ne.2 (by omega)
  have HNE : Hid (¬ N 0 = m2) := fun h => hne (by rw [← HN.out]; exact h)
  clear hne
  go_enter Tryz.func31, Tryz.ntmps31
  go_wp2_with fail
  refine (stochastic_any _ _ m k N F (H.out.keep kp) HNN.out hk1 (by omega)).mono ?_
  rintro e w1 ⟨he, hb1⟩
  have y1 := hb1.size; (try simp only [zs] at y1)
  have he := he.eq (b := true) ⟨fun _ => HST.out, fun _ => rfl⟩
  subst he
  go_wp2_with fail
  refine (stochastic_any _ _ m2 k N2 F2 (H2.out.keep kp) HNN2.out hk1 (by omega)).mono ?_
  rintro e w2 ⟨he, hb2⟩
  have y2 := hb2.size; (try simp only [zs] at y2)
  have he := he.eq (b := true) ⟨fun _ => HST2.out, fun _ => rfl⟩
  subst he
  have hw2 : Below w.heap.size w w2 := bel
  obtain ⟨g1, -⟩ := HSS.out w2 hw2
  go_wp2_with fail
  go_ret2
  exact ⟨_, 2, 0, rfl, HEMPTY.out _ _ _, ⟨fun h => absurd ⟨HST.out, HST2.out⟩ h, fun _ _ => ⟨rfl, rfl⟩, fun _ h => absurd h HNE.out⟩, hw2⟩
 subst hne
 have d3 : ((n : Int) == (n : Int)) = true := beq_iff_eq.2 rfl
 have d4 : ((n : Int) != (n : Int)) = false := by simp only [bne, d3]; rfl
 go_enter Tryz.func31, Tryz.ntmps31
 go_wp2_with fail
 refine (stochastic_any _ _ m k N F (H.out.keep kp) HNN.out hk1 (by omega)).mono ?_
 rintro e w1 ⟨he, hb1⟩
 have y1 := hb1.size; (try simp only [zs] at y1)
 have he := he.eq (b := true) ⟨fun _ => HST.out, fun _ => rfl⟩
 subst he
 go_wp2_with fail
 refine (stochastic_any _ _ n k N2 F2 (H2.out.keep kp) HNN2.out hk1 (by omega)).mono ?_
 rintro e w2 ⟨he, hb2⟩
 have y2 := hb2.size; (try simp only [zs] at y2)
 have he := he.eq (b := true) ⟨fun _ => HST2.out, fun _ => rfl⟩
 subst he
 have hw2 : Below w.heap.size w w2 := bel
 have HW2 := Lib.hid hw2
 obtain ⟨g1, -⟩ := HSS.out w2 hw2
 clear hb1 hb2 hw2
 go_wp2_with fail
 clear g1
 go_loopw [6, 31] (fun v i wr => ∃ (x : Nat) (us : List Value), x ≤ m ∧ i = .int .i64 x ∧ us.length = x ∧ OwnL wr w.heap.size v us ∧ Hid (∀ i u, us[i]? = some u → NumsV wr (fun b => v.ownBlock = some b) u n2 (prod n F F2 i)) ∧ Below w.heap.size w wr) (fun _ i _ => m - (intOf i).toNat)
 case atStart => exact ⟨0, [], by omega, rfl, rfl, World.ownsRow_nil _ _ _ _, Lib.hid (fun i u hu => by simp at hu), HW2.out⟩
 case round =>
  clear HW2
  obtain ⟨x, us, hx, rfl, hul, hown, hrows, hBx⟩ := hrel
  obtain ⟨wx, rfl⟩ : ∃ wx : World, wx = wr := ⟨_, rfl⟩
  have yx := hBx.size
  have HUL := Lib.hid hul
  have HBX := Lib.hid hBx
  have HOWN := Lib.hid hown
  clear hul hBx
  by_cases hlt : x < m
  ·obtain ⟨a9, D9, d9, ea, hab9, -, hcell9, hnum9, lc9, -⟩ := Mat.at (Mat.keep H.out (.of_below HBX.out)) hlt
   injection ea with ea
   subst ea
   rw [HN3.out x hlt] at hcell9 hnum9 lc9
   have HNUM := Lib.hid hnum9
   obtain ⟨-, g2⟩ := HSS.out wx HBX.out
   have k0 : (0 : Int) ≤ (x : Int) := by omega
   have k1 : (x : Int) < (m : Int) := by omega
   clear hnum9 hown
   go_wp2_with fail
   clear g2 hcell9
   go_loopw [9, 39] (fun v i wr => ∃ (z : Nat) (rs : List R4), z ≤ n2 ∧ i = .int .i64 z ∧ OwnR wr wx.heap.size v rs ∧ rs.length = z ∧ ValV wr (fun b => v.ownBlock = some b ∨ b < wx.heap.size) rs (prod n F F2 x) ∧ Below wx.heap.size wx wr) (fun _ i _ => n2 - (intOf i).toNat)
   case atStart => exact ⟨0, [], by omega, rfl, OwnR.nil _ _, rfl, fun i r hr => by simp at hr, bel⟩
   case round =>
    obtain ⟨z, rs, hz, rfl, hownz, hrl, hv, hBz⟩ := hrel
    obtain ⟨wz, rfl⟩ : ∃ wz : World, wz = wr := ⟨_, rfl⟩
    have yz := hBz.size
    have HRL := Lib.hid hrl
    have HOZ := Lib.hid hownz
    have HVZ := Lib.hid hv
    have HBZ := Lib.hid hBz
    have HBWZ := Lib.hid (HBX.out.trans (hBz.mono yx))
    clear hrl hownz hv hBz
    by_cases hltz : z < n2
    ·have HSM : Hid (∀ i, i ≤ n → Rsz 900000 (sm i (fun y => F x y * F2 y z))) := fun i hi => dot_rsz (k := k) (fun j hj => HFZ.out x hlt j (by rw [HN3.out x hlt]; omega)) (fun j hj => HFZ2.out j (by omega) z (by rw [HN4.out j (by omega)]; exact hltz)) (by omega) hk
     have k3 : (0 : Int) ≤ (z : Int) := by omega
     have k4 : (z : Int) < (n2 : Int) := by omega
     go_wp2_with fail
     refine (rwhole_any _ 0 (by decide) (by decide)).mono ?_
     rintro e w5 ⟨v5, rfl, i5, hb5⟩
     rw [show ((0 : Int) : Rat) = 0 from rfl] at i5
     have y5 := hb5.size; (try simp only [zs] at y5)
     obtain ⟨b5, A5, m5, c5, b5', A5', m5', c5', rfl, i5, -, -⟩ := i5.op
     have T := made1 w5 #[.bool b5, .slice A5 m5 c5, .bool b5', .slice A5' m5' c5'] 60
     go_wp2_with fail
     go_loopw [45] (fun i wr => ∃ (y : Nat) (q : R4), y ≤ n ∧ i = .int .i64 y ∧ Loc wr w5.heap.size 60 #[.bool q.b, .slice q.A q.m q.c, .bool q.b', .slice q.A' q.m' q.c'] ∧ RatV wr (fun b => b = w5.heap.size ∨ b < wz.heap.size) q.v (sm y (fun y => F x y * F2 y z)) ∧ Below wz.heap.size wz wr) (fun i _ => n - (intOf i).toNat)
     case atStart => exact ⟨0, ⟨b5, A5, m5, c5, b5', A5', m5', c5'⟩, by omega, rfl, T, RatV.out i5, bel⟩
     case round =>
      obtain ⟨y, q, hy, rfl, Ty, sy, hBy⟩ := hrel
      obtain ⟨wy, rfl⟩ : ∃ wy : World, wy = wr := ⟨_, rfl⟩
      obtain ⟨b6, A6, m6, c6, b6', A6', m6', c6'⟩ := q
      unfold R4.v at sy
      dsimp only at Ty sy
      clear i5 T
      have yy := hBy.size; (try simp only [zs] at yy)
      have q5 := Ty.lt
      by_cases hlty : y < n
      ·obtain ⟨ay, b7, A7, m7, c7, b7', A7', m7', c7', rfl, hab7, -, t0, t1, t2, t3, r7⟩ := Nums.at (Nums.keep HNUM.out (.of_below (HBZ.out.trans (hBy.mono yz)))) hlty
       obtain ⟨a7, D7, d7, ea, hab7', -, hcell7, hnum7, lc7, -⟩ := Mat.at (Mat.keep H2.out (.of_below (HBWZ.out.trans (hBy.mono (by omega))))) hlty
       injection ea with ea
       subst ea
       rw [HN4.out y hlty] at hcell7 hnum7 lc7
       obtain ⟨a8, b8, A8, m8, c8, b8', A8', m8', c8', rfl, hab8, -, x0, x1, x2, x3, r8⟩ := Nums.at hnum7 hltz
       replace t1 : wy.cell? ⟨(ay.add (y * 4)).block, (ay.add (y * 4)).off + 1, none⟩ = _ := t1
       replace t2 : wy.cell? ⟨(ay.add (y * 4)).block, (ay.add (y * 4)).off + 2, none⟩ = _ := t2
       replace t3 : wy.cell? ⟨(ay.add (y * 4)).block, (ay.add (y * 4)).off + 3, none⟩ = _ := t3
       have T7 := made1 wy #[.bool b7, .slice A7 m7 c7, .bool b7', .slice A7' m7' c7'] 60
       have hTy1 := Ty.below (below1 wy (.cells #[.bool b7, .slice A7 m7 c7, .bool b7', .slice A7' m7' c7'] 60))
       have HE : Hid (sm (y + 1) (fun y => F x y * F2 y z) = sm y (fun y => F x y * F2 y z) + F x y * F2 y z) := sm_succ _ _
       have HS1 := Lib.hid (HSM.out y hy)
       have HF1 : Hid (Rsz k (F x y)) := HFZ.out x hlt y (by rw [HN3.out x hlt]; exact hlty)
       have HF2 : Hid (Rsz k (F2 y z)) := HFZ2.out y hlty z (by rw [HN4.out y hlty]; exact hltz)
       have HLS : Hid (∀ W, Below (wy.alloc (.cells #[.bool b7, .slice A7 m7 c7, .bool b7', .slice A7' m7' c7'] 60)).heap.size (wy.alloc (.cells #[.bool b7, .slice A7 m7 c7, .bool b7', .slice A7' m7' c7'] 60)) W → ((W.cell? ⟨w5.heap.size, 0, none⟩ = some (.bool b6) ∧ W.cell? ⟨w5.heap.size, 1, none⟩ = some (.slice A6 m6 c6)) ∧ W.cell? ⟨w5.heap.size, 2, none⟩ = some (.bool b6') ∧ W.cell? ⟨w5.heap.size, 3, none⟩ = some (.slice A6' m6' c6')) ∧ ((W.cell? ⟨wy.heap.size, 0, none⟩ = some (.bool b7) ∧ W.cell? ⟨wy.heap.size, 1, none⟩ = some (.slice A7 m7 c7)) ∧ W.cell? ⟨wy.heap.size, 2, none⟩ = some (.bool b7') ∧ W.cell? ⟨wy.heap.size, 3, none⟩ = some (.slice A7' m7' c7')) ∧ (W.cell? (a2.add y) = some (.slice (some a8) n2 d7) ∧ W.cell? (a8.add (z * 4)) = some (.bool b8)) ∧ (W.cell? ⟨(a8.add (z * 4)).block, (a8.add (z * 4)).off + 1, none⟩ = some (.slice A8 m8 c8) ∧ W.cell? ⟨(a8.add (z * 4)).block, (a8.add (z * 4)).off + 2, none⟩ = some (.bool b8')) ∧ W.cell? ⟨(a8.add (z * 4)).block, (a8.add (z * 4)).off + 3, none⟩ = some (.slice A8' m8' c8')) := fun W hW => by
        have hb8 : (a8.add (z * 4)).block < wy.heap.size := by rw [addr_block]; exact hab8
        have hK : Keep (fun _ => False) wy W := .of_below ((below1 wy _).trans (hW.mono (by simp only [World.size_alloc]; omega)))
        exact ⟨⟨⟨Loc.cell (hTy1.below hW) 0, Loc.cell (hTy1.below hW) 1⟩, Loc.cell (hTy1.below hW) 2, Loc.cell (hTy1.below hW) 3⟩, ⟨⟨Loc.cell (T7.below hW) 0, Loc.cell (T7.below hW) 1⟩, Loc.cell (T7.below hW) 2, Loc.cell (T7.below hW) 3⟩, ⟨cell_keep hcell7 (by rw [addr_block]; exact hab7') id hK, cell_keep x0 hb8 id hK⟩, ⟨cell_keep x1 hb8 id hK, cell_keep x2 hb8 id hK⟩, cell_keep x3 hb8 id hK⟩
       have k5 : (0 : Int) ≤ (y : Int) := by omega
       have k6 : (y : Int) < (n : Int) := by omega
       clear hcell7 hnum7 x0 x1 x2 x3
       go_upto_block 5 with fail
       go_cut [] from 47 to 61 (fun W => ∃ q : R4, Loc W w5.heap.size 60 #[.bool q.b, .slice q.A q.m q.c, .bool q.b', .slice q.A' q.m' q.c'] ∧ RatV W (fun b => b = w5.heap.size ∨ b < wz.heap.size) q.v (sm (y + 1) (fun y => F x y * F2 y z)) ∧ Below wz.heap.size wz W)
       case first =>
        go_wp2_with fail
        clear t0 t1 t2 t3
        refine wp_region_noPanic ?_
        refine wp_region_heldK (k := 11) (S := (fun W => ((W.cell? ⟨w5.heap.size, 0, none⟩ = some (.bool b6) ∧ W.cell? ⟨w5.heap.size, 1, none⟩ = some (.slice A6 m6 c6)) ∧ W.cell? ⟨w5.heap.size, 2, none⟩ = some (.bool b6') ∧ W.cell? ⟨w5.heap.size, 3, none⟩ = some (.slice A6' m6' c6')) ∧ ((W.cell? ⟨wy.heap.size, 0, none⟩ = some (.bool b7) ∧ W.cell? ⟨wy.heap.size, 1, none⟩ = some (.slice A7 m7 c7)) ∧ W.cell? ⟨wy.heap.size, 2, none⟩ = some (.bool b7') ∧ W.cell? ⟨wy.heap.size, 3, none⟩ = some (.slice A7' m7' c7')) ∧ (W.cell? (a2.add y) = some (.slice (some a8) n2 d7) ∧ W.cell? (a8.add (z * 4)) = some (.bool b8)) ∧ (W.cell? ⟨(a8.add (z * 4)).block, (a8.add (z * 4)).off + 1, none⟩ = some (.slice A8 m8 c8) ∧ W.cell? ⟨(a8.add (z * 4)).block, (a8.add (z * 4)).off + 2, none⟩ = some (.bool b8')) ∧ W.cell? ⟨(a8.add (z * 4)).block, (a8.add (z * 4)).off + 3, none⟩ = some (.slice A8' m8' c8'))) (by kernel_rfl) ?_ (fun hHeld => ?_)
        ·exact HLS.out _ bel
        refine tkK 0 ?_
        (try simp only [Act.put, ly])
        refine tkK 1 ?_
        (try simp only [Act.put, ly])
        refine puK 2 ?_
        (try simp only [Act.put, ly])
        refine puK 3 ?_
        (try simp only [Act.put, ly])
        refine puK 4 ?_
        (try simp only [Act.put, ly])
        refine tkK 5 ?_
        (try simp only [Act.put, ly])
        refine puK 6 ?_
        (try simp only [Act.put, ly])
        refine puK 7 ?_
        (try simp only [Act.put, ly])
        refine tkK 8 ?_
        (try simp only [Act.put, ly])
        refine wpAnyK_ready (rs := [9]) (by kernel_rfl) (by simp) ?_
        refine AllReadyK.cons rfl (fun KK hKK => ?_) AllReadyK.nil
        go_simp
        refine (mul_rat _ (fun _ => False) _ _ (F x y) (F2 y z) (RatL.to (r7.mono (by omega))) (RatL.to (r8.mono (by omega)))).mono ?_
        rintro e u2 ⟨v2, rfl, j2, hb2⟩
        obtain ⟨b12, A12, m12, c12, b12', A12', m12', c12', rfl, j2, -, -⟩ := j2.op
        have y12 := hb2.size; (try simp only [zs] at y12)
        (try go_wp2_with fail)
        refine hKK.out _ _ ?_ (fun hHeld => ?_)
        ·(try dsimp only)
         exact HLS.out _ bel
        clear hKK KK
        (try simp only [Act.put, ly])
        refine wpAnyK_ready (rs := [10]) (by kernel_rfl) (by simp) ?_
        refine AllReadyK.cons rfl (fun KK hKK => ?_) AllReadyK.nil
        go_simp
        refine (add_rat _ (fun _ => False) _ _ (sm y (fun y => F x y * F2 y z)) (F x y * F2 y z) (RatL.to ((sy.len HS1.out).mono (by omega))) (RatL.to ((j2.len (HF1.out.mul HF2.out)).mono (by omega)))).mono ?_
        rintro e u3 ⟨v3, rfl, j3, hb3⟩
        rw [← HE.out] at j3
        obtain ⟨b13, A13, m13, c13, b13', A13', m13', c13', rfl, j3, -, -⟩ := j3.op
        have y13 := hb3.size; (try simp only [zs] at y13)
        obtain ⟨e3, f3, -⟩ := Loc.all Ty (w' := u3)
        (try go_wp2_with fail)
        refine hKK.out _ _ ?_ (fun hHeld => ?_)
        ·(try dsimp only)
         exact HLS.out _ bel
        clear hKK KK
        (try simp only [Act.put, ly])
        refine wpAnyK_ready (rs := [11]) (by kernel_rfl) (by simp) ?_
        refine AllReadyK.last (by kernel_rfl) rfl (fun KK hKK => ?_) AllReadyK.nil
        go_simp
        refine hKK.out _ _ ?_
        clear hKK KK
        (try simp only [Act.put, ly])
        refine wpAnyK_done (by kernel_rfl) ?_ _
        refine NoPanic.normal ?_
        go_wp2_with fail
        go_meet
        exact ⟨⟨b13, A13, m13, c13, b13', A13', m13', c13'⟩, Loc.fill4 (Loc.to Ty (w' := u3)), RatV.out j3, bel⟩
       case rest =>
        obtain ⟨q, T9, s9, hB9⟩ := hcut
        go_wp2_with fail
        go_roundw
        case rel => exact ⟨y + 1, q, by omega, by go_num, T9, s9, hB9⟩
        case measure => simp only [intOf]; omega
      ·obtain rfl : y = n := by omega
       obtain ⟨e6, f6, -⟩ := Ty.all (w' := wy)
       have hownY : OwnR (wy.alloc (.cells #[.bool b6, .slice A6 m6 c6, .bool b6', .slice A6' m6' c6'] 60)) wx.heap.size u9 rs := (HOZ.out.below hBy).below (below1 _ _)
       have hBal : Below wz.heap.size wz (wy.alloc (.cells #[.bool b6, .slice A6 m6 c6, .bool b6', .slice A6' m6' c6'] 60)) := hBy.trans ((below1 wy _).mono (by omega))
       have hrl200 : rs.length ≤ 200 := by rw [HRL.out]; omega
       go_wp2_with (at_builtin; refine wpList_pushR _ rfl _ _ rfl wx.heap.size _ rs rfl hownY _ ⟨b6, A6, m6, c6, b6', A6', m6', c6'⟩ rfl (heap_alloc_new wy _) (by omega) (by simp only [World.size_alloc]; omega) ?_)
       intro gg cap w4 hown4 hg4 ho4 hl4
       (try simp only [World.size_alloc] at ho4)
       have hb4 : Below wx.heap.size wx w4 := below_own (HBZ.out.trans (hBal.mono yz)) hownY hg4 (Nat.le_refl _) (by simp only [World.size_alloc]; omega)
       have hval : ValV w4 (fun b => (Value.slice (some ⟨gg, 0, none⟩) (rs.length + 1) cap).ownBlock = some b ∨ b < wx.heap.size) (rs ++ [⟨b6, A6, m6, c6, b6', A6', m6', c6'⟩]) (prod y F F2 x) := by
        have h1 := HVZ.out.keep (Keep.of_below hBal)
        have h2 : RatV (wy.alloc (.cells #[.bool b6, .slice A6 m6 c6, .bool b6', .slice A6' m6' c6'] 60)) (fun b => u9.ownBlock = some b ∨ b < wx.heap.size) (R4.v ⟨b6, A6, m6, c6, b6', A6', m6', c6'⟩) (prod y F F2 x rs.length) := by
         rw [HRL.out]
         refine RatV.keep (RatV.weak sy (fun b hb hh => ?_)) kp
         right
         rcases hh with hh | hh
         ·exact (HOZ.out.lt hh).1
         ·omega
        exact (h1.push h2).turn ((Keep.refl _ _).grown hg4 (fun g hg => .inl (.inl hg))) (fun b hb hh => by
         rcases hh with hh | hh
         ·rcases ho4 with ho | ho
          ·left; rw [ho]; exact hh
          ·have hh' : some gg = some b := hh
           injection hh' with hh'
           simp only [World.size_alloc] at hb
           omega
         ·exact .inr hh)
       clear hownY e6 f6
       go_wp2_with fail
       go_roundw
       case rel => exact ⟨z + 1, rs ++ [⟨b6, A6, m6, c6, b6', A6', m6', c6'⟩], by omega, by go_num, hown4, by simp [HRL.out], hval, hb4⟩
       case measure => simp only [intOf]; omega
    ·obtain rfl : z = n2 := by omega
     obtain ⟨A7, m7, c7, rfl⟩ : ∃ A m c, u9 = .slice A m c := by
      rcases HOZ.out.2 with ⟨rfl, -⟩ | ⟨g, cap, cur, rfl, -⟩
      ·exact ⟨_, _, _, rfl⟩
      ·exact ⟨_, _, _, rfl⟩
     have HROW : Hid (NumsV wz (fun b => u6.ownBlock = some b) (.slice A7 m7 c7) z (prod n F F2 x)) := by
      have := HOZ.out.numsV HVZ.out (Y := fun b => u6.ownBlock = some b) (fun b _ hb => .inr (HOWN.out.lt b hb).2) (fun gg hgg hx => by have := (HOWN.out.lt gg hx).2; have := (HOZ.out.lt hgg).2; omega)
      rw [HRL.out] at this
      exact this
     have hownA : OwnL (wz.alloc (.cells #[.slice A7 m7 c7] 55)) w.heap.size u6 us := (HOWN.out.below HBZ.out).below (below1 _ _)
     have hul200 : us.length ≤ 200 := by rw [HUL.out]; omega
     go_wp2_with (at_builtin; refine wpList_pushL _ rfl _ _ rfl w.heap.size _ us rfl hownA ⟨wz.heap.size, 0, none⟩ 1 1 (us.length + 1) [.slice A7 m7 c7] rfl rfl rfl (fun j u hu => World.news_of_block (made1 wz #[.slice A7 m7 c7] 55) j u (by simpa using hu)) (fun u hu => ⟨_, _, _, List.mem_singleton.1 hu⟩) (by decide) (by omega) (by simp only [World.size_alloc]; omega) ?_)
     intro gA capA w6 hoa6 hg6 ho6 hl6
     (try simp only [World.size_alloc] at ho6)
     have y6 := hg6.size
     (try simp only [World.size_alloc] at y6)
     have hb6 : Below w.heap.size w w6 := below_own (HBWZ.out.trans ((below1 wz _).mono (by omega))) hownA hg6 (Nat.le_refl _) (by simp only [World.size_alloc]; omega)
     have HROWS : Hid (∀ i u, (us ++ [.slice A7 m7 c7])[i]? = some u → NumsV w6 (fun b => (Value.slice (some ⟨gA, 0, none⟩) (us.length + 1) capA).ownBlock = some b) u z (prod n F F2 i)) := fun i u hu => by
      have hk6 : Keep (fun b => u6.ownBlock = some b) wz w6 := ((Keep.refl _ wz).alloc (.cells #[.slice A7 m7 c7] 55)).grown hg6 (fun g hg => .inl hg)
      have hY6 : ∀ b, b < wz.heap.size → (Value.slice (some ⟨gA, 0, none⟩) (us.length + 1) capA).ownBlock = some b → u6.ownBlock = some b := fun b hb hh => by
       have hh' : some gA = some b := hh
       rcases ho6 with ho | ho
       ·rw [ho]; exact hh'
       ·injection hh' with hh'
        omega
      by_cases hi : i < us.length
      ·rw [List.getElem?_append_left hi] at hu
       exact ((hrows.out i u hu).keep (.of_below HBZ.out)).turn hk6 hY6
      ·have hlt2 := (List.getElem?_eq_some_iff.1 hu).1
       simp at hlt2
       obtain rfl : i = us.length := by omega
       simp at hu
       subst hu
       rw [HUL.out]
       exact HROW.out.turn hk6 hY6
     clear hownA hg6
     go_wp2_with fail
     go_roundw
     case rel => exact ⟨x + 1, _, by omega, by go_num, by simp [HUL.out], hoa6, HROWS, hb6⟩
     case measure => simp only [intOf]; omega
  ·obtain rfl : x = m := by omega
   obtain ⟨g, cap, rfl⟩ : ∃ g c, u6 = .slice (some ⟨g, 0, none⟩) x c := by
    rcases HOWN.out.2 with ⟨-, hn⟩ | ⟨g, cap, cur, rfl, -⟩
    ·rw [HUL.out] at hn; omega
    ·rw [HUL.out]; exact ⟨_, _, rfl⟩
   have HM := Lib.hid (HOWN.out.matV HUL.out hm1 (fun i u hu => (hrows.out i u hu).weak (fun _ _ h => h.elim)))
   clear hown hrows
   go_wp2_with fail
   go_ret2
   exact ⟨_, 0, x, rfl, by rw [HN.out, HN2.out]; exact HM.out, ⟨fun h => absurd ⟨HST.out, HST2.out⟩ h, fun _ h => absurd HN.out h, fun _ _ => ⟨rfl, rfl⟩⟩, HBX.out⟩
end Go.Proofs.YtdambnieminnfaaGreat

