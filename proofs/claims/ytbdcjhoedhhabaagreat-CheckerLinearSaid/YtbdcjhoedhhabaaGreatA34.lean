/- Contracts of the functions that the statements reach, part 34. -/
import Derived.Test.YtbdcjhoedhhabaaGreatRows
import Derived.Test.YtbdcjhoedhhabaaGreatA28
import Derived.Test.YtbdcjhoedhhabaaGreatA31
import Derived.Test.YtbdcjhoedhhabaaGreatA32
import Derived.Test.YtbdcjhoedhhabaaGreatA33
set_option linter.unusedSimpArgs false
set_option linter.unusedVariables false

/- The checker's Farkas vectors. -/
namespace Go.Proofs.YtbdcjhoedhhabaaGreat
open Go.RowKit
attribute [local go_sem ↓] Go.wp_at_zero Go.wp_at_succ

set_option maxRecDepth 100000 in
set_option maxHeartbeats 8000000 in
theorem cfarkas_any (w : World) (va vb vy : Value) (m ny mb k : Nat) (N : Nat → Nat) (F : Nat → Nat → Rat) (y Bv : Nat → Rat) (hA : Mat k w (fun _ => False) va m N F) (hB : Nums k w (fun _ => False) vb mb Bv) (hy : Nums k w (fun _ => False) vy ny y)
 (hV : VS m mb N) (hk1 : 1 ≤ k) (hk : k ≤ 900) :
 Calls Tryz.prog 112 #[.agg #[va, vb], vy] w fun e w' => Tells (FK m mb N F Bv ny y) e ∧ Below w.heap.size w w' := by
 have HA := Lib.hid hA
 have HB := Lib.hid hB
 have HY := Lib.hid hy
 have HV := Lib.hid hV
 obtain ⟨A, cA, rfl, hA, la1, la2⟩ := hA.op
 obtain ⟨B, d, rfl, hB, lb1, lb2⟩ := hB.op
 obtain ⟨C, c3, rfl, hy, l3, l4⟩ := hy.op
 have L := made1 w #[.slice A m cA, .slice B mb d] 73
 obtain ⟨v1, v2, rfl, v4, v5, v6⟩ := hV
 by_cases hny : ny ≠ mb
 ·have HV2 : Hid (¬ FK mb mb N F Bv ny y) := fun h => hny h.2.1
  have h4 : ((ny : Int) == (mb : Int)) = false := beq_eq_false_iff_ne.2 (by omega)
  have h5 : ((ny : Int) != (mb : Int)) = true := bne_iff_ne.2 (by omega)
  clear hA hB hy v6
  go_enter Tryz.func112, Tryz.ntmps112
  go_wp2_with fail
  go_ret
  exact ⟨Tells.no HV2.out, bel⟩
 obtain rfl : ny = mb := Classical.not_not.1 hny
 obtain ⟨a, D, dd, rfl, hab, -, hcell, hnum, l7, l8⟩ := Mat.at hA (show 0 < ny by omega)
 have e0 : a.add 0 = a := by simp [Addr.add]
 rw [e0] at hcell
 have HCELL : Hid (∀ W, Below w.heap.size w W → W.cell? a = some (.slice D (N 0) dd)) := fun W hW => cell_keep (X := fun _ => False) hcell hab id (.of_below hW)
 have q0 : (0 : Int) < (ny : Int) := by omega
 have HN := Lib.hid v6
 obtain ⟨n, hnn⟩ : ∃ n, N 0 = n := ⟨_, rfl⟩
 rw [hnn] at HCELL hnum l7 v4 v5
 have HN0 := Lib.hid hnn
 have HD : Hid (∀ q : Nat → Rat, (∀ i, i < ny → Rsz k (q i)) → Rsz 900000 (sm ny (fun i => y i * q i))) := fun q hq => dot_rsz (HY.out.rsz hk1) hq (by omega) (by omega)
 have HR : Hid (∀ i, i < ny → Rsz k (Bv i)) := HB.out.rsz hk1
 clear hA hB hy v6 hny hcell hnn hnum
 obtain ⟨dv, hdv⟩ : ∃ q, sm ny (fun i => y i * Bv i) = q := ⟨_, rfl⟩
 have HDV := Lib.hid hdv
 have HDS : Hid (Rsz 900000 dv) := by show Rsz _ _; rw [← hdv]; exact HD.out Bv HR.out
 clear hdv
 go_enter Tryz.func112, Tryz.ntmps112
 go_wp2_with fail
 refine (cdot_any _ _ _ ny ny k y Bv (Nums.keep HY.out kp) (Nums.keep HB.out kp) (Nat.le_refl _) (by omega) hk1 (by omega)).mono ?_
 rintro e w2 ⟨u2, rfl, i2, hb2⟩
 rw [HDV.out] at i2
 have y2 := hb2.size; (try simp only [zs] at y2)
 obtain ⟨b2, A2, m2, c2, b2', A2', m2', c2', rfl, i2, -, -⟩ := i2.op
 go_wp2_with fail
 refine (cnegative_any _ 900000 _ dv (RatL.to (i2.len HDS.out))).mono ?_
 rintro e w3 ⟨he, hb3⟩
 have y3 := hb3.size; (try simp only [zs] at y3)
 by_cases hneg : dv < 0
 ·rw [decide_eq_true hneg] at he
  subst he
  have HNEG := Lib.hid hneg
  clear hneg
  obtain ⟨e1, f1, -⟩ := L.all (w' := w3)
  have hc3 := HCELL.out w3 bel
  go_wp2_with fail
  go_loopw [28] (fun i wr => ∃ (c : Nat), c ≤ n ∧ i = .int .i64 c ∧ Hid (∀ j, j < c → ¬ sm ny (fun i => y i * F i j) < 0) ∧ Below w.heap.size w wr ∧ Loc wr w.heap.size 73 _) (fun i _ => n - (intOf i).toNat)
  case atStart => exact ⟨0, by omega, rfl, Lib.hid (fun i hi => absurd hi (by omega)), bel, L.to⟩
  case round =>
   obtain ⟨c6, hc, rfl, hall, hB, NL⟩ := hrel
   obtain ⟨wo, rfl⟩ : ∃ wo : World, wo = wr := ⟨_, rfl⟩
   have y5 := hB.size; (try simp only [zs] at y5)
   by_cases hlt : c6 < n
   ·clear e1 f1 hc3
    obtain ⟨e1, f1, l1⟩ := NL.all (w' := wo)
    obtain ⟨dw, hdw⟩ : ∃ q, sm ny (fun i => y i * F i c6) = q := ⟨_, rfl⟩
    have HDW := Lib.hid hdw
    have HBo : Hid (Below w.heap.size w wo) := hB
    have HALL := Lib.hid hall
    clear hdw hall
    go_wp2_with fail
    go_loopw [6, 34] (fun v i wr => ∃ (c : Nat) (rs : List R4), c ≤ ny ∧ i = .int .i64 c ∧ OwnR wr wo.heap.size v rs ∧ rs.length = c ∧ ValL k w (fun _ => False) rs (fun i => F i c6) ∧ Loc wr w.heap.size 73 #[.slice (some a) ny cA, .slice B ny d] ∧ Below w.heap.size w wr ∧ wo.heap.size ≤ wr.heap.size) (fun _ i _ => ny - (intOf i).toNat)
    case atStart => exact ⟨0, [], by omega, rfl, OwnR.nil _ _, rfl, fun i r hr => by simp at hr, NL.to, bel, by omega⟩
    case round =>
     obtain ⟨c7, rs, hc7, rfl, hown, hrl, hv, NL7, hB7, hsz7⟩ := hrel
     obtain ⟨wq, rfl⟩ : ∃ wq : World, wq = wr := ⟨_, rfl⟩
     have y8 := hB7.size; (try simp only [zs] at y8)
     by_cases hlt7 : c7 < ny
     ·obtain ⟨a8, D8, d8, ea8, hab8, -, hcell8, hnum8, l18, l19⟩ := Mat.at HA.out hlt7
      injection ea8 with ea8
      subst ea8
      rw [HN.out c7 hlt7, HN0.out] at hcell8 hnum8 l18
      have j1 : (c6 : Int) < (n : Int) := by omega
      have j0 : (0 : Int) ≤ (c6 : Int) := by omega
      obtain ⟨a', b3, A3, m3, c3', b3', A3', m3', c3'', rfl, ha', -, x0, x1, x2, x3, r3⟩ := Nums.at hnum8 hlt
      have hcell' : wq.cell? (a.add c7) = _ := cell_keep (X := fun _ => False) hcell8 (by rw [add_block]; exact hab8) id (.of_below hB7)
      replace x0 : wq.cell? (a'.add (c6 * 4)) = _ := cell_keep (X := fun _ => False) x0 (by rw [add_block]; exact ha') id (.of_below hB7)
      replace x1 : wq.cell? ⟨(a'.add (c6 * 4)).block, (a'.add (c6 * 4)).off + 1, none⟩ = _ := cell_keep (X := fun _ => False) x1 (by simp only [add_block]; exact ha') id (.of_below hB7)
      replace x2 : wq.cell? ⟨(a'.add (c6 * 4)).block, (a'.add (c6 * 4)).off + 2, none⟩ = _ := cell_keep (X := fun _ => False) x2 (by simp only [add_block]; exact ha') id (.of_below hB7)
      replace x3 : wq.cell? ⟨(a'.add (c6 * 4)).block, (a'.add (c6 * 4)).off + 3, none⟩ = _ := cell_keep (X := fun _ => False) x3 (by simp only [add_block]; exact ha') id (.of_below hB7)
      go_wp2_with (at_builtin; refine wpList_pushR _ rfl _ _ rfl wo.heap.size _ rs rfl (hown.below ((Below.refl _ _).alloc (Nat.le_refl _) _)) _ ⟨b3, A3, m3, c3', b3', A3', m3', c3''⟩ rfl (heap_alloc_new wq _) (by omega) (by simp only [World.size_alloc]; omega) ?_)
      intro g cap w8 hown8 hg8 ho8 hl8
      have hb8 : Below w.heap.size w w8 := below_own (hB7.alloc y8 _) (hown.below ((Below.refl _ _).alloc (Nat.le_refl _) _)) hg8 y5 (by simp only [World.size_alloc]; omega)
      have hown9 : Hid (∀ b, u6.ownBlock = some b → wo.heap.size ≤ b) := fun b hb => (hown.lt hb).2
      have NL9 : Loc w8 w.heap.size 73 #[.slice (some a) ny cA, .slice B ny d] := Loc.to (Loc.to NL7 (w' := wq.alloc (.cells #[.bool b3, .slice A3 m3 c3', .bool b3', .slice A3' m3' c3''] 213))) (k := Stay.refl.grown hg8 (fun e => by have := hown9.out _ e; omega))
      go_wp2_with fail
      go_roundw
      case rel =>
       refine ⟨c7 + 1, rs ++ [⟨b3, A3, m3, c3', b3', A3', m3', c3''⟩], by omega, by go_num, ?_, by simp [hrl], hv.push (by rw [hrl]; exact r3), NL9, hb8, by have := hg8.size; simp only [World.size_alloc] at this; omega⟩
       exact hown8
      case measure => simp only [intOf]; omega
     ·obtain rfl : c7 = ny := by omega
      have hnums : Nums k wq (fun _ => False) u6 rs.length (fun i => F i c6) := hown.nums (hv.keep (.of_below hB7)) (fun _ _ h => h) (fun _ _ h => h)
      rw [hrl] at hnums
      have HNU := Lib.hid hnums
      have HDS4 : Hid (Rsz 900000 dw) := by show Rsz _ _; rw [← HDW.out]; exact HD.out _ (hnums.rsz hk1)
      clear hnums hv
      go_wp2_with fail
      refine (cdot_any _ _ _ c7 c7 k y (fun i => F i c6) (Nums.keep HY.out kp) HNU.out (Nat.le_refl _) (by omega) hk1 (by omega)).mono ?_
      rintro e w5 ⟨u5, rfl, i5, hb5⟩
      rw [HDW.out] at i5
      have y6 := hb5.size; (try simp only [zs] at y6)
      obtain ⟨b5, A5, m5, c5, b5', A5', m5', c5', rfl, i5, -, -⟩ := i5.op
      go_wp2_with fail
      refine (cnegative_any _ 900000 _ dw (RatL.to (i5.len HDS4.out))).mono ?_
      rintro e w6 ⟨he, hb6⟩
      have y7 := hb6.size; (try simp only [zs] at y7)
      by_cases hneg2 : dw < 0
      ·rw [decide_eq_true hneg2] at he
       subst he
       have HV2 : Hid (¬ FK c7 c7 N F Bv c7 y) := fun h => h.2.2.2 c6 (by rw [HN0.out]; exact hlt) (by rw [HDW.out]; exact hneg2)
       clear hneg2
       go_wp2_with fail
       go_ret
       exact ⟨Tells.no HV2.out, bel⟩
      ·rw [decide_eq_false hneg2] at he
       subst he
       have HNN := Lib.hid hneg2
       clear hneg2
       go_wp2_with fail
       go_roundw
       case rel =>
        refine ⟨c6 + 1, by omega, by go_num, Lib.hid (fun i hi => ?_), bel, NL7.to⟩
        by_cases hic : i < c6
        ·exact HALL.out i hic
        ·obtain rfl : i = c6 := by omega
         rw [HDW.out]; exact HNN.out
       case measure => simp only [intOf]; omega
   ·obtain rfl : c6 = n := by omega
    go_wp2_with fail
    go_ret
    exact ⟨Tells.yes ⟨HV.out, rfl, by rw [HDV.out]; exact HNEG.out, by rw [HN0.out]; exact hall.out⟩, hB⟩
 ·rw [decide_eq_false hneg] at he
  subst he
  have HV2 : Hid (¬ FK ny ny N F Bv ny y) := fun h => hneg (by rw [← HDV.out]; exact h.2.2.1)
  clear hneg
  go_wp2_with fail
  go_ret
  exact ⟨Tells.no HV2.out, bel⟩

/- The checker's Linear. -/

/-- The code of Linear, by what holds. -/
def LinCode (V R : Prop) (e : Ending) : Prop := ∃ z : Int, e = .returned (.int .i64 z) ∧ Hid ((¬ V → z = 1) ∧ (V → R → z = 0) ∧ (V → ¬ R → z = 13))

section
variable {m mb nx ny k : Nat} {N : Nat → Nat} {F : Nat → Nat → Rat} {f y Bv : Nat → Rat}

set_option maxHeartbeats 4000000 in
theorem clinear_any (w : World) (vs vx vy : Value) (feas : Bool) (hS : Sys k w vs m mb N F Bv) (hx : Nums k w (fun _ => False) vx nx f) (hy : Nums k w (fun _ => False) vy ny y) (hk1 : 1 ≤ k) (hk : k ≤ 900) :
 Calls Tryz.prog 38 #[vs, .agg #[.bool feas, vx, vy]] w fun e w' => LinCode (VS m mb N) (RS feas m mb N F Bv nx f ny y) e ∧ Below w.heap.size w w' := by
 obtain ⟨A, c, B, d, rfl, hA, hB⟩ := hS
 have HA := Lib.hid hA
 have HB := Lib.hid hB
 have HX := Lib.hid hx
 have HY := Lib.hid hy
 obtain ⟨C, c3, rfl, hx, l3, l4⟩ := hx.op
 obtain ⟨E, c4, rfl, hy, l5, l6⟩ := hy.op
 have L := made1 w #[.slice A m c, .slice B mb d] 73
 have M := made2 w (.cells #[.slice A m c, .slice B mb d] 73) #[.bool feas, .slice C nx c3, .slice E ny c4] 75
 clear hA hB hx hy
 go_enter Tryz.func38, Tryz.ntmps38
 go_wp2_with fail
 refine (csystem_any _ _ _ m mb k N F Bv (Mat.keep HA.out kp) (Nums.keep HB.out kp)).mono ?_
 rintro e w1 ⟨⟨b, rfl, hb⟩, hb1⟩
 obtain ⟨z1, z2⟩ := sz2 hb1
 obtain ⟨e1, f1, -⟩ := L.all (w' := w1)
 obtain ⟨e2, f2, -⟩ := M.all (w' := w1)
 cases b
 ·have HV : Hid (¬ VS m mb N) := fun h => by have := hb.out.2 h; cases this
  clear hb
  go_wp2_with fail
  go_ret
  exact ⟨⟨1, rfl, ⟨fun _ => rfl, fun h => absurd h HV.out, fun h => absurd h HV.out⟩⟩, bel⟩
 have HV : Hid (VS m mb N) := hb.out.1 rfl
 clear hb
 obtain ⟨v1, v2, rfl, v4, v5, v6⟩ := HV.out
 have HN := Lib.hid v6
 clear v6
 cases feas
 ·by_cases h0 : nx ≠ 0
  ·have HR : Hid (¬ RS false mb mb N F Bv nx f ny y) := fun h => by
    rcases h with ⟨h, _⟩ | ⟨_, h, _⟩
    ·cases h
    ·exact h0 h
   have h4 : ((nx : Int) == 0) = false := beq_eq_false_iff_ne.2 (by omega)
   go_wp2_with fail
   go_ret
   exact ⟨⟨13, rfl, ⟨fun h => absurd HV.out h, fun _ h => absurd h HR.out, fun _ _ => rfl⟩⟩, bel⟩
  ·obtain rfl : nx = 0 := Classical.not_not.1 h0
   go_wp2_with fail
   refine (cfarkas_any _ _ _ _ mb ny mb k N F y Bv (Mat.keep HA.out kp) (Nums.keep HB.out kp) (Nums.keep HY.out kp) HV.out hk1 hk).mono ?_
   rintro e w2 ⟨⟨b, rfl, hb⟩, hb2⟩
   have y2 := hb2.size; (try simp only [zs] at y2)
   cases b
   ·have HR : Hid (¬ RS false mb mb N F Bv 0 f ny y) := fun h => by
     rcases h with ⟨h, _⟩ | ⟨_, _, h⟩
     ·cases h
     ·have := hb.out.2 h; cases this
    clear hb
    go_wp2_with fail
    go_ret
    exact ⟨⟨13, rfl, ⟨fun h => absurd HV.out h, fun _ h => absurd h HR.out, fun _ _ => rfl⟩⟩, bel⟩
   ·have HR : Hid (RS false mb mb N F Bv 0 f ny y) := .inr ⟨rfl, rfl, hb.out.1 rfl⟩
    clear hb
    go_wp2_with fail
    go_ret
    exact ⟨⟨0, rfl, ⟨fun h => absurd HV.out h, fun _ _ => rfl, fun _ h => absurd HR.out h⟩⟩, bel⟩
 ·by_cases h0 : ny ≠ 0
  ·have HR : Hid (¬ RS true mb mb N F Bv nx f ny y) := fun h => by
    rcases h with ⟨_, h, _⟩ | ⟨h, _⟩
    ·exact h0 h
    ·cases h
   have h4 : ((ny : Int) == 0) = false := beq_eq_false_iff_ne.2 (by omega)
   go_wp2_with fail
   go_ret
   exact ⟨⟨13, rfl, ⟨fun h => absurd HV.out h, fun _ h => absurd h HR.out, fun _ _ => rfl⟩⟩, bel⟩
  ·obtain rfl : ny = 0 := Classical.not_not.1 h0
   go_wp2_with fail
   refine (cpoint_any _ _ _ _ mb nx mb k N F f Bv (Mat.keep HA.out kp) (Nums.keep HX.out kp) (Nums.keep HB.out kp) v1 v2 v5 HN.out (Nat.le_refl _) hk1 hk).mono ?_
   rintro e w2 ⟨⟨b, rfl, hb⟩, hb2⟩
   have y2 := hb2.size; (try simp only [zs] at y2)
   obtain ⟨e3, f3, -⟩ := M.all (w' := w2)
   cases b
   ·have HR : Hid (¬ RS true mb mb N F Bv nx f 0 y) := fun h => by
     rcases h with ⟨_, _, h⟩ | ⟨h, _⟩
     ·have := hb.out.2 h.2; cases this
     ·cases h
    clear hb
    go_wp2_with fail
    go_ret
    exact ⟨⟨13, rfl, ⟨fun h => absurd HV.out h, fun _ h => absurd h HR.out, fun _ _ => rfl⟩⟩, bel⟩
   ·have HR : Hid (RS true mb mb N F Bv nx f 0 y) := .inl ⟨rfl, rfl, HV.out, hb.out.1 rfl⟩
    clear hb
    go_wp2_with fail
    go_ret
    exact ⟨⟨0, rfl, ⟨fun h => absurd HV.out h, fun _ _ => rfl, fun _ h => absurd HR.out h⟩⟩, bel⟩
end

/- Layer 8's law: raw lists of fractions; numbers. -/

def RF.q (e : RF) : Rat := rv e.n1 e.xs e.n2 e.ys
/-- The values of a list of raw fractions. -/
def qs (l : List RF) : Nat → Rat := fun i => match l[i]? with
 | some e => e.q
 | none => 0
/-- At most two words in each part. -/
def RF.few (e : RF) : Prop := e.xs.length ≤ 2 ∧ e.ys.length ≤ 2
theorem qs_get {l : List RF} {i : Nat} {e : RF} (h : l[i]? = some e) : qs l i = e.q := by unfold qs; rw [h]

section
variable {w w' : World} {X : Nat → Prop} {v : Value} {l : List RF} {k : Nat}
theorem RatAt.keep {a : Addr} {e : RF} (h : RatAt w X a e) (ha : a.block < w.heap.size) (hx : ¬ X a.block) (hk : Keep X w w') : RatAt w' X a e := by
 obtain ⟨C, c, D, d, h0, h1, h2, h3, h4⟩ := h
 exact ⟨C, c, D, d, cell_keep h0 ha hx hk, cell_keep h1 (by rw [addr_block]; exact ha) (by rw [addr_block]; exact hx) hk, cell_keep h2 (by rw [addr_block]; exact ha) (by rw [addr_block]; exact hx) hk, cell_keep h3 (by rw [addr_block]; exact ha) (by rw [addr_block]; exact hx) hk, h4.keep hk⟩
theorem Rats.keep (h : Rats w (fun _ => False) v l) (hk : Keep (fun _ => False) w w') : Rats w' (fun _ => False) v l := by
 obtain ⟨A, cap, hv, h1, h2, h3⟩ := h
 refine ⟨A, cap, hv, h1, h2, fun hn => ?_⟩
 obtain ⟨a, ha, hb, hc⟩ := h3 hn
 exact ⟨a, ha, Nat.lt_of_lt_of_le hb hk.size, fun i e he => (hc i e he).keep (by rw [addr_block]; exact hb) id hk⟩
theorem Rats.op (h : Rats w X v l) : ∃ (A : Option Addr) (cap : Nat), v = .slice A l.length cap ∧ Rats w X (.slice A l.length cap) l ∧ l.length ≤ cap ∧ cap ≤ maxLen := by
 have h0 := h
 obtain ⟨A, cap, rfl, h1, h2, -⟩ := h
 exact ⟨A, cap, rfl, h0, h1, h2⟩
theorem Rats.at {A : Option Addr} {n cap : Nat} (h : Rats w X (.slice A n cap) l) {i : Nat} {e : RF} (he : l[i]? = some e) : ∃ a : Addr, A = some a ∧ a.block < w.heap.size ∧ RatAt w X (a.add (i * 4)) e := by
 obtain ⟨A', cap', hv, h1, h2, h3⟩ := h
 injection hv with e1 e2 e3
 subst e1
 obtain ⟨a, ha, hb, hc⟩ := h3 (by have := (List.getElem?_eq_some_iff.1 he).1; omega)
 exact ⟨a, ha, hb, hc i e he⟩
/-- A list of short numbers is a list of numbers. -/
theorem Rats.nums (h : Rats w (fun _ => False) v l) (hf : ∀ (i : Nat) (e : RF), l[i]? = some e → e.few) : Nums 2 w (fun _ => False) v l.length (qs l) := by
 obtain ⟨A, cap, rfl, h1, h2, h3⟩ := h
 have key : ∀ i, i < l.length → ∃ r : R4, (∀ a, A = some a → w.cell? (a.add (i * 4)) = some (.bool r.b) ∧ w.cell? ((a.add (i * 4)).add 1) = some (.slice r.A r.m r.c) ∧ w.cell? ((a.add (i * 4)).add 2) = some (.bool r.b') ∧ w.cell? ((a.add (i * 4)).add 3) = some (.slice r.A' r.m' r.c')) ∧ RatL 2 w (fun _ => False) r.v (qs l i) := fun i hi => by
  have he := List.getElem?_eq_getElem hi
  obtain ⟨a, ha, hb, hc⟩ := h3 (by omega)
  obtain ⟨C, c, D, d, c0, c1, c2, c3, hr⟩ := hc i _ he
  have hw := hf i _ he
  refine ⟨⟨l[i].n1, C, l[i].xs.length, c, l[i].n2, D, l[i].ys.length, d⟩, fun a' ha' => ?_, ?_⟩
  ·rw [ha] at ha'; injection ha' with ha'; subst ha'
   exact ⟨c0, c1, c2, c3⟩
  ·exact ⟨l[i].n1, l[i].xs, l[i].n2, l[i].ys, hr, hw.1, hw.2, (qs_get he).symm⟩
 obtain ⟨rs, hl, hp⟩ := list_of _ l.length key
 refine ⟨rs, A, cap, hl, rfl, h1, h2, fun hn => ?_, fun i r hr => (hp i r hr).2⟩
 obtain ⟨a, ha, hb, -⟩ := h3 hn
 exact ⟨a, ha, hb, id, fun i r hr => (hp i r hr).1 a ha⟩
end
end Go.Proofs.YtbdcjhoedhhabaaGreat

/- Arguments opened: a list of lists of fractions, a system, a problem, a result, an optimum, two bytes. -/
namespace Go.Proofs.YtbdcjhoedhhabaaGreat
open Go.ChangeShapes Go.WideShapes Go.ChangeAt Go.RowKit Go.Joins

theorem cellsRats : Tryz.prog.cellsOf 71 = 1 := by kernel_rfl

theorem cellsMat : Tryz.prog.cellsOf 70 = 1 := by kernel_rfl

theorem cellsSys : Tryz.prog.cellsOf 73 = 2 := by kernel_rfl

theorem cellsRes : Tryz.prog.cellsOf 75 = 3 := by kernel_rfl

/-- A list of lists of raw fractions. -/
def RMat (w : World) (v : Value) (L : List (List RF)) : Prop :=
 ∃ A cap, v = .slice A L.length cap ∧ L.length ≤ cap ∧ cap ≤ maxLen ∧ (L.length ≠ 0 → ∃ a, A = some a ∧ a.block < w.heap.size ∧ ∀ i l, L[i]? = some l → ∃ B c, w.cell? (a.add i) = some (.slice B l.length c) ∧ Rats w (fun _ => False) (.slice B l.length c) l)

def qm (L : List (List RF)) : Nat → Nat → Rat := fun i => match L[i]? with
 | some l => qs l
 | none => fun _ => 0
def lens (L : List (List RF)) : Nat → Nat := fun i => match L[i]? with
 | some l => l.length
 | none => 0

theorem qm_get {L : List (List RF)} {i : Nat} {l : List RF} (h : L[i]? = some l) : qm L i = qs l := by unfold qm; rw [h]

theorem lens_get {L : List (List RF)} {i : Nat} {l : List RF} (h : L[i]? = some l) : lens L i = l.length := by unfold lens; rw [h]

section
variable {w w' : World} {v : Value} {L : List (List RF)}

theorem RMat.keep (h : RMat w v L) (hk : Keep (fun _ => False) w w') : RMat w' v L := by
 obtain ⟨A, cap, hv, h1, h2, h3⟩ := h
 refine ⟨A, cap, hv, h1, h2, fun hn => ?_⟩
 obtain ⟨a, ha, hb, hc⟩ := h3 hn
 refine ⟨a, ha, Nat.lt_of_lt_of_le hb hk.size, fun i l hl => ?_⟩
 obtain ⟨B, c, h4, h5⟩ := hc i l hl
 exact ⟨B, c, cell_keep h4 (by rw [addr_block]; exact hb) id hk, h5.keep hk⟩

theorem RMat.op (h : RMat w v L) : ∃ (A : Option Addr) (cap : Nat), v = .slice A L.length cap ∧ RMat w (.slice A L.length cap) L ∧ L.length ≤ cap ∧ cap ≤ maxLen := by
 have h0 := h
 obtain ⟨A, cap, rfl, h1, h2, -⟩ := h
 exact ⟨A, cap, rfl, h0, h1, h2⟩

theorem RMat.at {A : Option Addr} {n cap : Nat} (h : RMat w (.slice A n cap) L) {i : Nat} {l : List RF} (he : L[i]? = some l) : ∃ (a : Addr) (B : Option Addr) (c : Nat), A = some a ∧ a.block < w.heap.size ∧ w.cell? (a.add i) = some (.slice B l.length c) ∧ Rats w (fun _ => False) (.slice B l.length c) l ∧ l.length ≤ c ∧ c ≤ maxLen := by
 obtain ⟨A', cap', hv, h1, h2, h3⟩ := h
 injection hv with e1 e2 e3
 subst e1
 obtain ⟨a, ha, hb, hc⟩ := h3 (by have := (List.getElem?_eq_some_iff.1 he).1; omega)
 obtain ⟨B, c, h4, h5⟩ := hc i l he
 obtain ⟨A2, c2, h6, -, h7, h8⟩ := h5.op
 injection h6 with e1 e2 e3
 subst e1 e3
 exact ⟨a, B, c, ha, hb, h4, h5, h7, h8⟩

theorem RMat.mat (h : RMat w v L) (hf : ∀ (i : Nat) (l : List RF), L[i]? = some l → ∀ (j : Nat) (e : RF), l[j]? = some e → e.few) : Mat 2 w (fun _ => False) v L.length (lens L) (qm L) := by
 obtain ⟨A, cap, rfl, h1, h2, h3⟩ := h
 have key : ∀ i, i < L.length → ∃ u : Value, (∀ a, A = some a → w.cell? (a.add i) = some u) ∧ Nums 2 w (fun _ => False) u (lens L i) (qm L i) := fun i hi => by
  have he := List.getElem?_eq_getElem hi
  obtain ⟨a, ha, hb, hc⟩ := h3 (by omega)
  obtain ⟨B, c, h4, h5⟩ := hc i _ he
  refine ⟨.slice B L[i].length c, fun a' ha' => ?_, ?_⟩
  ·rw [ha] at ha'; injection ha' with ha'; subst ha'
   exact h4
  ·rw [lens_get he, qm_get he]
   exact h5.nums (hf i _ he)
 obtain ⟨us, hl, hp⟩ := list_of _ L.length key
 refine ⟨us, A, cap, hl, rfl, h1, h2, fun hn => ?_, fun i u hu => (hp i u hu).2⟩
 obtain ⟨a, ha, hb, -⟩ := h3 hn
 exact ⟨a, ha, hb, id, fun i u hu => (hp i u hu).1 a ha⟩
end

set_option maxRecDepth 100000 in
theorem open_RMat {H : Type} {enc : TypeId × Value → H} {W : World} {base : Nat} {fuel : Nat} {v : Value} {x : DataW H × List MemPlace}
 (h : DataW.trod enc Tryz.prog W base (fun _ => true) true fuel 70 [v] = some x) : ∃ L, RMat W v L := by
 rcases DataW.trod_slice Tryz.underlying70 h with ⟨hcs, _⟩ | ⟨a, len, cap, elems, rest, n, _, hcs, _, hb, hl, hm, hlen, hel, _⟩
 ·simp at hcs
  subst hcs
  exact ⟨[], none, 0, rfl, Nat.le_refl _, Nat.zero_le _, fun h => absurd rfl h⟩
 ·simp at hcs
  subst hcs
  have key : ∀ i, i < len → ∃ l, (∃ B c, W.cell? (a.add i) = some (.slice B l.length c) ∧ Rats W (fun _ => False) (.slice B l.length c) l) ∧ a.block < W.heap.size := fun i hi => by
   have hq := hel i hi
   rw [cellsRats, List.getElem?_eq_getElem (l := elems) (i := i) (by omega), Option.bind_eq_some_iff, Nat.mul_one] at hq
   obtain ⟨cs, hcs, ht⟩ := hq
   obtain ⟨_, hn, hc⟩ := World.cells?_some hcs
   match cs, hn with
   | [c0], _ =>
     obtain ⟨l, hr⟩ := open_Rats ht
     have hbl0 := World.cells?_block hcs (show 0 < 1 by decide)
     have hbl : a.block < W.heap.size := by rw [add_block] at hbl0; exact hbl0
     obtain ⟨B, c, e, hr2, -, -⟩ := hr.op
     have h0 := hc 0 (by decide)
     rw [addr_zero] at h0
     refine ⟨l, ⟨B, c, ?_, hr2⟩, hbl⟩
     rw [← e]; exact h0
  obtain ⟨L, hl', hp⟩ := list_of _ len (fun i hi => key i hi)
  subst hl'
  refine ⟨L, some a, cap, rfl, hl, hm, fun hz => ⟨a, rfl, ?_, fun i e he => (hp i e he).1⟩⟩
  obtain ⟨e, he⟩ := key 0 (by omega)
  exact he.2

set_option maxRecDepth 100000 in
theorem open_SysC {H : Type} {enc : TypeId × Value → H} {W : World} {base fuel : Nat} {c0 c1 : Value} {x : DataW H × List MemPlace}
 (h : DataW.trod enc Tryz.prog W base (fun _ => true) true fuel 73 [c0, c1] = some x) : ∃ L l, RMat W c0 L ∧ Rats W (fun _ => False) c1 l := by
 obtain ⟨xs, n, _, _, _, hlen, hg⟩ := DataW.trod_struct Tryz.underlying73 h
 match xs, hlen with
 | [y0, y1], _ =>
   have g0 : DataW.trod enc Tryz.prog W base (fun _ => true) true n 70 (([c0, c1].drop 0).take (Tryz.prog.cellsOf 70)) = [y0, y1][0]? := hg 0 _ rfl
   have g1 : DataW.trod enc Tryz.prog W base (fun _ => true) true n 71 (([c0, c1].drop 1).take (Tryz.prog.cellsOf 71)) = [y0, y1][1]? := hg 1 _ rfl
   rw [cellsMat] at g0
   rw [cellsRats] at g1
   have h0 : DataW.trod enc Tryz.prog W base (fun _ => true) true n 70 [c0] = some y0 := g0
   have h1 : DataW.trod enc Tryz.prog W base (fun _ => true) true n 71 [c1] = some y1 := g1
   obtain ⟨L, h2⟩ := open_RMat h0
   obtain ⟨l, h3⟩ := open_Rats h1
   exact ⟨L, l, h2, h3⟩

set_option maxRecDepth 100000 in
theorem open_System {H : Type} {enc : TypeId × Value → H} {W : World} {base : Nat} {r : Reach} {b0 : Nat} {v : Value} {d : DataW H} {p : List MemPlace}
 (hv : Value.okWide Tryz.prog W r b0 73 v) (h : DataW.Trod enc Tryz.prog W base (fun _ => true) true 73 v d p) : ∃ v0 v1 L l, v = .agg #[v0, v1] ∧ RMat W v0 L ∧ Rats W (fun _ => False) v1 l := by
 obtain ⟨cs, rfl, hsz⟩ := okWide_struct Tryz.underlying73 hv
 obtain ⟨l⟩ := cs
 match l, hsz.trans cellsSys with
 | [c0, c1], _ =>
   obtain ⟨fuel, hf⟩ := h
   obtain ⟨L, l, h2, h3⟩ := open_SysC hf
   exact ⟨c0, c1, L, l, rfl, h2, h3⟩

set_option maxRecDepth 100000 in
theorem open_Result {H : Type} {enc : TypeId × Value → H} {W : World} {base : Nat} {r : Reach} {b0 : Nat} {v : Value} {d : DataW H} {p : List MemPlace}
 (hv : Value.okWide Tryz.prog W r b0 75 v) (h : DataW.Trod enc Tryz.prog W base (fun _ => true) true 75 v d p) : ∃ b v1 v2 lx ly, v = .agg #[.bool b, v1, v2] ∧ Rats W (fun _ => False) v1 lx ∧ Rats W (fun _ => False) v2 ly := by
 obtain ⟨cs, rfl, hsz⟩ := okWide_struct Tryz.underlying75 hv
 obtain ⟨l⟩ := cs
 match l, hsz.trans cellsRes with
 | [c0, c1, c2], _ =>
   obtain ⟨fuel, hf⟩ := h
   obtain ⟨xs, n, _, _, _, hlen, hg⟩ := DataW.trod_struct Tryz.underlying75 hf
   match xs, hlen with
   | [y0, y1, y2], _ =>
     have g0 : DataW.trod enc Tryz.prog W base (fun _ => true) true n 4 (([c0, c1, c2].drop 0).take (Tryz.prog.cellsOf 4)) = [y0, y1, y2][0]? := hg 0 _ rfl
     have g1 : DataW.trod enc Tryz.prog W base (fun _ => true) true n 71 (([c0, c1, c2].drop 1).take (Tryz.prog.cellsOf 71)) = [y0, y1, y2][1]? := hg 1 _ rfl
     have g2 : DataW.trod enc Tryz.prog W base (fun _ => true) true n 71 (([c0, c1, c2].drop 2).take (Tryz.prog.cellsOf 71)) = [y0, y1, y2][2]? := hg 2 _ rfl
     rw [cellsBool] at g0
     rw [cellsRats] at g1 g2
     have h0 : DataW.trod enc Tryz.prog W base (fun _ => true) true n 4 [c0] = some y0 := g0
     have h1 : DataW.trod enc Tryz.prog W base (fun _ => true) true n 71 [c1] = some y1 := g1
     have h2 : DataW.trod enc Tryz.prog W base (fun _ => true) true n 71 [c2] = some y2 := g2
     obtain ⟨b, e, _⟩ := DataW.trod_bool Tryz.underlying4 h0
     simp at e
     subst e
     obtain ⟨lx, h3⟩ := open_Rats h1
     obtain ⟨ly, h4⟩ := open_Rats h2
     exact ⟨b, c1, c2, lx, ly, rfl, h3, h4⟩
end Go.Proofs.YtbdcjhoedhhabaaGreat

