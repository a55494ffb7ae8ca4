/- Contracts of the functions that the statements reach, part 45. -/
import Derived.Test.YtdambnieminnfaaGreatRows
import Derived.Test.YtdambnieminnfaaGreatX44
set_option linter.unusedSimpArgs false
set_option linter.unusedVariables false

/- A channel observed through another one, plainly. -/
namespace Go.Proofs.YtdambnieminnfaaGreat

/-- A sum of integers. -/
def isg : Nat → (Nat → Int) → Int
 | 0, _ => 0
 | n + 1, f => isg n f + f n
theorem isg_congr {f g : Nat → Int} : ∀ n, (∀ i, i < n → f i = g i) → isg n f = isg n g
 | 0, _ => rfl
 | n + 1, h => by simp only [isg]; rw [isg_congr n (fun i hi => h i (by omega)), h n (by omega)]
theorem isg_first (f : Nat → Int) : ∀ n, isg (n + 1) f = f 0 + isg n (fun i => f (i + 1))
 | 0 => by simp [isg]
 | n + 1 => by
   have := isg_first f n
   rw [show isg (n + 1 + 1) f = isg (n + 1) f + f (n + 1) from rfl, this]
   show _ = f 0 + (isg n (fun i => f (i + 1)) + f (n + 1))
   omega
theorem isum_isg : ∀ (l : List Int), isum l = isg l.length (fun i => l.getD i 0)
 | [] => rfl
 | z :: l => by
   rw [List.length_cons, isg_first]
   simp only [isum]
   rw [isum_isg l]
   rfl
theorem isum_range (f : Nat → Int) (n : Nat) : isum ((List.range n).map f) = isg n f := by
 rw [isum_isg, List.length_map, List.length_range]
 refine isg_congr n (fun i hi => ?_)
 rw [List.getD_eq_getElem?_getD, List.getElem?_map, List.getElem?_range hi]
 rfl
theorem isg_add (f g : Nat → Int) : ∀ n, isg n (fun i => f i + g i) = isg n f + isg n g
 | 0 => rfl
 | n + 1 => by simp only [isg]; rw [isg_add f g n]; omega
theorem isg_mul (c : Int) (f : Nat → Int) : ∀ n, isg n (fun i => c * f i) = c * isg n f
 | 0 => by simp [isg]
 | n + 1 => by simp only [isg]; rw [isg_mul c f n, Int.mul_add]
theorem isg_zero : ∀ n, isg n (fun _ => 0) = 0
 | 0 => rfl
 | n + 1 => by simp only [isg]; rw [isg_zero n]; rfl
theorem isg_swap (f : Nat → Nat → Int) (n : Nat) : ∀ m, isg m (fun i => isg n (f i)) = isg n (fun j => isg m (fun i => f i j))
 | 0 => (isg_zero n).symm
 | m + 1 => by
   show isg m (fun i => isg n (f i)) + isg n (f m) = _
   rw [isg_swap f n m, ← isg_add]
   rfl
theorem isg_bound {f : Nat → Int} {B : Int} : ∀ n, (∀ i, i < n → 0 ≤ f i ∧ f i ≤ B) → 0 ≤ isg n f ∧ isg n f ≤ n * B
 | 0, _ => by simp [isg]
 | n + 1, h => by
   have := isg_bound n (fun i hi => h i (by omega))
   have := h n (by omega)
   simp only [isg]
   have e : ((n + 1 : Nat) : Int) * B = n * B + B := by rw [Int.natCast_add, Int.add_mul]; simp
   omega
theorem isg_le {f : Nat → Int} : ∀ n, (∀ i, i < n → 0 ≤ f i) → ∀ i, i < n → f i ≤ isg n f
 | 0, _, i, hi => absurd hi (by omega)
 | n + 1, h, i, hi => by
   have h0 : 0 ≤ isg n f := by
    clear hi
    induction n with
    | zero => simp [isg]
    | succ n ih =>
      have := ih (fun i hi => h i (by omega))
      have := h n (by omega)
      simp only [isg]
      omega
   simp only [isg]
   by_cases e : i = n
   ·subst e; omega
   ·have := isg_le n (fun i hi => h i (by omega)) i (by omega)
    have := h n (by omega)
    omega
theorem isg_sm (f : Nat → Int) : ∀ n, ((isg n f : Int) : Rat) = sm n (fun i => ((f i : Int) : Rat))
 | 0 => rfl
 | n + 1 => by rw [sm_succ, ← isg_sm f n, ← Rat.intCast_add]; rfl
theorem rsumA_of : ∀ (l : List Int) (t : Int), (∀ z ∈ l, 0 ≤ z) → t + isum l ≤ 1048576 → rsumA t l = t + isum l
 | [], t, _, _ => by simp [rsumA, isum]
 | z :: l, t, h, hs => by
   have h0 : ∀ l : List Int, (∀ z ∈ l, 0 ≤ z) → 0 ≤ isum l := by
    intro l hl
    induction l with
    | nil => simp [isum]
    | cons z l ih =>
      have := ih (fun y hy => hl y (List.mem_cons_of_mem _ hy))
      have := hl z (List.mem_cons_self)
      simp only [isum]
      omega
   have h1 := h0 l (fun y hy => h y (List.mem_cons_of_mem _ hy))
   have h2 := h z (List.mem_cons_self)
   simp only [isum] at hs
   unfold rsumA
   rw [if_neg (by omega), rsumA_of l (t + z) (fun y hy => h y (List.mem_cons_of_mem _ hy)) (by omega)]
   simp only [isum]
   omega
theorem vc_isum {L : List (List Int)} (h : VC L) {x : Nat} (hx : x < L.length) : isg (wid L) (fun y => en L x y) = tot L := by
 have hl := List.getElem?_eq_getElem hx
 have hm : L.getD x [] ∈ L := getD_mem hx
 obtain ⟨a, b⟩ := h.2.2.2.2.2 _ hm
 obtain ⟨-, c, -⟩ := rsumA_ok (L.getD x []) 0 (by decide) (by decide) (by rw [b]; have := h.tot; unfold tot at this; omega)
 unfold tot
 rw [← b, c, Int.zero_add, isum_isg, a]
 rfl
/-- The channel that observes one through another. -/
def cas (L1 L2 : List (List Int)) : List (List Int) := (List.range L1.length).map fun x => (List.range (wid L2)).map fun z => isg L2.length (fun y => en L1 x y * en L2 y z)
theorem cas_len (L1 L2 : List (List Int)) : (cas L1 L2).length = L1.length := by simp [cas]
theorem cas_get {L1 L2 : List (List Int)} {x : Nat} (hx : x < L1.length) : (cas L1 L2)[x]? = some ((List.range (wid L2)).map fun z => isg L2.length (fun y => en L1 x y * en L2 y z)) := by
 unfold cas
 rw [List.getElem?_map, List.getElem?_range hx]
 rfl
theorem cas_getD {L1 L2 : List (List Int)} {x : Nat} (hx : x < L1.length) : (cas L1 L2).getD x [] = ((List.range (wid L2)).map fun z => isg L2.length (fun y => en L1 x y * en L2 y z)) := by
 rw [List.getD_eq_getElem?_getD, cas_get hx]; rfl
theorem cas_en {L1 L2 : List (List Int)} {x z : Nat} (hx : x < L1.length) (hz : z < wid L2) : en (cas L1 L2) x z = isg L2.length (fun y => en L1 x y * en L2 y z) := by
 unfold en
 rw [cas_getD hx, List.getD_eq_getElem?_getD, List.getElem?_map, List.getElem?_range hz]
 rfl
theorem sm_en {L : List (List Int)} (h : SM L) {x y : Nat} (hx : x < L.length) (hy : y < wid L) : 0 ≤ en L x y ∧ en L x y ≤ 1024 := by
 obtain ⟨l, hl, he, h0, h1⟩ := h.2.1.en hx hy
 have hs := vc_isum h.2.1 hx
 have := isg_le (f := fun y => en L x y) (wid L) (fun i hi => (h.2.1.en hx hi).choose_spec.2.2.1) y hy
 have := h.2.2.2.2
 omega
section
variable {L1 L2 : List (List Int)}
theorem cas_row (h1 : SM L1) (h2 : SM L2) (hw : wid L1 = L2.length) {x : Nat} (hx : x < L1.length) : isg (wid L2) (fun z => isg L2.length (fun y => en L1 x y * en L2 y z)) = tot L1 * tot L2 := by
 rw [isg_swap (fun z y => en L1 x y * en L2 y z), isg_congr (g := fun y => tot L2 * en L1 x y) L2.length (fun y hy => by rw [isg_mul, vc_isum h2.2.1 hy, Int.mul_comm]), isg_mul, ← hw, vc_isum h1.2.1 hx, Int.mul_comm]
theorem cas_non (h1 : SM L1) (h2 : SM L2) (hw : wid L1 = L2.length) {x z : Nat} (hx : x < L1.length) (hz : z < wid L2) : 0 ≤ isg L2.length (fun y => en L1 x y * en L2 y z) :=
 (isg_bound (B := 1048576) L2.length (fun y hy => by
  obtain ⟨a, b⟩ := sm_en h1 hx (by rw [hw]; exact hy : y < wid L1)
  obtain ⟨c, d⟩ := sm_en h2 hy hz
  have := Int.mul_nonneg a c
  have := Int.mul_le_mul b d c (by decide)
  omega)).1
theorem cas_rsum (h1 : SM L1) (h2 : SM L2) (hw : wid L1 = L2.length) {x : Nat} (hx : x < L1.length) : rsumA 0 ((List.range (wid L2)).map fun z => isg L2.length (fun y => en L1 x y * en L2 y z)) = tot L1 * tot L2 := by
 have e := isum_range (fun z => isg L2.length (fun y => en L1 x y * en L2 y z)) (wid L2)
 rw [cas_row h1 h2 hw hx] at e
 have a := h1.2.2.2.2
 have b := h2.2.2.2.2
 have a0 := h1.2.1.tot.1
 have b0 := h2.2.1.tot.1
 have := Int.mul_le_mul a b (by omega) (by decide)
 rw [rsumA_of _ _ (fun z hz => ?_) (by rw [e]; omega), e, Int.zero_add]
 obtain ⟨i, hi, rfl⟩ := List.mem_map.1 hz
 exact cas_non h1 h2 hw hx (List.mem_range.1 hi)
theorem cas_wid (h1 : SM L1) : wid (cas L1 L2) = wid L2 := by
 have h := h1.2.1.1
 have e : wid (cas L1 L2) = ((cas L1 L2).getD 0 []).length := rfl
 rw [e, cas_getD (by omega), List.length_map, List.length_range]
theorem cas_tot (h1 : SM L1) (h2 : SM L2) (hw : wid L1 = L2.length) : tot (cas L1 L2) = tot L1 * tot L2 := by
 have h := h1.2.1.1
 have e : tot (cas L1 L2) = rsumA 0 ((cas L1 L2).getD 0 []) := rfl
 rw [e, cas_getD (by omega), cas_rsum h1 h2 hw (by omega)]
theorem cas_vc (h1 : SM L1) (h2 : SM L2) (hw : wid L1 = L2.length) : VC (cas L1 L2) := by
 have h := h1.2.1.1
 have hc := cas_len L1 L2
 have a0 := h1.2.1.tot.1
 have b0 := h2.2.1.tot.1
 have e1 : ((cas L1 L2).getD 0 []).length = wid L2 := cas_wid h1
 have e2 : rsumA 0 ((cas L1 L2).getD 0 []) = tot L1 * tot L2 := cas_tot h1 h2 hw
 have hp : 1 * 1 ≤ tot L1 * tot L2 := Int.mul_le_mul a0 b0 (by decide) (by omega)
 refine ⟨by omega, by rw [hc]; exact h1.2.1.2.1, by rw [e1]; exact h2.2.1.2.2.1, by rw [e1]; exact h2.2.1.2.2.2.1, by rw [e2]; omega, fun l hl => ?_⟩
 obtain ⟨x, hx, rfl⟩ := List.mem_map.1 hl
 rw [e1, e2, cas_rsum h1 h2 hw (List.mem_range.1 hx)]
 simp
theorem cas_few (h1 : SM L1) (h2 : SM L2) : Few40 (cas L1 L2) := by
 refine ⟨by rw [cas_len]; exact h1.1.1, fun l hl => ?_⟩
 obtain ⟨x, hx, rfl⟩ := List.mem_map.1 hl
 rw [List.length_map, List.length_range]
 exact h2.1.wd
theorem cas_wit (h1 : SM L1) (h2 : SM L2) (hw : wid L1 = L2.length) : WIT L1 (cas L1 L2) (wid L1) (fun _ => wid (cas L1 L2)) (fun y z => ce L2 y z / ((tot L2 : Int) : Rat)) := by
 have ht := vc_tot_pos h2.2.1
 have hne : ((tot L2 : Int) : Rat) ≠ 0 := by grind
 refine wit_in h1.2.1 (cas_vc h1 h2 hw) (cas_len _ _).symm ⟨fun y hy z hz => ?_, fun y hy => ?_, fun x hx z hz => ?_⟩
 ·rw [cas_wid h1] at hz
  obtain ⟨e, he, h0, -⟩ := h2.2.1.entry y z (by omega) hz
  rw [he]
  have : (0 : Rat) ≤ (e : Rat) := Rat.intCast_nonneg.2 h0
  rw [Rat.div_def]
  exact Rat.mul_nonneg this (by
   have := Rat.inv_pos.2 ht
   grind)
 ·rw [cas_wid h1]
  have e := h2.2.1.chan.row y (by omega)
  rw [sm_congr (g := fun z => ce L2 y z * ((tot L2 : Int) : Rat)⁻¹) (fun z _ => by rw [Rat.div_def]), sm_mul_right]
  have e2 : sm (wid L2) (fun i => ce L2 y i) = ((tot L2 : Int) : Rat) := e
  rw [e2]
  exact Rat.mul_inv_cancel _ hne
 ·rw [cas_wid h1] at hz
  rw [cas_tot h1 h2 hw, Rat.intCast_mul]
  have e : ce (cas L1 L2) x z = sm (wid L1) (fun y => ce L1 x y * ce L2 y z) := by
   have e1 : ce (cas L1 L2) x z = ((en (cas L1 L2) x z : Int) : Rat) := rfl
   rw [e1, cas_en hx hz, isg_sm, ← hw]
   exact sm_congr (fun y _ => by rw [Rat.intCast_mul]; rfl)
  rw [e, sm_congr (g := fun y => (ce L1 x y * ce L2 y z) * ((tot L2 : Int) : Rat)⁻¹) (fun y _ => by rw [Rat.div_def]; grind), sm_mul_right]
  have := Rat.mul_inv_cancel _ hne
  grind
end
end Go.Proofs.YtdambnieminnfaaGreat

/- The law's side of layer 40: cascade. -/
namespace Go.Proofs.YtdambnieminnfaaGreat
open Go.RowKit
attribute [local go_sem ↓] Go.wp_at_zero Go.wp_at_succ

/-- A row of the cascade, its sums taken as far as k, those before z as far as k + 1. -/
def casP (L1 L2 : List (List Int)) (x k z : Nat) : List Int := (List.range (wid L2)).map fun z' => isg (if z' < z then k + 1 else k) (fun y => en L1 x y * en L2 y z')
theorem casP_len (L1 L2 : List (List Int)) (x k z : Nat) : (casP L1 L2 x k z).length = wid L2 := by simp [casP]
theorem casP_get {L1 L2 : List (List Int)} {x k z i : Nat} (hi : i < wid L2) : (casP L1 L2 x k z)[i]? = some (isg (if i < z then k + 1 else k) (fun y => en L1 x y * en L2 y i)) := by
 unfold casP
 rw [List.getElem?_map, List.getElem?_range hi]
 rfl
theorem casP_start (L1 L2 : List (List Int)) (x : Nat) : casP L1 L2 x 0 0 = List.replicate (wid L2) 0 := by
 apply List.ext_getElem?
 intro i
 by_cases hi : i < wid L2
 ·rw [casP_get hi, List.getElem?_replicate, if_pos hi]; rfl
 ·rw [List.getElem?_eq_none (by rw [casP_len]; omega), List.getElem?_eq_none (by simp; omega)]
theorem casP_next (L1 L2 : List (List Int)) (x k : Nat) : casP L1 L2 x k (wid L2) = casP L1 L2 x (k + 1) 0 := by
 apply List.ext_getElem?
 intro i
 by_cases hi : i < wid L2
 ·rw [casP_get hi, casP_get hi, if_pos hi, if_neg (by omega)]
 ·rw [List.getElem?_eq_none (by rw [casP_len]; omega), List.getElem?_eq_none (by rw [casP_len]; omega)]
theorem casP_set {L1 L2 : List (List Int)} {x k z : Nat} (hz : z < wid L2) {v : Int} (hv : v = isg k (fun y => en L1 x y * en L2 y z) + en L1 x k * en L2 k z) : (casP L1 L2 x k z).set z v = casP L1 L2 x k (z + 1) := by
 apply List.ext_getElem?
 intro i
 by_cases hi : i < wid L2
 ·by_cases e : i = z
  ·subst e
   rw [List.getElem?_set_self (by rw [casP_len]; exact hi), casP_get hi, if_pos (by omega), hv]
   rfl
  ·rw [List.getElem?_set_ne (fun h => e h.symm), casP_get hi, casP_get hi]
   by_cases h : i < z
   ·rw [if_pos h, if_pos (by omega)]
   ·rw [if_neg h, if_neg (by omega)]
 ·rw [List.getElem?_eq_none (by rw [List.length_set, casP_len]; omega), List.getElem?_eq_none (by rw [casP_len]; omega)]
theorem casP_end {L1 L2 : List (List Int)} {x : Nat} (hx : x < L1.length) : (cas L1 L2)[x]? = some (casP L1 L2 x L2.length 0) := by
 rw [cas_get hx]
 unfold casP
 congr 1
theorem casP_bound {L1 L2 : List (List Int)} (h1 : SM L1) (h2 : SM L2) (hw : wid L1 = L2.length) {x k z : Nat} (hx : x < L1.length) (hz : z < wid L2) (hk : k ≤ L2.length) : 0 ≤ isg k (fun y => en L1 x y * en L2 y z) ∧ isg k (fun y => en L1 x y * en L2 y z) ≤ 4194304 := by
 have hl := h2.2.2.1
 have := isg_bound (f := fun y => en L1 x y * en L2 y z) (B := 1048576) k (fun y hy => by
  obtain ⟨a, b⟩ := sm_en h1 hx (by rw [hw]; omega : y < wid L1)
  obtain ⟨c, d⟩ := sm_en h2 (by omega : y < L2.length) hz
  have := Int.mul_nonneg a c
  have := Int.mul_le_mul b d c (by decide)
  omega)
 omega
theorem mul_small {a b : Int} (ha : 0 ≤ a ∧ a ≤ 1024) (hb : 0 ≤ b ∧ b ≤ 1024) : 0 ≤ a * b ∧ a * b ≤ 1048576 := by
 have h1 := Int.mul_nonneg ha.1 hb.1
 have h2 := Int.mul_le_mul ha.2 hb.2 hb.1 (by decide)
 omega

set_option maxRecDepth 100000 in
set_option maxHeartbeats 16000000 in
theorem cascade_any (w : World) (v1 v2 : Value) (L1 L2 : List (List Int)) (h1 : IMat w v1 L1) (h2 : IMat w v2 L2) (s1 : SM L1) (s2 : SM L2) (hw12 : wid L1 = L2.length) :
 Calls Tryz.prog 25 #[.agg #[v1], .agg #[v2]] w fun e w' => ∃ v', e = .returned (.agg #[v']) ∧ Hid (IMat w' v' (cas L1 L2)) ∧ Below w.heap.size w w' := by
 have H1 := Lib.hid h1
 have H2 := Lib.hid h2
 have HS1 := Lib.hid s1
 have HS2 := Lib.hid s2
 have HW12 := Lib.hid hw12
 obtain ⟨A1, c1, rfl, -, la1, la2⟩ := h1.op
 obtain ⟨A2, c2, rfl, -, lb1, lb2⟩ := h2.op
 obtain ⟨m, hm⟩ : ∃ r, L1.length = r := ⟨_, rfl⟩
 obtain ⟨n, hn⟩ : ∃ r, L2.length = r := ⟨_, rfl⟩
 have HM := Lib.hid hm
 have HN := Lib.hid hn
 have hm4 : m ≤ 4 := by rw [← hm]; exact s1.2.2.1
 have hn4 : n ≤ 4 := by rw [← hn]; exact s2.2.2.1
 have hn1 : 1 ≤ n := by rw [← hn]; exact s2.2.1.1
 obtain ⟨k, hk⟩ : ∃ r, wid L2 = r := ⟨_, rfl⟩
 have HK := Lib.hid hk
 have hk4 : k ≤ 4 := by rw [← hk]; exact s2.2.2.2.1
 have hwn : wid L1 = n := by omega
 have HWN := Lib.hid hwn
 rw [hm] at H1 la1
 rw [hn] at H2 lb1
 rw [hm, hn]
 obtain ⟨l2, he2⟩ : ∃ l, L2[0]? = some l := ⟨_, List.getElem?_eq_getElem (by omega)⟩
 obtain ⟨a2, D2, d2, rfl, hab2, hcell2, -, lc2, -⟩ := H2.out.at he2
 rw [(s2.2.1.row he2).1, hk] at hcell2 lc2
 rw [addr_zero] at hcell2
 have HC2 : Hid (∀ W, Below w.heap.size w W → W.cell? a2 = some (.slice D2 k d2)) := fun W hW => cell_keep (X := fun _ => False) hcell2 hab2 id (.of_below hW)
 have i0 : (0 : Int) < (n : Int) := by omega
 obtain ⟨w4, hw4⟩ : ∃ W, (((w.alloc (.cells #[.slice A1 m c1] 24)).alloc (.cells #[.slice (some a2) n c2] 24)).alloc (.cells #[.slice none 0 0] 24)).alloc (.cells #[.slice none 0 0] 24) = W := ⟨_, rfl⟩
 have B1 : Loc w4 w.heap.size 24 #[.slice A1 m c1] := by rw [← hw4]; exact (made1 w #[.slice A1 m c1] 24).to
 have B2 : Loc w4 (w.heap.size + 1) 24 #[.slice (some a2) n c2] := by rw [← hw4]; exact (made2 w (.cells #[.slice A1 m c1] 24) #[.slice (some a2) n c2] 24).to
 have B3 : Loc w4 (w.heap.size + 1 + 1) 24 #[.slice none 0 0] := by rw [← hw4]; exact (made3 w (.cells #[.slice A1 m c1] 24) (.cells #[.slice (some a2) n c2] 24) #[.slice none 0 0] 24).to
 have B4 : Loc w4 (w.heap.size + 1 + 1 + 1) 24 #[.slice none 0 0] := by rw [← hw4]; exact made4 w (.cells #[.slice A1 m c1] 24) (.cells #[.slice (some a2) n c2] 24) (.cells #[.slice none 0 0] 24) #[.slice none 0 0] 24
 have HB4 : Hid (Below w.heap.size w w4) := by show Below _ _ _; rw [← hw4]; exact bel
 have hs4 : w4.heap.size = w.heap.size + 4 := by rw [← hw4]; simp only [World.size_alloc]
 clear h1 h2 s1 s2 hw12 hm hn hk hwn he2 hcell2
 obtain ⟨e1, f1, -⟩ := B1.all (w' := w4)
 obtain ⟨e2, f2, -⟩ := B2.all (w' := w4)
 go_enter Tryz.func25, Tryz.ntmps25
 go_wp2_with fail
 clear e1 f1 e2 f2
 go_loopw [13] (fun i wr => ∃ (x : Nat) (v : Value) (us : List Value), x ≤ m ∧ i = .int .i64 x ∧ us.length = x ∧ Loc wr (w.heap.size + 1 + 1 + 1) 24 #[v] ∧ Own1 wr w4.heap.size 38 v us ∧ Hid (∀ i u, us[i]? = some u → IntsO wr u (casP L1 L2 i n 0)) ∧ Hid (Loc wr w.heap.size 24 #[.slice A1 m c1] ∧ Loc wr (w.heap.size + 1) 24 #[.slice (some a2) n c2] ∧ Loc wr (w.heap.size + 1 + 1) 24 #[.slice none 0 0]) ∧ Below w.heap.size w wr ∧ w4.heap.size ≤ wr.heap.size) (fun i _ => m - (intOf i).toNat)
 case atStart => exact ⟨0, _, [], by omega, rfl, rfl, B4, Own1.nil _ _ _, Lib.hid (fun i u hu => by simp at hu), Lib.hid ⟨B1, B2, B3⟩, HB4.out, Nat.le_refl _⟩
 case round =>
  clear B1 B2 B3 B4
  obtain ⟨x, v, us, hx, rfl, hul, hbox, hown, hrows, hL, hBx, yx⟩ := hrel
  obtain ⟨wx, rfl⟩ : ∃ wx : World, wx = wr := ⟨_, rfl⟩
  have HUL := Lib.hid hul
  have HBX := Lib.hid hBx
  have HOWN := Lib.hid hown
  have HBOX := Lib.hid hbox
  obtain ⟨Av, mv, cv, rfl⟩ : ∃ A m c, v = .slice A m c := by
   rcases HOWN.out.2 with ⟨rfl, -⟩ | ⟨g, cap, cur, rfl, -⟩
   ·exact ⟨_, _, _, rfl⟩
   ·exact ⟨_, _, _, rfl⟩
  clear hul hBx hown hbox
  by_cases hlt : x < m
  ·obtain ⟨e2, f2, -⟩ := Loc.all hL.out.2.1 (w' := wx)
   have g2 := HC2.out wx HBX.out
   have k0 : (0 : Int) ≤ (x : Int) := by omega
   have k1 : (x : Int) < (m : Int) := by omega
   go_wp2_with (at_make; refine wpList_makeN _ rfl _ _ rfl Tryz.underlying38 info_int1 rfl wx.heap.size k rfl rfl rfl rfl (by omega) (by unfold maxLen; omega) (Nat.le_refl _) ?_)
   intro w7 hrow hg7
   have hB7 : Below wx.heap.size wx w7 := below_none (Below.refl _ _) hg7 (Nat.le_refl _)
   have hR7 := rowI_zeros hrow
   have hl7 := hR7.lt
   have HB7 := Lib.hid hB7
   have HR7 : Hid (RowI w7 wx.heap.size (casP L1 L2 x 0 0)) := by show RowI _ _ _; rw [casP_start, HK.out]; exact hR7
   clear e2 f2 g2 hrow hg7 hR7
   obtain ⟨e2, f2, -⟩ := Loc.all (Loc.below hL.out.2.1 hB7) (w' := w7)
   clear hB7
   go_wp2_with fail
   clear e2 f2
   go_loopw [25] (fun i wr => ∃ (q : Nat), q ≤ n ∧ i = .int .i64 q ∧ RowI wr wx.heap.size (casP L1 L2 x q 0) ∧ Below wx.heap.size wx wr) (fun i _ => n - (intOf i).toNat)
   case atStart => exact ⟨0, by omega, rfl, HR7.out, HB7.out⟩
   case round =>
    clear HR7 HB7
    obtain ⟨q, hq, rfl, hrow, hBq⟩ := hrel
    obtain ⟨wq, rfl⟩ : ∃ wk : World, wk = wr := ⟨_, rfl⟩
    have yq := hBq.size
    have ylq := hrow.lt
    have HBQ := Lib.hid hBq
    have HROW := Lib.hid hrow
    clear hBq hrow
    by_cases hltq : q < n
    ·have k2 : (0 : Int) ≤ (q : Int) := by omega
     have k3 : (q : Int) < (n : Int) := by omega
     go_wp2_with fail
     go_loopw [30] (fun i wr => ∃ (z : Nat), z ≤ k ∧ i = .int .i64 z ∧ RowI wr wx.heap.size (casP L1 L2 x q z) ∧ Below wx.heap.size wx wr) (fun i _ => k - (intOf i).toNat)
     case atStart => exact ⟨0, by omega, rfl, HROW.out, HBQ.out⟩
     case round =>
      clear HROW HBQ
      obtain ⟨z, hz, rfl, hrow, hBz⟩ := hrel
      obtain ⟨wz, rfl⟩ : ∃ wk : World, wk = wr := ⟨_, rfl⟩
      have yz := hBz.size
      have ylz := hrow.lt
      have HBZ := Lib.hid hBz
      have HROW := Lib.hid hrow
      have HBWZ : Hid (Below w.heap.size w wz) := HBX.out.trans (hBz.mono (by omega))
      clear hBz hrow
      by_cases hltz : z < k
      ·have k4 : (0 : Int) ≤ (z : Int) := by omega
       have k5 : (z : Int) < (k : Int) := by omega
       have hxL : x < L1.length := by rw [HM.out]; exact hlt
       have hqL : q < L2.length := by rw [HN.out]; exact hltq
       have hqw : q < wid L1 := by rw [HWN.out]; exact hltq
       have hzw : z < wid L2 := by rw [HK.out]; exact hltz
       obtain ⟨l1, hl1, hl1q, -, -⟩ := HS1.out.2.1.en hxL hqw
       obtain ⟨l2', hl2, hl2z, -, -⟩ := HS2.out.2.1.en hqL hzw
       obtain ⟨a1, D1, d1, rfl, hab1, hcell1, hints1, -, -⟩ := H1.out.at hl1
       obtain ⟨a2', D3, d3, ea, hab3, hcell3, hints3, -, -⟩ := H2.out.at hl2
       injection ea with ea
       subst ea
       obtain ⟨b1, rfl, hbb1, hc1, -, -⟩ := hints1.at hl1q
       obtain ⟨b2, rfl, hbb2, hc2, -, -⟩ := hints3.at hl2z
       rw [(HS1.out.2.1.row hl1).1, HWN.out] at hcell1
       rw [(HS2.out.2.1.row hl2).1, HK.out] at hcell3
       have bC := sm_en HS1.out hxL hqw
       have bD := sm_en HS2.out hqL hzw
       have bP := mul_small bC bD
       have bS := casP_bound HS1.out HS2.out (HWN.out.trans HN.out.symm) hxL hzw (Nat.le_of_lt hqL)
       have hput := casP_set (L1 := L1) (x := x) (k := q) hzw (rfl : isg q (fun y => en L1 x y * en L2 y z) + en L1 x q * en L2 q z = _)
       have hc0 : wz.cell? ⟨wx.heap.size, z, none⟩ = _ := RowI.cell HROW.out (casP_get hzw)
       rw [if_neg (Nat.lt_irrefl z)] at hc0
       obtain ⟨C, hC⟩ : ∃ C, en L1 x q = C := ⟨_, rfl⟩
       obtain ⟨D, hD⟩ : ∃ C, en L2 q z = C := ⟨_, rfl⟩
       obtain ⟨S, hS⟩ : ∃ C, isg q (fun y => en L1 x y * en L2 y z) = C := ⟨_, rfl⟩
       rw [hC] at bC hc1 bP hput
       rw [hD] at bD hc2 bP hput
       rw [hS] at bS hput hc0
       obtain ⟨P, hP⟩ : ∃ P, C * D = P := ⟨_, rfl⟩
       rw [hP] at bP hput
       obtain ⟨T, hT⟩ : ∃ T, S + P = T := ⟨_, rfl⟩
       rw [hT] at hput
       have w1 : IntKind.i64.wrap (C * D) = P := by rw [hP, IntKind.wrap_i64]; omega
       have w2 : IntKind.i64.wrap (S + P) = T := by rw [hT, IntKind.wrap_i64]; omega
       have HPUT := Lib.hid hput
       have hbA1 : (a1.add x).block < w.heap.size := by rw [addr_block]; exact hab1
       have hbA2 : (a2.add q).block < w.heap.size := by rw [addr_block]; exact hab3
       have hbB1 : (b1.add q).block < w.heap.size := by rw [addr_block]; exact hbb1
       have hbB2 : (b2.add z).block < w.heap.size := by rw [addr_block]; exact hbb2
       have hK : Keep (fun _ => False) w wz := .of_below HBWZ.out
       have HLS : Hid ((((wz.cell? ⟨wx.heap.size, z, none⟩ = some (.int .i64 S) ∧ wz.cell? ⟨w.heap.size, 0, none⟩ = some (.slice (some a1) m c1)) ∧ wz.cell? ⟨w.heap.size + 1, 0, none⟩ = some (.slice (some a2) n c2)) ∧ wz.cell? (a1.add x) = some (.slice (some b1) n d1) ∧ wz.cell? (b1.add q) = some (.int .i64 C)) ∧ wz.cell? (a2.add q) = some (.slice (some b2) k d3) ∧ wz.cell? (b2.add z) = some (.int .i64 D)) :=
        ⟨⟨⟨⟨hc0, Loc.cell (Loc.below hL.out.1 HBZ.out) 0⟩, Loc.cell (Loc.below hL.out.2.1 HBZ.out) 0⟩, cell_keep hcell1 hbA1 id hK, cell_keep hc1 hbB1 id hK⟩, cell_keep hcell3 hbA2 id hK, cell_keep hc2 hbB2 id hK⟩
       have gf := Loc.frz HROW.out
       clear hl1 hl2 hl1q hl2z hints1 hints3 hcell1 hcell3 hc1 hc2 hput hT hP hC hD hS hK hxL hqL hqw hzw hc0
       have HG := Lib.hid gf
       clear gf
       go_wp2_with fail
       refine wp_region_noPanic ?_
       refine wp_region_heldK (k := 23) (S := (fun W => (((W.cell? ⟨wx.heap.size, z, none⟩ = some (.int .i64 S) ∧ W.cell? ⟨w.heap.size, 0, none⟩ = some (.slice (some a1) m c1)) ∧ W.cell? ⟨w.heap.size + 1, 0, none⟩ = some (.slice (some a2) n c2)) ∧ W.cell? (a1.add x) = some (.slice (some b1) n d1) ∧ W.cell? (b1.add q) = some (.int .i64 C)) ∧ W.cell? (a2.add q) = some (.slice (some b2) k d3) ∧ W.cell? (b2.add z) = some (.int .i64 D))) (by kernel_rfl) ?_ (fun hHeld => ?_)
       ·exact HLS.out
       refine puK 0 ?_
       (try simp only [Act.put, ly])
       refine puK 1 ?_
       (try simp only [Act.put, ly])
       refine puK 2 ?_
       (try simp only [Act.put, ly])
       refine tkK 3 ?_
       (try simp only [Act.put, ly])
       refine puK 4 ?_
       (try simp only [Act.put, ly])
       refine tkK 5 ?_
       (try simp only [Act.put, ly])
       refine puK 6 ?_
       (try simp only [Act.put, ly])
       refine puK 7 ?_
       (try simp only [Act.put, ly])
       refine tkK 8 ?_
       (try simp only [Act.put, ly])
       refine puK 9 ?_
       (try simp only [Act.put, ly])
       refine puK 10 ?_
       (try simp only [Act.put, ly])
       refine tkK 11 ?_
       (try simp only [Act.put, ly])
       refine puK 12 ?_
       (try simp only [Act.put, ly])
       refine tkK 13 ?_
       (try simp only [Act.put, ly])
       refine puK 14 ?_
       (try simp only [Act.put, ly])
       refine puK 15 ?_
       (try simp only [Act.put, ly])
       refine tkK 16 ?_
       (try simp only [Act.put, ly])
       refine puK 17 ?_
       (try simp only [Act.put, ly])
       refine puK 18 ?_
       (try simp only [Act.put, ly])
       refine tkK 19 ?_
       (try simp only [Act.put, ly])
       refine puK 20 ?_
       (try simp only [Act.put, ly])
       refine puK 21 ?_
       (try simp only [Act.put, ly])
       refine puK 22 ?_
       (try simp only [Act.put, ly])
       have g0 := HLS.out.1.1.1.1
       have gf := HG.out
       have gl := ylz
       refine wpAnyK_ready (rs := [23]) (by kernel_rfl) (by simp) ?_
       refine AllReadyK.last (by kernel_rfl) rfl (fun KK hKK => ?_) AllReadyK.nil
       go_simp
       refine hKK.out _ _ ?_
       clear hKK KK
       (try simp only [Act.put, ly])
       refine wpAnyK_done (by kernel_rfl) ?_ _
       refine NoPanic.normal ?_
       clear g0 gf gl
       go_wp2_with fail
       go_roundw
       case rel => exact ⟨z + 1, by omega, by go_num, by rw [← HPUT.out]; exact RowI.set HROW.out z T, HBZ.out.drew.setCell (Nat.le_refl _) _⟩
       case measure => simp only [intOf]; omega
      ·obtain rfl : z = k := by omega
       go_wp2_with fail
       go_roundw
       case rel => exact ⟨q + 1, by omega, by go_num, by rw [← casP_next, HK.out]; exact HROW.out, HBZ.out⟩
       case measure => simp only [intOf]; omega
    ·obtain rfl : q = n := by omega
     have yq2 := HBQ.out.size
     have HBOXQ : Hid (Loc wq (w.heap.size + 1 + 1 + 1) 24 #[.slice Av mv cv]) := Loc.below HBOX.out HBQ.out
     have hownA : Own1 (wq.alloc (.cells #[.slice (some ⟨wx.heap.size, 0, none⟩) k k] 38)) w4.heap.size 38 (.slice Av mv cv) us := (Own1.below HOWN.out HBQ.out).below (below1 _ _)
     have hul200 : us.length ≤ 200 := by rw [HUL.out]; omega
     obtain ⟨e4, f4, -⟩ := Loc.all HBOXQ.out (w' := wq)
     go_wp2_with (at_builtin; refine wpList_pushI _ rfl _ _ rfl w4.heap.size _ us rfl hownA wq.heap.size (.slice (some ⟨wx.heap.size, 0, none⟩) k k) rfl (made1 wq #[.slice (some ⟨wx.heap.size, 0, none⟩) k k] 38) rfl (by omega) (by simp only [World.size_alloc]; omega) ?_)
     intro gA capA w8 hoa8 hg8 ho8 hl8
     (try simp only [World.size_alloc] at ho8)
     have y8 := hg8.size
     (try simp only [World.size_alloc] at y8)
     have hb8 : Below w4.heap.size wq w8 := below_own ((Below.refl w4.heap.size wq).alloc (by omega) _) hownA hg8 (Nat.le_refl _) (by simp only [World.size_alloc]; omega)
     have hbx8 : Loc w8 (w.heap.size + 1 + 1 + 1) 24 #[.slice Av mv cv] := loc_other hownA hg8 (Loc.below HBOXQ.out (below1 _ _)) (by decide)
     have HL8 : Hid (Loc w8 w.heap.size 24 #[.slice A1 m c1] ∧ Loc w8 (w.heap.size + 1) 24 #[.slice (some a2) q c2] ∧ Loc w8 (w.heap.size + 1 + 1) 24 #[.slice none 0 0]) :=
      ⟨loc_other hownA hg8 ((Loc.below hL.out.1 HBQ.out).below (below1 _ _)) (by decide), loc_other hownA hg8 ((Loc.below hL.out.2.1 HBQ.out).below (below1 _ _)) (by decide), loc_other hownA hg8 ((Loc.below hL.out.2.2 HBQ.out).below (below1 _ _)) (by decide)⟩
     have HROWS : Hid (∀ i u, (us ++ [.slice (some ⟨wx.heap.size, 0, none⟩) k k])[i]? = some u → IntsO w8 u (casP L1 L2 i q 0)) := fun i u hu => by
      by_cases hi : i < us.length
      ·rw [List.getElem?_append_left hi] at hu
       exact (((hrows.out i u hu).below HBQ.out).below (below1 _ _)).other hownA hg8
      ·have hlt2 := (List.getElem?_eq_some_iff.1 hu).1
       simp at hlt2
       obtain rfl : i = us.length := by omega
       simp at hu
       subst hu
       have hI : IntsO wq (.slice (some ⟨wx.heap.size, 0, none⟩) k k) (casP L1 L2 x q 0) := by
        refine ⟨_, by rw [casP_len, HK.out], HROW.out, fun y hy => ?_⟩
        obtain ⟨i, hi, rfl⟩ := List.mem_map.1 hy
        have := casP_bound HS1.out HS2.out (HWN.out.trans HN.out.symm) (by rw [HM.out]; exact hlt : x < L1.length) (List.mem_range.1 hi) (Nat.le_of_eq HN.out.symm)
        rw [if_neg (Nat.not_lt_zero i)]
        omega
       rw [HUL.out]
       exact (hI.below (below1 _ _)).other hownA hg8
     have HB8 := Lib.hid hb8
     clear hownA hg8 e4 f4 hb8
     obtain ⟨e4, f4, l4⟩ := Loc.all hbx8 (w' := w8)
     go_wp2_with fail
     go_roundw
     case rel =>
      refine ⟨x + 1, .slice (some ⟨gA, 0, none⟩) (us.length + 1) capA, us ++ [.slice (some ⟨wx.heap.size, 0, none⟩) k k], by omega, by go_num, by simp [HUL.out], Loc.set hbx8 0 _, ?_, Lib.hid (fun i u hu => ?_), Lib.hid ⟨?_, ?_, ?_⟩, ?_, ?_⟩
      ·rw [hs4]; exact Own1.far hoa8 (by omega) _ _
      ·exact (HROWS.out i u hu).far hbx8 (by decide) _ _
      ·exact HL8.out.1.far (by dsimp only; omega) _
      ·exact HL8.out.2.1.far (by dsimp only; omega) _
      ·exact HL8.out.2.2.far (by dsimp only; omega) _
      ·exact ((HBX.out.trans (HBQ.out.mono (by omega))).trans (HB8.out.mono (by omega))).setCell (by dsimp only; omega) _
      ·simp only [World.size_setCell]; omega
     case measure => simp only [intOf]; omega
  ·obtain rfl : x = m := by omega
   obtain ⟨e3, f3, -⟩ := Loc.all hL.out.2.2 (w' := wx)
   obtain ⟨e4, f4, -⟩ := Loc.all HBOX.out (w' := wx)
   have HIM : Hid (IMat (wx.setCell ⟨w.heap.size + 1 + 1, 0, none⟩ (.slice Av mv cv)) (.slice Av mv cv) (cas L1 L2)) := Own1.imat (L := cas L1 L2) (Own1.far HOWN.out (by omega) _ _) (by rw [HUL.out, cas_len, HM.out]) (by rw [cas_len, HM.out]; unfold maxLen; omega) (fun i u l hu hl => by
    have hi := (List.getElem?_eq_some_iff.1 hu).1
    rw [casP_end (by rw [HM.out, ← HUL.out]; exact hi), HN.out] at hl
    injection hl with hl
    subst hl
    exact ⟨(hrows.out i u hu).far hL.out.2.2 (by decide) _ _, by rw [casP_len, HK.out]; unfold maxLen; omega⟩)
   go_wp2_with fail
   have g3 : (wx.setCell ⟨w.heap.size + 1 + 1, 0, none⟩ (.slice Av mv cv)).cell? ⟨w.heap.size + 1 + 1, 0, none⟩ = some (.slice Av mv cv) := Loc.cell (Loc.set hL.out.2.2 0 _) 0
   refine bodyPost_ret (by simp [results, Tryz.results25, go_sem, g3] <;> rfl) rfl ⟨_, rfl, HIM, HBX.out.setCell (by dsimp only; omega) _⟩
end Go.Proofs.YtdambnieminnfaaGreat

