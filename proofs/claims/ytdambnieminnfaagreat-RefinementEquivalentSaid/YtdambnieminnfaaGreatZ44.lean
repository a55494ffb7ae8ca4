/- Contracts of the functions that the statements reach, part 44. -/
import Derived.Test.YtdambnieminnfaaGreatRows
import Derived.Test.YtdambnieminnfaaGreatZ41
import Derived.Test.YtdambnieminnfaaGreatZ43
set_option linter.unusedSimpArgs false
set_option linter.unusedVariables false

/- Two channels refine each other exactly if their reduced forms are equal, plainly. -/
namespace Go.Proofs.YtdambnieminnfaaGreat

/-- A list of lists divided by the greatest common divisor of its numbers. -/
def redD (g : Int) (l : List Int) : List Int := l.map (fun z => z / g)
def redL (out : List (List Int)) : List (List Int) := out.map (redD (max (gLL 0 out) 1))
theorem redD_getD {g : Int} {l : List Int} (hd : ∀ z ∈ l, g ∣ z) (x : Nat) : l.getD x 0 = g * (redD g l).getD x 0 := by
 unfold redD
 rw [List.getD_eq_getElem?_getD, List.getD_eq_getElem?_getD, List.getElem?_map]
 by_cases hx : x < l.length
 ·rw [List.getElem?_eq_getElem hx]
  simp only [Option.map_some, Option.getD_some]
  exact (Int.mul_ediv_cancel' (hd _ (List.getElem_mem hx))).symm
 ·rw [List.getElem?_eq_none (by omega)]
  simp
theorem redD_lv {g : Int} {l : List Int} (hd : ∀ z ∈ l, g ∣ z) (x : Nat) : lv l x = (g : Rat) * lv (redD g l) x := by
 unfold lv
 rw [redD_getD hd x, Rat.intCast_mul]
theorem list_ext_getD {a b : List Int} (hl : a.length = b.length) (h : ∀ x, x < a.length → a.getD x 0 = b.getD x 0) : a = b := by
 apply List.ext_getElem hl
 intro i h1 h2
 have := h i h1
 rw [List.getD_eq_getElem?_getD, List.getD_eq_getElem?_getD, List.getElem?_eq_getElem h1, List.getElem?_eq_getElem h2] at this
 exact this
section
variable {m n k : Nat} {C D : Nat → Nat → Rat} {p q : Rat} {P Q : Int} {A B RA RB : List (List Int)}
theorem GI.gpos (h : GI m C n A) (hA : A ≠ []) : 0 < gLL 0 A := by
 obtain ⟨l, hl⟩ := List.exists_mem_of_ne_nil A hA
 obtain ⟨x, hx, hne⟩ := h.nz l hl
 have h0 := gLL_nonneg A 0 (Int.le_refl 0)
 have hd := (gLL_dvd A 0).2 l hl
 rcases Int.lt_or_eq_of_le h0 with h0 | e
 ·exact h0
 refine absurd ?_ hne
 unfold lv
 have hlen := h.len l hl
 have : l.getD x 0 = 0 := by
  rw [List.getD_eq_getElem?_getD, List.getElem?_eq_getElem (by omega)]
  have h1 := hd (l[x]'(by omega)) (List.getElem_mem _)
  rw [← e] at h1
  exact Int.zero_dvd.1 h1
 rw [this]; rfl
theorem GI.ne (h : GI m C n A) (hC : Chan m n C p) : A ≠ [] := fun e => by
 have h1 := h.tot 0 hC.m1
 have h2 := hC.row 0 hC.m1
 have h3 : sm n (fun y => C 0 y) = p := h2
 rw [e, h3] at h1
 have := hC.pos
 simp only [sumL] at h1
 grind
/-- Lists of a group that match. -/
theorem match_of (hA : GI m C n A) (hB : GI m D k B) (hC : Chan m n C p) (hD : Chan m k D q) (hdir : ∀ v : Nat → Rat, (∃ i, i < m ∧ v i ≠ 0) → ∀ x, x < m → q * dirS m n C v x = p * dirS m k D v x) {a : List Int} (ha : a ∈ A) : ∃ b ∈ B, ∀ x, x < m → q * lv a x = p * lv b x := by
 have hn := hA.nz a ha
 obtain ⟨i, hi, hne⟩ := hn
 have hp := hC.pos
 have hq := hD.pos
 have e := hdir (lv a) ⟨i, hi, hne⟩ i hi
 rw [← hA.sum a ha i hi] at e
 by_cases hex : ∃ z, z < k ∧ cs m D z ≠ 0 ∧ Par m (fun x => D x z) (lv a)
 ·obtain ⟨z, hz, hz0, hpz⟩ := hex
  obtain ⟨b, hb, hpb⟩ := hB.cov z hz hz0
  have hab : Par m (lv b) (lv a) := hpb.symm.trans hpz (cs_ne hz0)
  refine ⟨b, hb, fun x hx => ?_⟩
  have e2 := hdir (lv a) ⟨i, hi, hne⟩ x hx
  rw [← hA.sum a ha x hx, ← dirS_congr hab (hB.nz b hb) ⟨i, hi, hne⟩, ← hB.sum b hb x hx] at e2
  exact e2
 ·rw [dirS_zero (fun z hz hz0 hpz => hex ⟨z, hz, hz0, hpz⟩)] at e
  have hq0 : q ≠ 0 := by grind
  have : lv a i = 0 := by grind
  exact absurd this hne
theorem dvd_of_match (hA : GI m C n A) (hB : GI m D k B) (hp : p = (P : Rat)) (hq : q = (Q : Rat)) (hQ : 0 ≤ Q) (h : ∀ a ∈ A, ∃ b ∈ B, ∀ x, x < m → q * lv a x = p * lv b x) : P * gLL 0 B ∣ Q * gLL 0 A := by
 refine gLL_scale hQ A 0 (by rw [Int.mul_zero]; exact Int.dvd_zero _) (fun a ha z hz => ?_)
 obtain ⟨b, hb, he⟩ := h a ha
 obtain ⟨i, hi, rfl⟩ := List.getElem_of_mem hz
 have hla := hA.len a ha
 have hlb := hB.len b hb
 have e := he i (by omega)
 unfold lv at e
 rw [List.getD_eq_getElem?_getD, List.getD_eq_getElem?_getD, List.getElem?_eq_getElem hi, List.getElem?_eq_getElem (by omega : i < b.length), hp, hq, ← Rat.intCast_mul, ← Rat.intCast_mul] at e
 have e2 : Q * a[i] = P * b[i]'(by omega) := Rat.intCast_inj.1 e
 rw [e2]
 exact Int.mul_dvd_mul (Int.dvd_refl _) ((gLL_dvd B 0).2 b hb _ (List.getElem_mem _))
theorem red_mem (hA : GI m C n A) (hB : GI m D k B) (hp : p = (P : Rat)) (hq : q = (Q : Rat)) (hQ : 0 < Q) (hgA : 0 < gLL 0 A) (hgB : 0 < gLL 0 B) (hg : P * gLL 0 B = Q * gLL 0 A) (h : ∀ a ∈ A, ∃ b ∈ B, ∀ x, x < m → q * lv a x = p * lv b x) : ∀ r ∈ redL A, r ∈ redL B := by
 intro r hr
 unfold redL at hr ⊢
 rw [show max (gLL 0 A) 1 = gLL 0 A by omega] at hr
 rw [show max (gLL 0 B) 1 = gLL 0 B by omega]
 obtain ⟨a, ha, rfl⟩ := List.mem_map.1 hr
 obtain ⟨b, hb, he⟩ := h a ha
 refine List.mem_map.2 ⟨b, hb, ?_⟩
 have hla := hA.len a ha
 have hlb := hB.len b hb
 refine list_ext_getD (by simp [redD]; omega) (fun x hx => ?_)
 simp only [redD, List.length_map] at hx
 have e := he x (by omega)
 have ea := redD_getD ((gLL_dvd A 0).2 a ha) x
 have eb := redD_getD ((gLL_dvd B 0).2 b hb) x
 unfold lv at e
 rw [hp, hq, ← Rat.intCast_mul, ← Rat.intCast_mul] at e
 have e2 : Q * a.getD x 0 = P * b.getD x 0 := Rat.intCast_inj.1 e
 rw [ea, eb, ← Int.mul_assoc, ← Int.mul_assoc, hg] at e2
 have hne : Q * gLL 0 A ≠ 0 := Int.ne_of_gt (Int.mul_pos hQ hgA)
 exact (Int.eq_of_mul_eq_mul_left hne e2).symm
theorem red_nodup (hA : GI m C n A) : (redL A).Nodup := by
 unfold redL
 rw [List.nodup_iff_pairwise_ne, List.pairwise_map]
 have hd := (gLL_dvd A 0).2
 by_cases hne : A = []
 ·rw [hne]; exact List.Pairwise.nil
 have hg := hA.gpos hne
 have e1 : max (gLL 0 A) 1 = gLL 0 A := by omega
 rw [e1]
 refine hA.pw.imp_of_mem (fun {a b} ha hb hnp e => hnp (fun i hi j hj => ?_))
 rw [redD_lv (hd a ha) i, redD_lv (hd b hb) j, redD_lv (hd a ha) j, redD_lv (hd b hb) i, e]
 grind
/-- The reduced forms are equal, as sets, where the channels refine each other. -/
theorem perm_of_mutual (hA : GI m C n A) (hB : GI m D k B) (hC : Chan m n C p) (hD : Chan m k D q) (hp : p = (P : Rat)) (hq : q = (Q : Rat)) (h1 : ∃ W, Wit m n k C p D q W) (h2 : ∃ V, Wit m k n D q C p V) : (redL A).Perm (redL B) := by
 obtain ⟨W, hW⟩ := h1
 obtain ⟨V, hV⟩ := h2
 have hP : 0 < P := by have := hC.pos; rw [hp] at this; exact Rat.intCast_pos.1 this
 have hQ : 0 < Q := by have := hD.pos; rw [hq] at this; exact Rat.intCast_pos.1 this
 have m1 := fun a ha => match_of hA hB hC hD (fun v hv x hx => dir_eq hC hD hW hV hv hx) (a := a) ha
 have m2 := fun a ha => match_of hB hA hD hC (fun v hv x hx => dir_eq hD hC hV hW hv hx) (a := a) ha
 have hgA := hA.gpos (hA.ne hC)
 have hgB := hB.gpos (hB.ne hD)
 have hg : P * gLL 0 B = Q * gLL 0 A := Int.dvd_antisymm (Int.mul_nonneg (by omega) (by omega)) (Int.mul_nonneg (by omega) (by omega)) (dvd_of_match hA hB hp hq (by omega) m1) (dvd_of_match hB hA hq hp (by omega) m2)
 rw [List.perm_ext_iff_of_nodup (red_nodup hA) (red_nodup hB)]
 exact fun a => ⟨red_mem hA hB hp hq hQ hgA hgB hg m1 a, red_mem hB hA hq hp hP hgB hgA hg.symm m2 a⟩
theorem dir_of_perm (hA : GI m C n A) (hB : GI m D k B) (hC : Chan m n C p) (hD : Chan m k D q) (h : (redL A).Perm (redL B)) : ∀ v : Nat → Rat, (∃ i, i < m ∧ v i ≠ 0) → ∀ x, x < m → q * dirS m n C v x = p * dirS m k D v x := by
 have hgA := hA.gpos (hA.ne hC)
 have hgB := hB.gpos (hB.ne hD)
 have hdA := (gLL_dvd A 0).2
 have hdB := (gLL_dvd B 0).2
 unfold redL at h
 rw [show max (gLL 0 A) 1 = gLL 0 A by omega, show max (gLL 0 B) 1 = gLL 0 B by omega] at h
 obtain ⟨gA, hga⟩ : ∃ g, gLL 0 A = g := ⟨_, rfl⟩
 obtain ⟨gB, hgb⟩ : ∃ g, gLL 0 B = g := ⟨_, rfl⟩
 rw [hga] at hgA hdA h
 rw [hgb] at hgB hdB h
 have hpA : p = (gA : Rat) * sumL (A.map (redD gA)) 0 := by
  rw [← sumL_map (gA : Rat) (redD gA) 0 A (fun l hl => redD_lv (hdA l hl) 0), hA.tot 0 hC.m1]
  exact (hC.row 0 hC.m1).symm
 have hqB : q = (gB : Rat) * sumL (A.map (redD gA)) 0 := by
  rw [sumL_perm h 0, ← sumL_map (gB : Rat) (redD gB) 0 B (fun l hl => redD_lv (hdB l hl) 0), hB.tot 0 hD.m1]
  exact (hD.row 0 hD.m1).symm
 obtain ⟨σ, hs⟩ : ∃ s, sumL (A.map (redD gA)) 0 = s := ⟨_, rfl⟩
 rw [hs] at hpA hqB
 have gAr : (0 : Rat) < (gA : Rat) := Rat.intCast_pos.2 hgA
 have gBr : (0 : Rat) < (gB : Rat) := Rat.intCast_pos.2 hgB
 -- a list of one group has its like in the other
 have like : ∀ a ∈ A, ∃ b ∈ B, ∀ x, (gB : Rat) * lv a x = (gA : Rat) * lv b x := fun a ha => by
  have : redD gA a ∈ B.map (redD gB) := h.mem_iff.1 (List.mem_map.2 ⟨a, ha, rfl⟩)
  obtain ⟨b, hb, e⟩ := List.mem_map.1 this
  refine ⟨b, hb, fun x => ?_⟩
  rw [redD_lv (hdA a ha) x, redD_lv (hdB b hb) x, e]
  grind
 have like' : ∀ b ∈ B, ∃ a ∈ A, ∀ x, (gB : Rat) * lv a x = (gA : Rat) * lv b x := fun b hb => by
  have : redD gB b ∈ A.map (redD gA) := h.mem_iff.2 (List.mem_map.2 ⟨b, hb, rfl⟩)
  obtain ⟨a, ha, e⟩ := List.mem_map.1 this
  refine ⟨a, ha, fun x => ?_⟩
  rw [redD_lv (hdA a ha) x, redD_lv (hdB b hb) x, e]
  grind
 intro v hv x hx
 by_cases hex : ∃ a ∈ A, Par m (lv a) v
 ·obtain ⟨a, ha, hpa⟩ := hex
  obtain ⟨b, hb, hab⟩ := like a ha
  have hpb : Par m (lv b) (lv a) := fun i hi j hj => by
   have e1 := hab i
   have e2 := hab j
   have e3 : (gA : Rat) * (lv b i * lv a j) = (gA : Rat) * (lv b j * lv a i) := by grind
   have hne : (gA : Rat) ≠ 0 := by grind
   grind
  rw [← dirS_congr hpa (hA.nz a ha) hv, ← hA.sum a ha x hx, ← dirS_congr (hpb.trans hpa (hA.nz a ha)) (hB.nz b hb) hv, ← hB.sum b hb x hx, hpA, hqB]
  have := hab x
  grind
 ·have hno : ∀ b ∈ B, ¬ Par m (lv b) v := fun b hb hpb => by
   obtain ⟨a, ha, hab⟩ := like' b hb
   refine hex ⟨a, ha, Par.trans (fun i hi j hj => ?_) hpb (hB.nz b hb)⟩
   have e1 := hab i
   have e2 := hab j
   have e3 : (gB : Rat) * (lv a i * lv b j) = (gB : Rat) * (lv a j * lv b i) := by grind
   have hne : (gB : Rat) ≠ 0 := by grind
   grind
  rw [dirS_zero (fun y hy hy0 hp => ?_), dirS_zero (fun z hz hz0 hp => ?_)]
  ·grind
  ·obtain ⟨b, hb, hpb⟩ := hB.cov z hz hz0
   exact hno b hb (hpb.symm.trans hp (cs_ne hz0))
  ·obtain ⟨a, ha, hpa⟩ := hA.cov y hy hy0
   exact hex ⟨a, ha, hpa.symm.trans hp (cs_ne hy0)⟩
theorem eqv_iff {le : List Int → List Int → Prop} (hle : ∀ a b, le a b → le b a → a = b) (hA : GI m C n A) (hB : GI m D k B) (hC : Chan m n C p) (hD : Chan m k D q) (hp : p = (P : Rat)) (hq : q = (Q : Rat))
 (pA : RA.Perm (redL A)) (pB : RB.Perm (redL B)) (sA : RA.Pairwise le) (sB : RB.Pairwise le) : RA = RB ↔ (∃ W, Wit m n k C p D q W) ∧ ∃ V, Wit m k n D q C p V := by
 refine ⟨fun e => ?_, fun h => ?_⟩
 ·subst e
  have hperm : (redL A).Perm (redL B) := pA.symm.trans pB
  exact ⟨wit_of_dir hC hD (dir_of_perm hA hB hC hD hperm), wit_of_dir hD hC (dir_of_perm hB hA hD hC hperm.symm)⟩
 ·have hperm := perm_of_mutual hA hB hC hD hp hq h.1 h.2
  exact List.Perm.eq_of_pairwise (le := le) (fun a b _ _ h1 h2 => hle a b h1 h2) sA sB ((pA.trans hperm).trans pB.symm)
end
end Go.Proofs.YtdambnieminnfaaGreat

/- slices.SortFunc at lists of lists of integers, of at most twelve; slices.Equal, EqualFunc, IndexFunc. -/
namespace Go.Proofs.YtdambnieminnfaaGreat
open Go.RowKit
attribute [local go_sem ↓] Go.wp_at_zero Go.wp_at_succ

set_option maxRecDepth 100000 in
set_option maxHeartbeats 4000000 in
theorem len64_small (w : World) (n : Nat) (hn : n ≤ 12) : Calls Tryz.prog 158 #[.int .u64 n] w fun e w' => (∃ r : Int, e = .returned (.int .i64 r)) ∧ Below w.heap.size w w' := by
 have h : n = 0 ∨ n = 1 ∨ n = 2 ∨ n = 3 ∨ n = 4 ∨ n = 5 ∨ n = 6 ∨ n = 7 ∨ n = 8 ∨ n = 9 ∨ n = 10 ∨ n = 11 ∨ n = 12 := by omega
 rcases h with rfl | rfl | rfl | rfl | rfl | rfl | rfl | rfl | rfl | rfl | rfl | rfl | rfl <;>
  (go_enter Tryz.func158, Tryz.ntmps158
   go_wp2_with fail
   go_ret
   exact ⟨⟨_, rfl⟩, bel⟩)
set_option maxRecDepth 100000 in
set_option maxHeartbeats 1000000 in
theorem len_small (w : World) (n : Nat) (hn : n ≤ 12) : Calls Tryz.prog 121 #[.int .u64 n] w fun e w' => (∃ r : Int, e = .returned (.int .i64 r)) ∧ Below w.heap.size w w' := by
 go_enter Tryz.func121, Tryz.ntmps121
 go_wp2_with fail
 refine (len64_small _ n hn).mono ?_
 rintro e w1 ⟨⟨r, rfl⟩, hb1⟩
 go_wp2_with fail
 go_ret
 exact ⟨⟨_, rfl⟩, hb1⟩
set_option maxRecDepth 100000 in
set_option maxHeartbeats 4000000 in
theorem pdq_any (w : World) (base G cap n : Nat) (r : Int) (es : List RE) (h : OutR w base (.slice (some ⟨G, 0, none⟩) n cap) es) (hn : es.length = n) (hn1 : 1 ≤ n) (hn12 : n ≤ 12) (hbw : base ≤ w.heap.size) (hz : ∀ e ∈ es, ∀ z ∈ e.l, -9223372036854775808 ≤ z ∧ z ≤ 9223372036854775807) :
 Calls Tryz.prog 120 #[.slice (some ⟨G, 0, none⟩) n cap, .int .i64 0, .int .i64 n, .int .i64 r, .func (Fn.func 82) #[] #[]] w fun e w' => e = .returned (.tuple #[]) ∧ (∃ es', Hid (es'.Perm es ∧ (es'.map RE.l).Pairwise geL ∧ OutR w' base (.slice (some ⟨G, 0, none⟩) n cap) es')) ∧ Below base w w' := by
 have HH := Lib.hid h
 have HNN := Lib.hid hn
 have HZ := Lib.hid hz
 have t1 : (n : Int) - 0 = (n : Int) := by omega
 have d1 : decide ((n : Int) ≤ 12) = true := decide_eq_true (by omega)
 have t2 : IntKind.i64.wrap (n : Int) = (n : Int) := by rw [IntKind.wrap_i64]; omega
 clear h hn hz
 go_enter Tryz.func120, Tryz.ntmps120
 go_wp2_with fail
 go_loopw [1, 2] (fun a b wr => a = .int .i64 0 ∧ b = .int .i64 n ∧ wr = w) (fun _ _ _ => 0)
 case atStart => exact ⟨rfl, rfl, rfl⟩
 case round =>
  obtain ⟨rfl, rfl, rfl⟩ := hrel
  go_wp2_with fail
  refine (isort_any _ base G cap n es HH.out HNN.out hn1 hn12 hbw HZ.out).mono ?_
  rintro e w1 ⟨rfl, he, hb1⟩
  go_wp2_with fail
  (try simp only [Exit.inBlock, Exit.then])
  refine bodyPost_ret (results_none rfl _ _ _) rfl ?_
  exact ⟨rfl, he, hb1⟩
set_option maxRecDepth 100000 in
set_option maxHeartbeats 4000000 in
theorem sortF_any (w : World) (base G cap n : Nat) (es : List RE) (h : OutR w base (.slice (some ⟨G, 0, none⟩) n cap) es) (hn : es.length = n) (hn1 : 1 ≤ n) (hn12 : n ≤ 12) (hbw : base ≤ w.heap.size) (hz : ∀ e ∈ es, ∀ z ∈ e.l, -9223372036854775808 ≤ z ∧ z ≤ 9223372036854775807) :
 Calls Tryz.prog 81 #[.slice (some ⟨G, 0, none⟩) n cap, .func (Fn.func 82) #[] #[]] w fun e w' => e = .returned (.tuple #[]) ∧ (∃ es', Hid (es'.Perm es ∧ (es'.map RE.l).Pairwise geL ∧ OutR w' base (.slice (some ⟨G, 0, none⟩) n cap) es')) ∧ Below base w w' := by
 have HH := Lib.hid h
 have HNN := Lib.hid hn
 have HZ := Lib.hid hz
 clear h hn hz
 go_enter Tryz.func81, Tryz.ntmps81
 go_wp2_with fail
 refine (len_small _ n hn12).mono ?_
 rintro e w1 ⟨⟨r, rfl⟩, hb1⟩
 have y1 := hb1.size
 have HB1 := Lib.hid hb1
 go_wp2_with fail
 refine (pdq_any _ base G cap n r es (HH.out.below HB1.out) HNN.out hn1 hn12 (by omega) HZ.out).mono ?_
 rintro e w2 ⟨rfl, he, hb2⟩
 have HB2 : Hid (Below base w w2) := (HB1.out.mono hbw).trans hb2
 go_wp2_with fail
 go_end0
 exact ⟨rfl, he, HB2.out⟩
set_option maxRecDepth 100000 in
set_option maxHeartbeats 4000000 in
/-- slices.Equal at lists of integers. -/
theorem equalI_any (w : World) (v1 v2 : Value) (a b : List Int) (h1 : IntsV w v1 a) (h2 : IntsV w v2 b) :
 Calls Tryz.prog 43 #[v1, v2] w fun e w' => Tells (a = b) e ∧ Below w.heap.size w w' := by
 have H1 := Lib.hid h1
 have H2 := Lib.hid h2
 obtain ⟨A1, c1, rfl, -, l1, l2⟩ := h1.op
 obtain ⟨A2, c2, rfl, -, l3, l4⟩ := h2.op
 obtain ⟨m, hm⟩ : ∃ r, a.length = r := ⟨_, rfl⟩
 obtain ⟨n, hn⟩ : ∃ r, b.length = r := ⟨_, rfl⟩
 have HM := Lib.hid hm
 have HN := Lib.hid hn
 rw [hm] at H1 l1 ⊢
 rw [hn] at H2 l3 ⊢
 unfold maxLen at l2 l4
 clear h1 h2 hm hn
 by_cases hmn : m = n
 case neg =>
  have d1 : ((m : Int) != (n : Int)) = true := by simp only [bne_iff_ne]; omega
  have HNE : Hid (¬ a = b) := fun e => hmn (by rw [← HM.out, ← HN.out, e])
  clear hmn
  go_enter Tryz.func43, Tryz.ntmps43
  go_wp2_with fail
  go_ret
  exact ⟨Tells.no HNE.out, bel⟩
 subst hmn
 have d1 : ((m : Int) != (m : Int)) = false := bne_self_eq_false _
 go_enter Tryz.func43, Tryz.ntmps43
 go_wp2_with fail
 go_loopw [13] (fun i wr => ∃ (c : Nat), c ≤ m ∧ i = .int .i64 c ∧ Hid (∀ j, j < c → a.getD j 0 = b.getD j 0) ∧ Below w.heap.size w wr) (fun i _ => m - (intOf i).toNat)
 case atStart => exact ⟨0, by omega, rfl, Lib.hid (fun j hj => absurd hj (Nat.not_lt_zero j)), bel⟩
 case round =>
  obtain ⟨c, hc, rfl, hall, hB⟩ := hrel
  obtain ⟨wo, rfl⟩ : ∃ wo : World, wo = wr := ⟨_, rfl⟩
  have HB := Lib.hid hB
  have HALL := Lib.hid hall.out
  have yo := hB.size
  clear hB hall
  by_cases hlt : c < m
  ·obtain ⟨x, hx⟩ : ∃ z, a[c]? = some z := ⟨_, List.getElem?_eq_getElem (by have := HM.out; omega)⟩
   obtain ⟨y, hy⟩ : ∃ z, b[c]? = some z := ⟨_, List.getElem?_eq_getElem (by have := HN.out; omega)⟩
   obtain ⟨ad1, rfl, hb1, g1, -, -⟩ := H1.out.at hx
   obtain ⟨ad2, rfl, hb2, g2, -, -⟩ := H2.out.at hy
   have HLS : Hid (wo.cell? (ad1.add c) = some (.int .i64 x) ∧ wo.cell? (ad2.add c) = some (.int .i64 y)) := ⟨cell_keep (X := fun _ => False) g1 (by rw [addr_block]; exact hb1) id (.of_below HB.out), cell_keep (X := fun _ => False) g2 (by rw [addr_block]; exact hb2) id (.of_below HB.out)⟩
   have HX := Lib.hid (getD_of hx)
   have HY := Lib.hid (getD_of hy)
   have k0 : (0 : Int) ≤ (c : Int) := by omega
   have k1 : (c : Int) < (m : Int) := by omega
   clear hx hy g1 g2
   by_cases hxy : x = y
   ·have d2 : (x != y) = false := by rw [hxy]; exact bne_self_eq_false _
    have HE := Lib.hid hxy
    clear hxy
    go_upto_region 6 with fail
    refine wp_region_noPanic ?_
    refine wp_region_held_drew (S := (fun W => W.cell? (ad1.add c) = some (.int .i64 x) ∧ W.cell? (ad2.add c) = some (.int .i64 y))) (by kernel_rfl) ?_ (fun hHeld => ?_)
    ·exact HLS.out
    refine takeT 0 hHeld ?_
    (try simp only [Act.put, ly])
    refine takeT 1 hHeld ?_
    (try simp only [Act.put, ly])
    refine takeT 2 hHeld ?_
    (try simp only [Act.put, ly])
    refine takeT 3 hHeld ?_
    (try simp only [Act.put, ly])
    refine takeT 4 hHeld ?_
    (try simp only [Act.put, ly])
    refine takeT 5 hHeld ?_
    (try simp only [Act.put, ly])
    refine takeT 6 hHeld ?_
    (try simp only [Act.put, ly])
    refine takeT 7 hHeld ?_
    (try simp only [Act.put, ly])
    refine takeT 8 hHeld ?_
    (try simp only [Act.put, ly])
    (try rw [d2])
    refine wpAnyH_done (by kernel_rfl) ?_ _
    refine NoPanic.normal ?_
    clear d2
    go_wp2_with fail
    go_roundw
    case rel =>
     refine ⟨c + 1, by omega, by go_num, Lib.hid (fun j hj => ?_), HB.out.drew⟩
     by_cases e : j = c
     ·subst e; rw [HX.out, HY.out]; exact HE.out
     ·exact HALL.out j (by omega)
    case measure => simp only [intOf]; omega
   ·have d2 : (x != y) = true := bne_iff_ne.2 hxy
    have HNE : Hid (¬ a = b) := fun e => hxy (by rw [← HX.out, ← HY.out, e])
    clear hxy
    go_upto_region 6 with fail
    refine wp_region_noPanic ?_
    refine wp_region_held_drew (S := (fun W => W.cell? (ad1.add c) = some (.int .i64 x) ∧ W.cell? (ad2.add c) = some (.int .i64 y))) (by kernel_rfl) ?_ (fun hHeld => ?_)
    ·exact HLS.out
    refine takeT 0 hHeld ?_
    (try simp only [Act.put, ly])
    refine takeT 1 hHeld ?_
    (try simp only [Act.put, ly])
    refine takeT 2 hHeld ?_
    (try simp only [Act.put, ly])
    refine takeT 3 hHeld ?_
    (try simp only [Act.put, ly])
    refine takeT 4 hHeld ?_
    (try simp only [Act.put, ly])
    refine takeT 5 hHeld ?_
    (try simp only [Act.put, ly])
    refine takeT 6 hHeld ?_
    (try simp only [Act.put, ly])
    refine takeT 7 hHeld ?_
    (try simp only [Act.put, ly])
    refine takeT 8 hHeld ?_
    (try simp only [Act.put, ly])
    (try rw [d2])
    refine wpAnyH_done (by kernel_rfl) ?_ _
    refine NoPanic.normal ?_
    clear d2
    go_wp2_with fail
    go_ret
    exact ⟨Tells.no HNE.out, HB.out.drew⟩
  ·obtain rfl : c = m := by omega
   have HEQ : Hid (a = b) := list_ext_getD (by rw [HM.out, HN.out]) (fun x hx => HALL.out x (by have := HM.out; omega))
   go_wp2_with fail
   go_ret
   exact ⟨Tells.yes HEQ.out, HB.out⟩
set_option maxHeartbeats 1000000 in
theorem eqv1_any (w : World) (v1 v2 : Value) (a b : List Int) (h1 : IntsV w v1 a) (h2 : IntsV w v2 b) :
 Calls Tryz.prog 42 #[v1, v2] w fun e w' => Tells (a = b) e ∧ Below w.heap.size w w' := by
 have H1 := Lib.hid h1
 have H2 := Lib.hid h2
 obtain ⟨A1, c1, rfl, -, -, -⟩ := h1.op
 obtain ⟨A2, c2, rfl, -, -, -⟩ := h2.op
 clear h1 h2
 go_enter Tryz.func42, Tryz.ntmps42
 go_wp2_with fail
 refine (equalI_any _ _ _ a b H1.out H2.out).mono ?_
 rintro e w1 ⟨⟨q, rfl, hq⟩, hb1⟩
 go_wp2_with fail
 go_ret
 exact ⟨⟨_, rfl, hq⟩, hb1⟩
set_option maxRecDepth 100000 in
set_option maxHeartbeats 4000000 in
theorem eqMatI_any (w : World) (v1 v2 : Value) (L1 L2 : List (List Int)) (h1 : IMat w v1 L1) (h2 : IMat w v2 L2) :
 Calls Tryz.prog 40 #[v1, v2, .func (Fn.func 42) #[] #[]] w fun e w' => Tells (L1 = L2) e ∧ Below w.heap.size w w' := by
 have H1 := Lib.hid h1
 have H2 := Lib.hid h2
 obtain ⟨A1, c1, rfl, -, l1, l2⟩ := h1.op
 obtain ⟨A2, c2, rfl, -, l3, l4⟩ := h2.op
 obtain ⟨m, hm⟩ : ∃ r, L1.length = r := ⟨_, rfl⟩
 obtain ⟨n, hn⟩ : ∃ r, L2.length = r := ⟨_, rfl⟩
 have HM := Lib.hid hm
 have HN := Lib.hid hn
 rw [hm] at H1 l1 ⊢
 rw [hn] at H2 l3 ⊢
 unfold maxLen at l2 l4
 clear h1 h2 hm hn
 by_cases hmn : m = n
 case neg =>
  have d1 : ((m : Int) != (n : Int)) = true := by simp only [bne_iff_ne]; omega
  have HNE : Hid (¬ L1 = L2) := fun e => hmn (by rw [← HM.out, ← HN.out, e])
  clear hmn
  go_enter Tryz.func40, Tryz.ntmps40
  go_wp2_with fail
  go_ret
  exact ⟨Tells.no HNE.out, bel⟩
 subst hmn
 have d1 : ((m : Int) != (m : Int)) = false := bne_self_eq_false _
 go_enter Tryz.func40, Tryz.ntmps40
 go_wp2_with fail
 go_loopw [17] (fun i wr => ∃ (c : Nat), c ≤ m ∧ i = .int .i64 c ∧ Hid (∀ j, j < c → L1[j]? = L2[j]?) ∧ Below w.heap.size w wr) (fun i _ => m - (intOf i).toNat)
 case atStart => exact ⟨0, by omega, rfl, Lib.hid (fun j hj => absurd hj (Nat.not_lt_zero j)), bel⟩
 case round =>
  obtain ⟨c, hc, rfl, hall, hB⟩ := hrel
  obtain ⟨wo, rfl⟩ : ∃ wo : World, wo = wr := ⟨_, rfl⟩
  have HB := Lib.hid hB
  have HALL := Lib.hid hall.out
  have yo := hB.size
  clear hB hall
  by_cases hlt : c < m
  ·obtain ⟨x, hx⟩ : ∃ z, L1[c]? = some z := ⟨_, List.getElem?_eq_getElem (by have := HM.out; omega)⟩
   obtain ⟨y, hy⟩ : ∃ z, L2[c]? = some z := ⟨_, List.getElem?_eq_getElem (by have := HN.out; omega)⟩
   obtain ⟨ad1, D1, e1, rfl, hb1, g1, i1, -, -⟩ := H1.out.at hx
   obtain ⟨ad2, D2, e2, rfl, hb2, g2, i2, -, -⟩ := H2.out.at hy
   have hk : Keep (fun _ => False) w wo := .of_below HB.out
   have g1' : wo.cell? (ad1.add c) = _ := cell_keep (X := fun _ => False) g1 (by rw [addr_block]; exact hb1) id hk
   have g2' : wo.cell? (ad2.add c) = _ := cell_keep (X := fun _ => False) g2 (by rw [addr_block]; exact hb2) id hk
   have HI1 := Lib.hid (i1.keep hk)
   have HI2 := Lib.hid (i2.keep hk)
   have HXY : Hid (L1[c]? = some x ∧ L2[c]? = some y) := ⟨hx, hy⟩
   have k0 : (0 : Int) ≤ (c : Int) := by omega
   have k1 : (c : Int) < (m : Int) := by omega
   obtain ⟨p, hp⟩ : ∃ p, x.length = p := ⟨_, rfl⟩
   obtain ⟨q, hq⟩ : ∃ p, y.length = p := ⟨_, rfl⟩
   rw [hp] at g1' HI1
   rw [hq] at g2' HI2
   clear hx hy g1 g2 i1 i2 hk hp hq
   go_wp2_with fail
   refine (eqv1_any _ _ _ x y HI1.out HI2.out).mono ?_
   rintro e w2 ⟨⟨b, rfl, hb⟩, hb2'⟩
   have y2 := hb2'.size
   have HB2 : Hid (Below w.heap.size w w2) := HB.out.trans (hb2'.mono (by omega))
   cases b
   ·have HNE : Hid (¬ L1 = L2) := fun e => by
     have h := HXY.out.1
     rw [e, HXY.out.2] at h
     injection h with h
     have := hb.out.2 h.symm
     cases this
    clear hb
    go_wp2_with fail
    go_ret
    exact ⟨Tells.no HNE.out, HB2.out⟩
   ·have HE : Hid (x = y) := hb.out.1 rfl
    clear hb
    go_wp2_with fail
    go_roundw
    case rel =>
     refine ⟨c + 1, by omega, by go_num, Lib.hid (fun j hj => ?_), HB2.out⟩
     by_cases e : j = c
     ·subst e; rw [HXY.out.1, HXY.out.2, HE.out]
     ·exact HALL.out j (by omega)
    case measure => simp only [intOf]; omega
  ·obtain rfl : c = m := by omega
   have HEQ : Hid (L1 = L2) := by
    apply List.ext_getElem?
    intro j
    by_cases hj : j < c
    ·exact HALL.out j hj
    ·rw [List.getElem?_eq_none (by have := HM.out; omega), List.getElem?_eq_none (by have := HN.out; omega)]
   go_wp2_with fail
   go_ret
   exact ⟨Tells.yes HEQ.out, HB.out⟩
end Go.Proofs.YtdambnieminnfaaGreat

