/- Contracts of the functions that the statements reach, part 26. -/
import Derived.Test.YtbdcjhoedhhabaaGreatRows
import Derived.Deep.OwnRows
import Derived.Test.YtbdcjhoedhhabaaGreatB21
import Derived.Test.YtbdcjhoedhhabaaGreatB22
import Derived.Test.YtbdcjhoedhhabaaGreatB25
set_option linter.unusedSimpArgs false
set_option linter.unusedVariables false

/- The costs of groups of running times by sums from the start. -/
namespace Go.Proofs.YtbdcjhoedhhabaaGreat
open Go.RowKit
attribute [local go_sem ↓] Go.wp_at_zero Go.wp_at_succ

/-- The sum of the weights. -/
def wS : List (Int × Int) → Int
 | [] => 0
 | x :: l => x.2 + wS l
/-- The sum of the products of weights and times. -/
def pS : List (Int × Int) → Int
 | [] => 0
 | x :: l => x.2 * x.1 + pS l

theorem wS_append : ∀ (a b : List (Int × Int)), wS (a ++ b) = wS a + wS b
 | [], b => by simp [wS]
 | x :: a, b => by simp only [List.cons_append, wS, wS_append a b]; omega

theorem pS_append : ∀ (a b : List (Int × Int)), pS (a ++ b) = pS a + pS b
 | [], b => by simp [pS]
 | x :: a, b => by simp only [List.cons_append, pS, pS_append a b]; omega

theorem bsum_ws (t : Int) : ∀ (xs : List (Int × Int)) (s : Int), xs.foldl (fun s x => s + x.2 * (t - x.1)) s = s + (t * wS xs - pS xs)
 | [], s => by simp [wS, pS]
 | x :: xs, s => by
   rw [List.foldl_cons, bsum_ws t xs]
   simp only [wS, pS, Int.mul_add, Int.mul_sub]
   rw [Int.mul_comm t x.2]
   omega

theorem bc_sums (l : List (Int × Int)) {h i : Nat} (hh : h ≤ i) : bc l h i = tim l (i - 1) * (wS (l.take i) - wS (l.take h)) - (pS (l.take i) - pS (l.take h)) := by
 have e : l.take i = l.take h ++ (l.take i).drop h := by
  have h1 := List.take_append_drop h (l.take i)
  rw [List.take_take, Nat.min_eq_left hh] at h1
  exact h1.symm
 have e1 := congrArg wS e
 have e2 := congrArg pS e
 rw [wS_append] at e1
 rw [pS_append] at e2
 unfold bc bsum
 rw [bsum_ws, e1, e2]
 have e3 : wS (l.take h) + wS ((l.take i).drop h) - wS (l.take h) = wS ((l.take i).drop h) := by omega
 rw [e3]
 omega

theorem wS_take (l : List (Int × Int)) (k : Nat) (e : Int × Int) (h : l[k]? = some e) : wS (l.take (k + 1)) = wS (l.take k) + e.2 ∧ pS (l.take (k + 1)) = pS (l.take k) + e.2 * e.1 := by
 rw [List.take_add_one, h, wS_append, pS_append]
 simp [wS, pS]

theorem mul_pos_bound {y d : Int} (h1 : 0 ≤ y) (h2 : y ≤ 65536) (h3 : 0 ≤ d) (h4 : d ≤ 67108864) : 0 ≤ y * d ∧ y * d ≤ 4398046511104 := by
 have a1 : 0 ≤ y * (67108864 - d) := Int.mul_nonneg h1 (by omega)
 have a2 : 0 ≤ y * d := Int.mul_nonneg h1 h3
 rw [Int.mul_sub] at a1
 omega

theorem wS_range : ∀ (xs : List (Int × Int)), (∀ x ∈ xs, 0 ≤ x.1 ∧ x.1 ≤ 67108864 ∧ 1 ≤ x.2 ∧ x.2 ≤ 65536) → (0 ≤ wS xs ∧ wS xs ≤ 65536 * (xs.length : Int)) ∧ 0 ≤ pS xs ∧ pS xs ≤ 4398046511104 * (xs.length : Int)
 | [], _ => by simp [wS, pS]
 | x :: xs, h => by
   have hx := h x (by simp)
   have := wS_range xs (fun y hy => h y (by simp [hy]))
   have hb := mul_pos_bound (y := x.2) (d := x.1) (by omega) (by omega) (by omega) (by omega)
   simp only [wS, pS, List.length_cons]
   omega

theorem sums_range {l : List (Int × Int)} (h : BSmall l) (k : Nat) : (0 ≤ wS (l.take k) ∧ wS (l.take k) ≤ 4194304) ∧ 0 ≤ pS (l.take k) ∧ pS (l.take k) ≤ 281474976710656 := by
 have h1 := wS_range (l.take k) (fun x hx => h.2 x (List.mem_of_mem_take hx))
 have h2 : (l.take k).length ≤ 64 := by rw [List.length_take]; have := h.1; omega
 omega

theorem tmul_bound {t d : Int} (h1 : 0 ≤ t) (h2 : t ≤ 67108864) (h3 : -4194304 ≤ d) (h4 : d ≤ 4194304) : -281474976710656 ≤ t * d ∧ t * d ≤ 281474976710656 := by
 have a1 : 0 ≤ t * (4194304 - d) := Int.mul_nonneg h1 (by omega)
 have a2 : 0 ≤ t * (4194304 + d) := Int.mul_nonneg h1 (by omega)
 rw [Int.mul_sub] at a1
 rw [Int.mul_add] at a2
 omega

/- bucket.group's closure. -/

/-- The blocks of bucket.group's closure: the list's box, the boxes of the two lists of sums, these lists. -/
structure GrpOk (w : World) (a : Addr) (m cap g1 g3 g4 gw gp : Nat) (l : List (Int × Int)) : Prop where
 c1 : w.cell? ⟨g1, 0, none⟩ = some (.slice (some a) m cap)
 c3 : w.cell? ⟨g3, 0, none⟩ = some (.slice (some ⟨gw, 0, none⟩) (m + 1) (m + 1))
 c4 : w.cell? ⟨g4, 0, none⟩ = some (.slice (some ⟨gp, 0, none⟩) (m + 1) (m + 1))
 cw : ∀ j, j ≤ m → w.cell? ⟨gw, j, none⟩ = some (.int .i64 (wS (l.take j)))
 cp : ∀ j, j ≤ m → w.cell? ⟨gp, j, none⟩ = some (.int .i64 (pS (l.take j)))
 b1 : g1 < w.heap.size
 b3 : g3 < w.heap.size
 b4 : g4 < w.heap.size
 bw : gw < w.heap.size
 bp : gp < w.heap.size

theorem GrpOk.keep {w w' : World} {a : Addr} {m cap g1 g3 g4 gw gp : Nat} {l : List (Int × Int)} (h : GrpOk w a m cap g1 g3 g4 gw gp l) (hk : Keep (fun _ => False) w w') : GrpOk w' a m cap g1 g3 g4 gw gp l :=
 ⟨cell_keep h.c1 h.b1 id hk, cell_keep h.c3 h.b3 id hk, cell_keep h.c4 h.b4 id hk, fun j hj => cell_keep (h.cw j hj) h.bw id hk, fun j hj => cell_keep (h.cp j hj) h.bp id hk, Nat.lt_of_lt_of_le h.b1 hk.size, Nat.lt_of_lt_of_le h.b3 hk.size, Nat.lt_of_lt_of_le h.b4 hk.size, Nat.lt_of_lt_of_le h.bw hk.size, Nat.lt_of_lt_of_le h.bp hk.size⟩

set_option maxRecDepth 100000 in
set_option maxHeartbeats 8000000 in
theorem bgroup1_any (w : World) (a : Addr) (m cap g1 g3 g4 gw gp : Nat) (l : List (Int × Int)) (h i : Nat) (hG : GrpOk w a m cap g1 g3 g4 gw gp l) (hl : Tims w (.slice (some a) m cap) l) (hml : l.length = m) (hb : BSmall l) (hh : h ≤ i) (hi : i ≤ m) :
 Calls Tryz.prog 366 (#[.int .i64 (h : Int), .int .i64 (i : Int)] ++ #[.pointer (some ⟨g1, 0, none⟩), .pointer (some ⟨g3, 0, none⟩), .pointer (some ⟨g4, 0, none⟩)]) w fun e w' => e = .returned (.int .i64 (bc l h i)) ∧ Below w.heap.size w w' := by
 have HG := Lib.hid hG
 have HBC := Lib.hid (bc_sums l hh)
 have HB := Lib.hid hb
 have hm64 : m ≤ 64 := by have := hb.1; omega
 obtain ⟨R, hR⟩ : ∃ R, bc l h i = R := ⟨_, rfl⟩
 rw [hR]
 have HR := Lib.hid hR
 by_cases hq : h = i
 ·have HE : Hid (R = 0) := by
   show _ = _
   rw [← HR.out]
   unfold bc
   rw [List.drop_eq_nil_of_le (by rw [List.length_take]; omega)]; rfl
  have d1 : ((h : Int) == (i : Int)) = true := beq_iff_eq.2 (by omega)
  clear hq hG hl hb hR
  go_enter Tryz.func366, Tryz.ntmps366
  go_wp2_with fail
  go_ret
  exact ⟨by first | rfl | (rw [HE.out]; rfl) | rw [HE.out], bel⟩
 have d1 : ((h : Int) == (i : Int)) = false := beq_eq_false_iff_ne.2 (by omega)
 obtain ⟨⟨x, y⟩, hz⟩ : ∃ z, l[i - 1]? = some z := ⟨_, List.getElem?_eq_getElem (by omega)⟩
 obtain ⟨a', ea', hb', x0, -, -, -⟩ := hl.at hz
 injection ea' with ea'
 subst ea'
 simp only at x0
 have HTM : Hid (tim l (i - 1) = x) := by show _ = _; unfold tim; rw [hz]; rfl
 have hx := tim_range hb (i - 1)
 rw [HTM.out] at hx
 have c1 := hG.c1
 have c3 := hG.c3
 have c4 := hG.c4
 have cwi := hG.cw i hi
 have cwh := hG.cw h (by omega)
 have cpi := hG.cp i hi
 have cph := hG.cp h (by omega)
 have r1 := sums_range hb i
 have r2 := sums_range hb h
 obtain ⟨Wi, hWi⟩ : ∃ q, wS (l.take i) = q := ⟨_, rfl⟩
 obtain ⟨Wh, hWh⟩ : ∃ q, wS (l.take h) = q := ⟨_, rfl⟩
 obtain ⟨Pi, hPi⟩ : ∃ q, pS (l.take i) = q := ⟨_, rfl⟩
 obtain ⟨Ph, hPh⟩ : ∃ q, pS (l.take h) = q := ⟨_, rfl⟩
 have HE : Hid (R = x * (Wi - Wh) - (Pi - Ph)) := by
  show _ = _
  rw [← HR.out, HBC.out, HTM.out, hWi, hWh, hPi, hPh]
 rw [hWi] at cwi r1
 rw [hWh] at cwh r2
 rw [hPi] at cpi r1
 rw [hPh] at cph r2
 have hmb := tmul_bound (t := x) (d := Wi - Wh) hx.1 hx.2 (by omega) (by omega)
 have k1 : IntKind.i64.wrap ((i : Int) - 1) = ((i - 1 : Nat) : Int) := by rw [IntKind.wrap_i64]; omega
 have k2 : (0 : Int) ≤ ((i - 1 : Nat) : Int) := by omega
 have k3 : ((i - 1 : Nat) : Int) < (m : Int) := by omega
 have k4 : (0 : Int) ≤ (i : Int) := by omega
 have k5 : (i : Int) < ((m + 1 : Nat) : Int) := by omega
 have k6 : (0 : Int) ≤ (h : Int) := by omega
 have k7 : (h : Int) < ((m + 1 : Nat) : Int) := by omega
 have k8 : IntKind.i64.wrap (Wi - Wh) = Wi - Wh := by rw [IntKind.wrap_i64]; omega
 have k9 : IntKind.i64.wrap (x * (Wi - Wh)) = x * (Wi - Wh) := by rw [IntKind.wrap_i64]; omega
 have k10 : IntKind.i64.wrap (Pi - Ph) = Pi - Ph := by rw [IntKind.wrap_i64]; omega
 have k11 : IntKind.i64.wrap (x * (Wi - Wh) - (Pi - Ph)) = x * (Wi - Wh) - (Pi - Ph) := by rw [IntKind.wrap_i64]; omega
 obtain ⟨n1, hn1⟩ : ∃ n1, m + 1 = n1 := ⟨_, rfl⟩
 rw [hn1] at c3 c4 k5 k7
 clear hn1
 have hGS : Hid ((w.cell? ⟨g1, 0, none⟩ = some (.slice (some a) m cap) ∧ w.cell? (a.add ((i - 1) * 2)) = some (.int .i64 x)) ∧ (w.cell? ⟨g3, 0, none⟩ = some (.slice (some ⟨gw, 0, none⟩) n1 n1) ∧ w.cell? ⟨gw, i, none⟩ = some (.int .i64 Wi) ∧ w.cell? ⟨gw, h, none⟩ = some (.int .i64 Wh)) ∧ w.cell? ⟨g4, 0, none⟩ = some (.slice (some ⟨gp, 0, none⟩) n1 n1) ∧ w.cell? ⟨gp, i, none⟩ = some (.int .i64 Pi) ∧ w.cell? ⟨gp, h, none⟩ = some (.int .i64 Ph)) := ⟨⟨c1, x0⟩, ⟨c3, cwi, cwh⟩, c4, cpi, cph⟩
 clear hq hG hl hb hR hWi hWh hPi hPh hz
 go_enter Tryz.func366, Tryz.ntmps366
 go_wp2_with fail
 go_region_held3 (fun w => (w.cell? ⟨g1, 0, none⟩ = some (.slice (some a) m cap) ∧ w.cell? (a.add ((i - 1) * 2)) = some (.int .i64 x)) ∧ (w.cell? ⟨g3, 0, none⟩ = some (.slice (some ⟨gw, 0, none⟩) n1 n1) ∧ w.cell? ⟨gw, i, none⟩ = some (.int .i64 Wi) ∧ w.cell? ⟨gw, h, none⟩ = some (.int .i64 Wh)) ∧ w.cell? ⟨g4, 0, none⟩ = some (.slice (some ⟨gp, 0, none⟩) n1 n1) ∧ w.cell? ⟨gp, i, none⟩ = some (.int .i64 Pi) ∧ w.cell? ⟨gp, h, none⟩ = some (.int .i64 Ph)) (exact hGS.out) (fail)
 go_wp2_with fail
 go_ret
 exact ⟨by first | rfl | (rw [HE.out]; rfl) | rw [HE.out], bel⟩
end Go.Proofs.YtbdcjhoedhhabaaGreat

/- Lists of one-cell elements that grow by append. -/
namespace Go.Proofs.YtbdcjhoedhhabaaGreat
open Go.RowKit

/-- A list of one-cell elements that lies in a block of its own, at or above base. -/
def Own1 (w : World) (base : Nat) (e : TypeId) (v : Value) (us : List Value) : Prop := w.ownsRow base e 1 v us.length us

section
variable {w w' : World} {base : Nat} {v : Value} {us : List Value} {X : Nat → Prop} {e : TypeId}
theorem Own1.nil (w : World) (base : Nat) (e : TypeId) : Own1 w base e (.slice none 0 0) [] := World.ownsRow_nil _ _ _ _
theorem Own1.lt (h : Own1 w base e v us) {g : Nat} (hg : v.ownBlock = some g) : g < w.heap.size ∧ base ≤ g := by
 rcases h.2 with ⟨h', _⟩ | ⟨g', cap', cur, h', hb, hg', _, _, hsz, htake⟩
 ·rw [h'] at hg; cases hg
 ·rw [h'] at hg; injection hg with hg; subst hg
  exact ⟨(Array.getElem?_eq_some_iff.1 hg').1, hb⟩
theorem Own1.below (h : Own1 w base e v us) (hb : Below w.heap.size w w') : Own1 w' base e v us := by
 refine ⟨h.1, ?_⟩
 rcases h.2 with ⟨h', hn⟩ | ⟨g', cap', cur, h', h3, hg', h1, h2, hsz, htake⟩
 ·exact .inl ⟨h', hn⟩
 ·exact .inr ⟨g', cap', cur, h', h3, by rw [hb.block g' (Array.getElem?_eq_some_iff.1 hg').1]; exact hg', h1, h2, hsz, htake⟩
theorem Own1.keep (h : Own1 w base e v us) (hb : Keep X w w') (hX : ∀ g, v.ownBlock = some g → ¬ X g) : Own1 w' base e v us := by
 refine ⟨h.1, ?_⟩
 rcases h.2 with ⟨h', hn⟩ | ⟨g', cap', cur, h', h3, hg', h1, h2, hsz, htake⟩
 ·exact .inl ⟨h', hn⟩
 ·exact .inr ⟨g', cap', cur, h', h3, by rw [hb.block g' (Array.getElem?_eq_some_iff.1 hg').1 (hX g' (by rw [h']; rfl))]; exact hg', h1, h2, hsz, htake⟩
/-- The shape of such a list that is not empty. -/
theorem Own1.op (h : Own1 w base e v us) : (v = .slice none 0 0 ∧ us = []) ∨ ∃ (g cap : Nat) (cur : Array Value), v = .slice (some ⟨g, 0, none⟩) us.length cap ∧ base ≤ g ∧ us.length ≤ cap ∧ Loc w g e cur ∧ ∀ (i : Nat) (u : Value), us[i]? = some u → cur[i]? = some u := by
 have hl := h.1
 rcases h.2 with ⟨h', hn⟩ | ⟨g', cap', cur, h', h3, hg', h1, h2, hsz, htake⟩
 ·exact .inl ⟨h', List.length_eq_zero_iff.1 hn⟩
 ·refine .inr ⟨g', cap', cur, h', h3, h1, hg', fun i u hu => ?_⟩
  have hi := (List.getElem?_eq_some_iff.1 hu).1
  rw [← htake, List.getElem?_take] at hu
  split at hu
  ·simpa using hu
  ·cases hu
end

theorem ValL.up {k j : Nat} {w : World} {X : Nat → Prop} {rs : List R4} {f : Nat → Rat} (h : ValL k w X rs f) (hj : k ≤ j) : ValL j w X rs f := fun i r hr => (h i r hr).mono hj
/-- The first d values are canonical. -/
def ValP (d : Nat) (w : World) (X : Nat → Prop) (rs : List R4) (f : Nat → Rat) : Prop := ∀ i r, i < d → rs[i]? = some r → RatV w X r.v (f i)
theorem ValP.keep {d : Nat} {w w' : World} {X : Nat → Prop} {rs : List R4} {f : Nat → Rat} (h : ValP d w X rs f) (hk : Keep X w w') : ValP d w' X rs f := fun i r hi hr => (h i r hi hr).keep hk
theorem ValP.zero (w : World) (X : Nat → Prop) (rs : List R4) (f : Nat → Rat) : ValP 0 w X rs f := fun i r hi _ => absurd hi (Nat.not_lt_zero i)
theorem ValP.set {d : Nat} {w : World} {X : Nat → Prop} {rs : List R4} {f : Nat → Rat} (h : ValP d w X rs f) {r : R4} (hr : RatV w X r.v (f d)) : ValP (d + 1) w X (rs.set d r) f := fun j q hj hq => by
 by_cases hjd : j = d
 ·subst hjd
  rw [List.getElem?_set] at hq
  split at hq
  ·split at hq
   ·injection hq with hq; subst hq; exact hr
   ·simp at hq
  ·exact absurd rfl ‹_›
 ·rw [List.getElem?_set_ne (fun e => hjd e.symm)] at hq
  exact h j q (by omega) hq
theorem ValP.all {d : Nat} {w : World} {X : Nat → Prop} {rs : List R4} {f : Nat → Rat} (h : ValP d w X rs f) (hd : rs.length = d) : ValV w X rs f := fun i r hr => h i r (by rw [← hd]; exact (List.getElem?_eq_some_iff.1 hr).1) hr

theorem info_int1 : (Tryz.prog.info? 3).map (fun i => (i.zero, i.size, i.bytes)) = some (some (.int .i64 0), 1, 8) := by kernel_rfl

/- A block that holds no words, and that is no list's own, is no part of a list of fractions. -/

/-- No word of 32 bits. -/
def noW (u : Value) : Prop := ∀ z : Int, u ≠ .int .u32 z
/-- The list's own block, if it has one, is at or above B. -/
def Fr (B : Nat) (v : Value) : Prop := ∀ (a : Addr) (n c : Nat), v = .slice (some a) n c → B ≤ a.block

section
variable {w : World} {X : Nat → Prop} {g k n B : Nat} {t : TypeId} {cs : Array Value} {v : Value} {q : Rat} {f : Nat → Rat} {xs : List Nat} {neg : Bool}
theorem Loc.mem (L : Loc w g t cs) {a : Addr} {u : Value} (h : w.cell? a = some u) (ha : a.block = g) : u ∈ cs := by
 unfold World.cell? at h
 rw [ha, L] at h
 dsimp only at h
 split at h
 ·cases h
 ·exact Array.mem_of_getElem? h
theorem Words.off (h : Words w X v xs) (L : Loc w g t cs) (hc : ∀ u ∈ cs, noW u) : Words w (fun b => X b ∨ b = g) v xs := by
 obtain ⟨⟨A, c, hv, h1, h2, h3, h4⟩, h5⟩ := h
 refine ⟨⟨A, c, hv, h1, h2, h3, fun hn => ?_⟩, h5⟩
 obtain ⟨a, hA, hlt, hx, hcell⟩ := h4 hn
 refine ⟨a, hA, hlt, fun hy => ?_, hcell⟩
 rcases hy with hy | hy
 ·exact hx hy
 ·have h0 := hcell 0 _ (nums_get (k := .u32) (xs := xs) (i := 0) hn)
  have := L.mem h0 (by rw [addr_block]; exact hy)
  exact hc _ this _ rfl
theorem IntR.off (h : IntR w X v neg xs) (L : Loc w g t cs) (hc : ∀ u ∈ cs, noW u) : IntR w (fun b => X b ∨ b = g) v neg xs := by
 obtain ⟨a, b, h⟩ := h
 exact ⟨a, b, h.off L hc⟩
theorem RatL.off (h : RatL k w X v q) (L : Loc w g t cs) (hc : ∀ u ∈ cs, noW u) : RatL k w (fun b => X b ∨ b = g) v q := by
 obtain ⟨n1, xs, n2, ys, ⟨A, c, B, d, e, h1, h2⟩, h3⟩ := h
 exact ⟨n1, xs, n2, ys, ⟨A, c, B, d, e, h1.off L hc, h2.off L hc⟩, h3⟩
theorem Nums.off (h : Nums k w X v n f) (L : Loc w g t cs) (hc : ∀ u ∈ cs, noW u) (hf : Fr B v) (hg : g < B) : Nums k w (fun b => X b ∨ b = g) v n f := by
 obtain ⟨rs, A, cap, h1, h2, h3, h4, h5, h6⟩ := h
 refine ⟨rs, A, cap, h1, h2, h3, h4, fun hn => ?_, fun i r hr => (h6 i r hr).off L hc⟩
 obtain ⟨a, ea, hb, hX, hcell⟩ := h5 hn
 refine ⟨a, ea, hb, fun hy => ?_, hcell⟩
 rcases hy with hy | hy
 ·exact hX hy
 ·have := hf a n cap (by rw [h2, ea])
  omega
theorem Fr.nil (B : Nat) : Fr B (.slice none 0 0) := fun a n c h => by cases h
theorem Fr.own {g c : Nat} {A : Option Nat} (h : B ≤ g) : Fr B (.slice (some ⟨g, 0, A⟩) n c) := fun a n' c' e => by injection e with e; injection e with e; rw [← e]; exact h
theorem Fr.mono {B' : Nat} (h : Fr B v) (hB : B' ≤ B) : Fr B' v := fun a n c e => Nat.le_trans hB (h a n c e)
end

/- Lists of lists that grow; blocks of different types; facts whose kept-out blocks are told anew (as in Nl9, Nl11, which serve layer 8). -/

/-- A list of lists that lies in a block of its own, at or above base. -/
def OwnL (w : World) (base : Nat) (v : Value) (us : List Value) : Prop := w.ownsRow base 71 1 v us.length us
def isL (u : Value) : Prop := ∃ B p c, u = .slice B p c
theorem isL.one {u : Value} (h : isL u) : u.oneCell' = true := by
 obtain ⟨B, p, c, rfl⟩ := h; rfl
theorem OwnL.below {w w' : World} {base : Nat} {v : Value} {us : List Value} (h : OwnL w base v us) (hb : Below w.heap.size w w') : OwnL w' base v us := by
 refine ⟨h.1, ?_⟩
 rcases h.2 with ⟨h', hn⟩ | ⟨g', cap', cur, h', h3, hg', h1, h2, hsz, htake⟩
 ·exact .inl ⟨h', hn⟩
 ·exact .inr ⟨g', cap', cur, h', h3, by rw [hb.block g' (Array.getElem?_eq_some_iff.1 hg').1]; exact hg', h1, h2, hsz, htake⟩
section
variable {W W1 : World} {h base base2 sz sz2 n n2 k B : Nat} {t e e2 : TypeId} {cs : Array Value} {v v2 : Value} {xs xs2 : List Value} {rs : List R4} {f : Nat → Rat}
theorem loc_other (hown : W.ownsRow base e sz v n xs) (hg : W.grownBy W1 v.ownBlock) (L : Loc W h t cs) (hne : t ≠ e) : Loc W1 h t cs := by
 refine (hg.block h L.lt (fun eq => ?_)).trans L
 rcases hown.2 with ⟨rfl, _⟩ | ⟨g, cap, cur, rfl, _, hgg, _⟩
 ·cases eq
 ·injection eq with eq
  simp at eq
  subst eq
  unfold Loc at L
  rw [hgg] at L
  injection L with L
  injection L with e1 e2 e3
  exact hne e2.symm
end

section
variable {k n : Nat} {W W2 : World} {X Y : Nat → Prop} {v : Value} {q : Rat} {f : Nat → Rat} {rs : List R4}
theorem Keep.both (h : Keep X W W2) : Keep (fun b => X b ∨ Y b) W W2 := h.weak (fun _ _ h => .inl h)
theorem OwnL.keep {base : Nat} {us : List Value} (h : OwnL W base v us) (hb : Keep X W W2) (hX : ∀ g, v.ownBlock = some g → ¬ X g) : OwnL W2 base v us := by
 refine ⟨h.1, ?_⟩
 rcases h.2 with ⟨h', hn⟩ | ⟨g', cap', cur, h', h3, hg', h1, h2, hsz, htake⟩
 ·exact .inl ⟨h', hn⟩
 ·exact .inr ⟨g', cap', cur, h', h3, by rw [hb.block g' (Array.getElem?_eq_some_iff.1 hg').1 (hX g' (by rw [h']; rfl))]; exact hg', h1, h2, hsz, htake⟩
end

/- Lists of integers that a call makes; lists of these that grow by append. -/

theorem info_ints : (Tryz.prog.info? 27).map (fun i => (i.zero, i.size, i.bytes)) = some (some (.slice none 0 0), 1, 24) := by kernel_rfl
/-- A block of integers. -/
def RowI (w : World) (g : Nat) (zs : List Int) : Prop := Loc w g 3 (zs.map (Value.int .i64)).toArray
/-- A list of integers that is a block of its own. -/
def IntsO (w : World) (u : Value) (zs : List Int) : Prop := ∃ g, u = .slice (some ⟨g, 0, none⟩) zs.length zs.length ∧ RowI w g zs ∧ ∀ z ∈ zs, -9223372036854775808 ≤ z ∧ z ≤ 9223372036854775807
section
variable {w w' : World} {g base : Nat} {u v : Value} {zs : List Int} {us : List Value} {L : List (List Int)}
theorem add0 (g i : Nat) : (⟨g, 0, none⟩ : Addr).add i = ⟨g, i, none⟩ := by simp [Addr.add]; intro h; omega
theorem RowI.cell (h : RowI w g zs) {i : Nat} {z : Int} (hz : zs[i]? = some z) : w.cell? ⟨g, i, none⟩ = some (.int .i64 z) := by
 rw [Loc.cell h, List.getElem?_toArray, List.getElem?_map, hz]
 rfl
theorem RowI.lt (h : RowI w g zs) : g < w.heap.size := Loc.lt h
theorem RowI.below (h : RowI w g zs) (hb : Below w.heap.size w w') : RowI w' g zs := Loc.below h hb
theorem RowI.set (h : RowI w g zs) (i : Nat) (z : Int) : RowI (w.setCell ⟨g, i, none⟩ (.int .i64 z)) g (zs.set i z) := by
 have := Loc.set h i (.int .i64 z)
 unfold RowI
 rw [List.map_set, ← List.setIfInBounds_toArray]
 exact this
theorem IntsO.vals (h : IntsO w u zs) (hl : zs.length ≤ maxLen) : IntsV w u zs := by
 obtain ⟨g, rfl, hr, hz⟩ := h
 exact ⟨_, _, rfl, Nat.le_refl _, hl, fun _ => ⟨_, rfl, hr.lt, fun i z h => by rw [add0]; exact hr.cell h⟩, hz⟩
theorem IntsO.below (h : IntsO w u zs) (hb : Below w.heap.size w w') : IntsO w' u zs := by
 obtain ⟨g, rfl, hr, hz⟩ := h
 exact ⟨g, rfl, hr.below hb, hz⟩
theorem IntsO.other (h : IntsO w u zs) (hown : Own1 w base 27 v us) (hg : w.grownBy w' v.ownBlock) : IntsO w' u zs := by
 obtain ⟨g, rfl, hr, hz⟩ := h
 exact ⟨g, rfl, loc_other hown hg hr (by decide), hz⟩
theorem loc_ne {w : World} {g h : Nat} {t t' : TypeId} {cs cs' : Array Value} (L : Loc w g t cs) (L' : Loc w h t' cs') (hne : t ≠ t') : g ≠ h := fun e => by
 subst e
 unfold Loc at L L'
 rw [L] at L'
 injection L' with L'
 injection L' with e1 e2
 exact hne e2
theorem IntsO.far {t : TypeId} {cs : Array Value} {h0 : Nat} (h : IntsO w u zs) (L : Loc w h0 t cs) (ht : 3 ≠ t) (i : Nat) (x : Value) : IntsO (w.setCell ⟨h0, i, none⟩ x) u zs := by
 obtain ⟨g, rfl, hr, hz⟩ := h
 exact ⟨g, rfl, Loc.far hr (p := ⟨h0, i, none⟩) (loc_ne hr L ht) x, hz⟩
theorem Own1.far {h0 : Nat} {e : TypeId} (h : Own1 w base e v us) (hb : h0 < base) (i : Nat) (x : Value) : Own1 (w.setCell ⟨h0, i, none⟩ x) base e v us :=
 Own1.keep h ((Keep.refl (fun b => b = h0) w).set (.inl rfl) _) (fun g hg e => by have := (Own1.lt h hg).2; omega)
/-- A list of such lists. -/
theorem Own1.imat (h : Own1 w base 27 v us) (hl : us.length = L.length) (hm : L.length ≤ maxLen) (hu : ∀ (i : Nat) (u : Value) (l : List Int), us[i]? = some u → L[i]? = some l → IntsO w u l ∧ l.length ≤ maxLen) : IMat w v L := by
 have h0 := h.1
 rcases h.2 with ⟨rfl, hn⟩ | ⟨g, cap, cur, rfl, h3, hg, h1, h2, hsz, htake⟩
 ·refine ⟨none, 0, by rw [← hl, hn], by omega, Nat.zero_le _, fun h => absurd ?_ h⟩
  omega
 ·refine ⟨_, _, by rw [← hl], by omega, h2, fun _ => ⟨_, rfl, (Array.getElem?_eq_some_iff.1 hg).1, fun i l he => ?_⟩⟩
  have hi := (List.getElem?_eq_some_iff.1 he).1
  have hui := List.getElem?_eq_getElem (l := us) (i := i) (by omega)
  obtain ⟨ho, hlm⟩ := hu i _ l hui he
  have hc := World.ownsRow.cellAt h i (by omega)
  obtain ⟨gi, e, hr, hz⟩ := ho
  refine ⟨some ⟨gi, 0, none⟩, l.length, ?_, IntsO.vals ⟨gi, rfl, hr, hz⟩ hlm⟩
  rw [add0, hc, hui, e]
/-- A list of lists of integers that a call has made. -/
def IMatO (w : World) (v : Value) (L : List (List Int)) : Prop :=
 ∃ (base : Nat) (us : List Value), Own1 w base 27 v us ∧ us.length = L.length ∧ L.length ≤ maxLen ∧ ∀ (i : Nat) (u : Value) (l : List Int), us[i]? = some u → L[i]? = some l → IntsO w u l ∧ l.length ≤ maxLen
theorem IMatO.imat (h : IMatO w v L) : IMat w v L := by
 obtain ⟨base, us, h1, h2, h3, h4⟩ := h
 exact h1.imat h2 h3 h4
theorem IMatO.op (h : IMatO w v L) : ∃ (A : Option Addr) (cap : Nat), v = .slice A L.length cap ∧ IMatO w (.slice A L.length cap) L := by
 obtain ⟨A, cap, rfl, -⟩ := h.imat.op
 exact ⟨A, cap, rfl, h⟩
theorem IMatO.below (h : IMatO w v L) (hb : Below w.heap.size w w') : IMatO w' v L := by
 obtain ⟨base, us, h1, h2, h3, h4⟩ := h
 exact ⟨base, us, h1.below hb, h2, h3, fun i u l hu hl => ⟨(h4 i u l hu hl).1.below hb, (h4 i u l hu hl).2⟩⟩
theorem IMatO.far {t : TypeId} {cs : Array Value} {h0 : Nat} (h : IMatO w v L) (L0 : Loc w h0 t cs) (ht : 3 ≠ t) (ht2 : 27 ≠ t) (i : Nat) (x : Value) : IMatO (w.setCell ⟨h0, i, none⟩ x) v L := by
 obtain ⟨base, us, h1, h2, h3, h4⟩ := h
 refine ⟨base, us, Own1.keep h1 ((Keep.refl (fun b => b = h0) w).set (.inl rfl) _) (fun g hg e => ?_), h2, h3, fun j u l hu hl => ⟨(h4 j u l hu hl).1.far L0 ht i x, (h4 j u l hu hl).2⟩⟩
 rcases h1.2 with ⟨h', _⟩ | ⟨g', cap', cur, h', _, hg', _⟩
 ·rw [h'] at hg; cases hg
 ·rw [h'] at hg
  injection hg with hg
  subst hg
  exact loc_ne hg' L0 ht2 e
end
/-- make([]int, n). -/
theorem rowI_zeros {w : World} {base g n : Nat} (h : w.ownsRow base 3 1 (.slice (some ⟨g, 0, none⟩) n n) n (List.replicate n (.int .i64 0))) : RowI w g (List.replicate n 0) := by
 have hl := h.1
 rcases h.2 with ⟨h', _⟩ | ⟨g', cap', cur, h', _, hg, _, _, hsz, htake⟩
 ·simp at h'
 ·simp only [Value.slice.injEq, Option.some.injEq, Addr.mk.injEq, and_true, true_and] at h'
  obtain ⟨rfl, rfl⟩ := h'
  have : cur.toList = List.replicate n (.int .i64 0) := by
   rw [← htake, List.take_of_length_le (by simp; omega)]
  unfold RowI Loc
  rw [hg, List.map_replicate, ← this]
end Go.Proofs.YtbdcjhoedhhabaaGreat

/- make of a list of integers in a drawn region; rows that are filled from the left. -/
namespace Go.Proofs.YtbdcjhoedhhabaaGreat
open Go.RowKit
attribute [local go_sem ↓] Go.wp_at_zero Go.wp_at_succ

set_option maxRecDepth 100000 in
theorem step_makeI {ops : Array Oper} {o : Oper} {a : Act} {K : Act → World → Prop} {Q : Exit → Act → World → Prop} {E : Prop} (w : World) (hgd : o.guard = none) (l c : Operand) (ho : o.op = Op.makeSlice 27 l c) (n : Nat) (hl : a.eval l = .int .i64 (n : Int)) (hc : a.eval c = .int .i64 (n : Int)) (hn : n ≤ 1000000)
 (h : K (a.put o.dst (.slice (some ⟨w.heap.size, 0, none⟩) n n)) (w.alloc (.cells (madeCells #[.int .i64 0] n) 3))) :
 if Region.wanted o (yielded ops a.tmps) = true then Oper.wp Tryz.prog o a w K Q else E := by
 have hw : Region.wanted o (yielded ops a.tmps) = true := by simp [Region.wanted, hgd]
 rw [if_pos hw]
 unfold Oper.wp execOp
 have hrun := run_make_row' (P := Tryz.prog) 27 3 (.int .i64 0) 8 Tryz.underlying27 info_int1 rfl .i64 .i64 n (by omega) (by omega) w
 simp only [ho, hl, hc, Sem.run_bind, hrun, Result.andThen_ok, Sem.run_pure]
 exact h

theorem made_zeros (n : Nat) : madeCells #[Value.int .i64 0] n = ((List.replicate n (0 : Int)).map (Value.int .i64)).toArray := by
 rw [List.map_replicate, ← toList_madeCells_one]

theorem rowI_made {w : World} {g n : Nat} (h : Loc w g 3 (madeCells #[.int .i64 0] n)) : RowI w g (List.replicate n 0) := by
 unfold RowI
 rw [← made_zeros]
 exact h

theorem Loc.fill1 {w : World} {g : Nat} {t : TypeId} {x u : Value} (h : Loc w g t #[x]) : Loc (w.setCell ⟨g, 0, none⟩ u) g t #[u] := Loc.set h 0 u

/-- A row whose places up to c have their numbers, the others 0. -/
def preF (f : Nat → Int) (c n : Nat) : List Int := (List.range n).map fun j => if j ≤ c then f j else 0
theorem preF_len (f : Nat → Int) (c n : Nat) : (preF f c n).length = n := by simp [preF]
theorem preF_get (f : Nat → Int) (c : Nat) {n j : Nat} (hj : j < n) : (preF f c n)[j]? = some (if j ≤ c then f j else 0) := by
 unfold preF
 rw [List.getElem?_map, List.getElem?_range hj]
 rfl
theorem preF_zero {f : Nat → Int} (h : f 0 = 0) (n : Nat) : preF f 0 n = List.replicate n 0 := by
 apply List.ext_getElem?
 intro i
 by_cases hi : i < n
 ·rw [preF_get f 0 hi, List.getElem?_replicate, if_pos hi]
  by_cases h0 : i ≤ 0
  ·obtain rfl : i = 0 := by omega
   rw [if_pos h0, h]
  ·rw [if_neg h0]
 ·rw [List.getElem?_eq_none (by rw [preF_len]; omega), List.getElem?_eq_none (by simp; omega)]
theorem preF_set (f : Nat → Int) (c : Nat) {n : Nat} (_hc : c + 1 < n) : (preF f c n).set (c + 1) (f (c + 1)) = preF f (c + 1) n := by
 apply List.ext_getElem?
 intro i
 by_cases hi : i < n
 ·by_cases e : i = c + 1
  ·subst e
   rw [List.getElem?_set_self (by rw [preF_len]; exact hi), preF_get f _ hi, if_pos (Nat.le_refl _)]
  ·rw [List.getElem?_set_ne (fun h => e h.symm), preF_get f _ hi, preF_get f _ hi]
   by_cases h : i ≤ c
   ·rw [if_pos h, if_pos (by omega)]
   ·rw [if_neg h, if_neg (by omega)]
 ·rw [List.getElem?_eq_none (by rw [List.length_set, preF_len]; omega), List.getElem?_eq_none (by rw [preF_len]; omega)]
end Go.Proofs.YtbdcjhoedhhabaaGreat

