/- Contracts of the functions that the statements reach, part 27. -/
import Derived.Test.YtdambnieminnfaaGreatRows
import Derived.Test.YtdambnieminnfaaGreatX13
import Derived.Test.YtdambnieminnfaaGreatX14
import Derived.Test.YtdambnieminnfaaGreatX18
import Derived.Test.YtdambnieminnfaaGreatX23
import Derived.Test.YtdambnieminnfaaGreatX26
set_option linter.unusedSimpArgs false
set_option linter.unusedVariables false

/- Arguments opened: a list of lists of fractions (as in OpenS, which serves layer 8). -/
namespace Go.Proofs.YtdambnieminnfaaGreat
open Go.ChangeShapes Go.WideShapes Go.ChangeAt Go.RowKit Go.Joins

theorem okWide_array {P : Program} {w : World} {r : Reach} {base : Nat} {t : TypeId} {v : Value} {n : Nat} {e : TypeId} (ht : P.underlying t = some (.array n e)) (h : Value.okWide P w r base t v) : ∃ cs, v = .agg cs ∧ cs.size = P.cellsOf t := by
 simp only [Value.okWide, ht] at h
 obtain ⟨cs, h1, h2, _⟩ := h
 exact ⟨cs, h1, h2⟩
theorem cellsRats : Tryz.prog.cellsOf 55 = 1 := by kernel_rfl
theorem cellsMat : Tryz.prog.cellsOf 25 = 1 := by kernel_rfl
/-- A list of lists of raw fractions. -/
def RMat (w : World) (v : Value) (L : List (List RF)) : Prop :=
 ∃ A cap, v = .slice A L.length cap ∧ L.length ≤ cap ∧ cap ≤ maxLen ∧ (L.length ≠ 0 → ∃ a, A = some a ∧ a.block < w.heap.size ∧ ∀ i l, L[i]? = some l → ∃ B c, w.cell? (a.add i) = some (.slice B l.length c) ∧ Rats w (fun _ => False) (.slice B l.length c) l)

def qm (L : List (List RF)) : Nat → Nat → Rat := fun i => match L[i]? with
 | some l => qs l
 | none => fun _ => 0
def lens (L : List (List RF)) : Nat → Nat := fun i => match L[i]? with
 | some l => l.length
 | none => 0
theorem qm_get {L : List (List RF)} {i : Nat} {l : List RF} (h : L[i]? = some l) : qm L i = qs l := by unfold qm; rw [h]
theorem lens_get {L : List (List RF)} {i : Nat} {l : List RF} (h : L[i]? = some l) : lens L i = l.length := by unfold lens; rw [h]

section
variable {w w' : World} {v : Value} {L : List (List RF)}
theorem RMat.keep (h : RMat w v L) (hk : Keep (fun _ => False) w w') : RMat w' v L := by
 obtain ⟨A, cap, hv, h1, h2, h3⟩ := h
 refine ⟨A, cap, hv, h1, h2, fun hn => ?_⟩
 obtain ⟨a, ha, hb, hc⟩ := h3 hn
 refine ⟨a, ha, Nat.lt_of_lt_of_le hb hk.size, fun i l hl => ?_⟩
 obtain ⟨B, c, h4, h5⟩ := hc i l hl
 exact ⟨B, c, cell_keep h4 (by rw [addr_block]; exact hb) id hk, h5.keep hk⟩
theorem RMat.op (h : RMat w v L) : ∃ (A : Option Addr) (cap : Nat), v = .slice A L.length cap ∧ RMat w (.slice A L.length cap) L ∧ L.length ≤ cap ∧ cap ≤ maxLen := by
 have h0 := h
 obtain ⟨A, cap, rfl, h1, h2, -⟩ := h
 exact ⟨A, cap, rfl, h0, h1, h2⟩
theorem RMat.at {A : Option Addr} {n cap : Nat} (h : RMat w (.slice A n cap) L) {i : Nat} {l : List RF} (he : L[i]? = some l) : ∃ (a : Addr) (B : Option Addr) (c : Nat), A = some a ∧ a.block < w.heap.size ∧ w.cell? (a.add i) = some (.slice B l.length c) ∧ Rats w (fun _ => False) (.slice B l.length c) l ∧ l.length ≤ c ∧ c ≤ maxLen := by
 obtain ⟨A', cap', hv, h1, h2, h3⟩ := h
 injection hv with e1 e2 e3
 subst e1
 obtain ⟨a, ha, hb, hc⟩ := h3 (by have := (List.getElem?_eq_some_iff.1 he).1; omega)
 obtain ⟨B, c, h4, h5⟩ := hc i l he
 obtain ⟨A2, c2, h6, -, h7, h8⟩ := h5.op
 injection h6 with e1 e2 e3
 subst e1 e3
 exact ⟨a, B, c, ha, hb, h4, h5, h7, h8⟩
theorem RMat.mat (h : RMat w v L) (hf : ∀ (i : Nat) (l : List RF), L[i]? = some l → ∀ (j : Nat) (e : RF), l[j]? = some e → e.few) : Mat 2 w (fun _ => False) v L.length (lens L) (qm L) := by
 obtain ⟨A, cap, rfl, h1, h2, h3⟩ := h
 have key : ∀ i, i < L.length → ∃ u : Value, (∀ a, A = some a → w.cell? (a.add i) = some u) ∧ Nums 2 w (fun _ => False) u (lens L i) (qm L i) := fun i hi => by
  have he := List.getElem?_eq_getElem hi
  obtain ⟨a, ha, hb, hc⟩ := h3 (by omega)
  obtain ⟨B, c, h4, h5⟩ := hc i _ he
  refine ⟨.slice B L[i].length c, fun a' ha' => ?_, ?_⟩
  ·rw [ha] at ha'; injection ha' with ha'; subst ha'
   exact h4
  ·rw [lens_get he, qm_get he]
   exact h5.nums (hf i _ he)
 obtain ⟨us, hl, hp⟩ := list_of _ L.length key
 refine ⟨us, A, cap, hl, rfl, h1, h2, fun hn => ?_, fun i u hu => (hp i u hu).2⟩
 obtain ⟨a, ha, hb, -⟩ := h3 hn
 exact ⟨a, ha, hb, id, fun i u hu => (hp i u hu).1 a ha⟩
end

set_option maxRecDepth 100000 in
theorem open_RMat {H : Type} {enc : TypeId × Value → H} {W : World} {base : Nat} {fuel : Nat} {v : Value} {x : DataW H × List MemPlace}
 (h : DataW.trod enc Tryz.prog W base (fun _ => true) true fuel 25 [v] = some x) : ∃ L, RMat W v L := by
 rcases DataW.trod_slice Tryz.underlying25 h with ⟨hcs, _⟩ | ⟨a, len, cap, elems, rest, n, _, hcs, _, hb, hl, hm, hlen, hel, _⟩
 ·simp at hcs
  subst hcs
  exact ⟨[], none, 0, rfl, Nat.le_refl _, Nat.zero_le _, fun h => absurd rfl h⟩
 ·simp at hcs
  subst hcs
  have key : ∀ i, i < len → ∃ l, (∃ B c, W.cell? (a.add i) = some (.slice B l.length c) ∧ Rats W (fun _ => False) (.slice B l.length c) l) ∧ a.block < W.heap.size := fun i hi => by
   have hq := hel i hi
   rw [cellsRats, List.getElem?_eq_getElem (l := elems) (i := i) (by omega), Option.bind_eq_some_iff, Nat.mul_one] at hq
   obtain ⟨cs, hcs, ht⟩ := hq
   obtain ⟨_, hn, hc⟩ := World.cells?_some hcs
   match cs, hn with
   | [c0], _ =>
     obtain ⟨l, hr⟩ := open_Rats ht
     have hbl0 := World.cells?_block hcs (show 0 < 1 by decide)
     have hbl : a.block < W.heap.size := by rw [add_block] at hbl0; exact hbl0
     obtain ⟨B, c, e, hr2, -, -⟩ := hr.op
     have h0 := hc 0 (by decide)
     rw [addr_zero] at h0
     refine ⟨l, ⟨B, c, ?_, hr2⟩, hbl⟩
     rw [← e]; exact h0
  obtain ⟨L, hl', hp⟩ := list_of _ len (fun i hi => key i hi)
  subst hl'
  refine ⟨L, some a, cap, rfl, hl, hm, fun hz => ⟨a, rfl, ?_, fun i e he => (hp i e he).1⟩⟩
  obtain ⟨e, he⟩ := key 0 (by omega)
  exact he.2

/- Arguments opened: lists of integers, channels, a refining. -/
theorem cellsInt1 : Tryz.prog.cellsOf 3 = 1 := by kernel_rfl
theorem cellsInts : Tryz.prog.cellsOf 38 = 1 := by kernel_rfl
theorem cellsIMat : Tryz.prog.cellsOf 22 = 1 := by kernel_rfl
theorem cellsChan : Tryz.prog.cellsOf 24 = 1 := by kernel_rfl
theorem cellsRefi : Tryz.prog.cellsOf 27 = 3 := by kernel_rfl

theorem open_Ints {H : Type} {enc : TypeId × Value → H} {W : World} {base : Nat} {fuel : Nat} {v : Value} {x : DataW H × List MemPlace}
 (h : DataW.trod enc Tryz.prog W base (fun _ => true) true fuel 38 [v] = some x) : ∃ zs, IntsV W v zs := by
 rcases open_ints Tryz.underlying38 Tryz.underlying3 cellsInt1 h with ⟨hcs, _⟩ | ⟨a, len, cap, zs, hcs, _, hl, hm, hz, _, hcell, hwz⟩
 ·simp at hcs
  subst hcs
  exact ⟨[], none, 0, rfl, Nat.le_refl _, Nat.zero_le _, fun h => absurd rfl h, fun z hz => by simp at hz⟩
 ·simp at hcs
  subst hcs
  have hz' : zs.length = cap := by simpa using hz
  have hlen : (zs.take len).length = len := by simp; omega
  refine ⟨zs.take len, _, _, by rw [hlen], by rw [hlen]; exact hl, hm, fun hn => ⟨a, rfl, ?_, fun j u hu => ?_⟩, fun z hz => ?_⟩
  ·rw [hlen] at hn
   have h0 := hcell 0 (by omega)
   rw [addr_zero] at h0
   exact World.block_lt_of_cell? W a h0
  ·have hj : j < len := by have := (List.getElem?_eq_some_iff.1 hu).1; simp at this; omega
   have hjz : j < zs.length := by omega
   rw [hcell j hjz]
   rw [List.getElem?_take, if_pos hj, List.getElem?_eq_getElem hjz] at hu
   injection hu with hu
   rw [← hu]
   simp [hjz]
  ·have := bounds_i64 (hwz z (List.mem_of_mem_take hz))
   omega

set_option maxRecDepth 100000 in
theorem open_IMat {H : Type} {enc : TypeId × Value → H} {W : World} {base : Nat} {fuel : Nat} {v : Value} {x : DataW H × List MemPlace}
 (h : DataW.trod enc Tryz.prog W base (fun _ => true) true fuel 22 [v] = some x) : ∃ L, IMat W v L := by
 rcases DataW.trod_slice Tryz.underlying22 h with ⟨hcs, _⟩ | ⟨a, len, cap, elems, rest, n, _, hcs, _, hb, hl, hm, hlen, hel, _⟩
 ·simp at hcs
  subst hcs
  exact ⟨[], none, 0, rfl, Nat.le_refl _, Nat.zero_le _, fun h => absurd rfl h⟩
 ·simp at hcs
  subst hcs
  have key : ∀ i, i < len → ∃ l, (∃ B c, W.cell? (a.add i) = some (.slice B l.length c) ∧ IntsV W (.slice B l.length c) l) ∧ a.block < W.heap.size := fun i hi => by
   have hq := hel i hi
   rw [cellsInts, List.getElem?_eq_getElem (l := elems) (i := i) (by omega), Option.bind_eq_some_iff, Nat.mul_one] at hq
   obtain ⟨cs, hcs, ht⟩ := hq
   obtain ⟨_, hn, hc⟩ := World.cells?_some hcs
   match cs, hn with
   | [c0], _ =>
     obtain ⟨l, hr⟩ := open_Ints ht
     have hbl0 := World.cells?_block hcs (show 0 < 1 by decide)
     have hbl : a.block < W.heap.size := by rw [add_block] at hbl0; exact hbl0
     obtain ⟨B, c, e, hr2, -, -⟩ := hr.op
     have h0 := hc 0 (by decide)
     rw [addr_zero] at h0
     refine ⟨l, ⟨B, c, ?_, hr2⟩, hbl⟩
     rw [← e]; exact h0
  obtain ⟨L, hl', hp⟩ := list_of _ len (fun i hi => key i hi)
  subst hl'
  refine ⟨L, some a, cap, rfl, hl, hm, fun hz => ⟨a, rfl, ?_, fun i e he => (hp i e he).1⟩⟩
  obtain ⟨e, he⟩ := key 0 (by omega)
  exact he.2

set_option maxRecDepth 100000 in
theorem open_Channel {H : Type} {enc : TypeId × Value → H} {W : World} {base : Nat} {r : Reach} {b0 : Nat} {v : Value} {d : DataW H} {p : List MemPlace}
 (hv : Value.okWide Tryz.prog W r b0 24 v) (h : DataW.Trod enc Tryz.prog W base (fun _ => true) true 24 v d p) : ∃ v0 L, v = .agg #[v0] ∧ IMat W v0 L := by
 obtain ⟨cs, rfl, hsz⟩ := okWide_struct Tryz.underlying24 hv
 obtain ⟨l⟩ := cs
 match l, hsz.trans cellsChan with
 | [c0], _ =>
   obtain ⟨fuel, hf⟩ := h
   obtain ⟨xs, n, _, _, _, hlen, hg⟩ := DataW.trod_struct Tryz.underlying24 hf
   match xs, hlen with
   | [y0], _ =>
     have g0 : DataW.trod enc Tryz.prog W base (fun _ => true) true n 22 (([c0].drop 0).take (Tryz.prog.cellsOf 22)) = [y0][0]? := hg 0 _ rfl
     rw [cellsIMat] at g0
     have h0 : DataW.trod enc Tryz.prog W base (fun _ => true) true n 22 [c0] = some y0 := g0
     obtain ⟨L, h2⟩ := open_IMat h0
     exact ⟨c0, L, rfl, h2⟩
set_option maxRecDepth 100000 in
theorem open_Refining {H : Type} {enc : TypeId × Value → H} {W : World} {base : Nat} {r : Reach} {b0 : Nat} {v : Value} {d : DataW H} {p : List MemPlace}
 (hv : Value.okWide Tryz.prog W r b0 27 v) (h : DataW.Trod enc Tryz.prog W base (fun _ => true) true 27 v d p) : ∃ b v1 v2 L1 L2, v = .agg #[.bool b, v1, v2] ∧ RMat W v1 L1 ∧ RMat W v2 L2 := by
 obtain ⟨cs, rfl, hsz⟩ := okWide_struct Tryz.underlying27 hv
 obtain ⟨l⟩ := cs
 match l, hsz.trans cellsRefi with
 | [c0, c1, c2], _ =>
   obtain ⟨fuel, hf⟩ := h
   obtain ⟨xs, n, _, _, _, hlen, hg⟩ := DataW.trod_struct Tryz.underlying27 hf
   match xs, hlen with
   | [y0, y1, y2], _ =>
     have g0 : DataW.trod enc Tryz.prog W base (fun _ => true) true n 4 (([c0, c1, c2].drop 0).take (Tryz.prog.cellsOf 4)) = [y0, y1, y2][0]? := hg 0 _ rfl
     have g1 : DataW.trod enc Tryz.prog W base (fun _ => true) true n 25 (([c0, c1, c2].drop 1).take (Tryz.prog.cellsOf 25)) = [y0, y1, y2][1]? := hg 1 _ rfl
     have g2 : DataW.trod enc Tryz.prog W base (fun _ => true) true n 25 (([c0, c1, c2].drop 2).take (Tryz.prog.cellsOf 25)) = [y0, y1, y2][2]? := hg 2 _ rfl
     rw [cellsBool] at g0
     rw [cellsMat] at g1 g2
     have h0 : DataW.trod enc Tryz.prog W base (fun _ => true) true n 4 [c0] = some y0 := g0
     have h1 : DataW.trod enc Tryz.prog W base (fun _ => true) true n 25 [c1] = some y1 := g1
     have h2 : DataW.trod enc Tryz.prog W base (fun _ => true) true n 25 [c2] = some y2 := g2
     obtain ⟨b, e, _⟩ := DataW.trod_bool Tryz.underlying4 h0
     simp at e
     subst e
     obtain ⟨L1, h3⟩ := open_RMat h1
     obtain ⟨L2, h4⟩ := open_RMat h2
     exact ⟨b, c1, c2, L1, L2, rfl, h3, h4⟩
end Go.Proofs.YtdambnieminnfaaGreat

/- slices.ContainsFunc at raw fractions; the law's tidy. -/
namespace Go.Proofs.YtdambnieminnfaaGreat
open Go.RowKit
attribute [local go_sem ↓] Go.wp_at_zero Go.wp_at_succ

/-- A function that tells whether P, at raw fractions. -/
def TellsF (w : World) (F : Nat) (caps : Array Value) (P : RF → Prop) : Prop :=
 ∀ (W : World) (v : Value) (e : RF) (m m' : Nat) (A B : Option Addr) (c d : Nat), Below w.heap.size w W → v = .agg #[.bool e.n1, .slice A m c, .bool e.n2, .slice B m' d] → e.xs.length = m → e.ys.length = m' → RatR W (fun _ => False) v e.n1 e.xs e.n2 e.ys → Calls Tryz.prog F (#[v] ++ caps) W fun e' w' => Tells (P e) e' ∧ Below W.heap.size W w'

set_option maxRecDepth 100000 in
set_option maxHeartbeats 4000000 in
theorem indexF_any (w : World) (F : Nat) (caps : Array Value) (P : RF → Prop) (v : Value) (l : List RF) (h : Rats w (fun _ => False) v l) (hen : Enters F) (hF : TellsF w F caps P) :
 Calls Tryz.prog 71 #[v, .func (Fn.func F) #[] caps] w fun e w' => ∃ r : Int, e = .returned (.int .i64 r) ∧ ((0 ≤ r ∧ ∃ e ∈ l, P e) ∨ (r < 0 ∧ ∀ e ∈ l, ¬ P e)) ∧ Below w.heap.size w w' := by
 have H := Lib.hid h
 have HF := Lib.hid hF
 have hen2 : ∀ (args : Array Value) (W : World), (callFunc F args).run Tryz.prog W = .ok (.enter F args) W := hen
 obtain ⟨A, cap, rfl, h, l1, l2⟩ := h.op
 obtain ⟨m, hm⟩ : ∃ m, l.length = m := ⟨_, rfl⟩
 have HM := Lib.hid hm
 rw [hm] at l1 H
 rw [hm]
 have lm : m ≤ 9223372036854775807 := by unfold maxLen at l2; omega
 clear h hF hm
 go_enter Tryz.func71, Tryz.ntmps71
 go_wp2_with fail
 go_loopw [8] (fun i wr => ∃ (c : Nat), c ≤ m ∧ i = .int .i64 c ∧ Hid (∀ i e, i < c → l[i]? = some e → ¬ P e) ∧ Below w.heap.size w wr) (fun i _ => m - (intOf i).toNat)
 case atStart => exact ⟨0, by omega, rfl, Lib.hid (fun i e hi => absurd hi (by omega)), bel⟩
 case round =>
  obtain ⟨c, hc, rfl, hall, hB⟩ := hrel
  obtain ⟨wo, rfl⟩ : ∃ wo : World, wo = wr := ⟨_, rfl⟩
  have y5 := hB.size; (try simp only [zs] at y5)
  by_cases hlt : c < m
  ·obtain ⟨x, he⟩ : ∃ e, l[c]? = some e := ⟨_, List.getElem?_eq_getElem (by rw [HM.out]; exact hlt)⟩
   obtain ⟨a, rfl, ha, hr⟩ := (H.out.keep (.of_below hB)).at he
   obtain ⟨A3, c3, A3', c3', x0, x1, x2, x3, r3⟩ := hr
   obtain ⟨n1, xs, n2, ys⟩ := x
   dsimp only at x0 x1 x2 x3 r3
   obtain ⟨m3, hm3⟩ : ∃ m, xs.length = m := ⟨_, rfl⟩
   obtain ⟨m3', hm3'⟩ : ∃ m, ys.length = m := ⟨_, rfl⟩
   rw [hm3, hm3'] at r3
   rw [hm3] at x1
   rw [hm3'] at x3
   have HE := Lib.hid he
   have HR3 := Lib.hid r3
   have HL := Lib.hid (And.intro hm3 hm3')
   clear he hm3 hm3' r3
   replace x1 : wo.cell? ⟨(a.add (c * 4)).block, (a.add (c * 4)).off + 1, none⟩ = _ := x1
   replace x2 : wo.cell? ⟨(a.add (c * 4)).block, (a.add (c * 4)).off + 2, none⟩ = _ := x2
   replace x3 : wo.cell? ⟨(a.add (c * 4)).block, (a.add (c * 4)).off + 3, none⟩ = _ := x3
   have k0 : (0 : Int) ≤ (c : Int) := by omega
   have k1 : (c : Int) < (m : Int) := by omega
   have HLT := Lib.hid hlt
   go_wp2_with fail
   refine (HF.out _ _ ⟨n1, xs, n2, ys⟩ m3 m3' A3 A3' c3 c3' hB rfl HL.out.1 HL.out.2 HR3.out).mono ?_
   rintro e w2 ⟨⟨b, rfl, hb⟩, hb2⟩
   have y2 := hb2.size; (try simp only [zs] at y2)
   cases b
   ·have HGD : Hid (¬ P ⟨n1, xs, n2, ys⟩) := fun h => by have := hb.out.2 h; cases this
    clear hb
    go_wp2_with fail
    go_roundw
    case rel =>
     refine ⟨c + 1, by omega, by go_num, Lib.hid (fun i e hi he => ?_), bel⟩
     by_cases hic : i < c
     ·exact hall.out i e hic he
     ·obtain rfl : i = c := by omega
      rw [HE.out] at he
      injection he with he
      subst he
      exact HGD.out
    case measure => simp only [intOf]; omega
   ·have HGD : Hid (P ⟨n1, xs, n2, ys⟩) := hb.out.1 rfl
    clear hb
    go_wp2_with fail
    go_ret
    exact ⟨_, rfl, .inl ⟨by omega, _, List.mem_of_getElem? HE.out, HGD.out⟩, bel⟩
  ·obtain rfl : c = m := by omega
   go_wp2_with fail
   go_ret
   exact ⟨_, rfl, .inr ⟨by decide, fun e he => by
    obtain ⟨i, hi, rfl⟩ := List.mem_iff_getElem.1 he
    exact hall.out i _ (by rw [← HM.out]; exact hi) (List.getElem?_eq_getElem hi)⟩, hB⟩
set_option maxRecDepth 100000 in
set_option maxHeartbeats 4000000 in
theorem containsF_any (w : World) (F : Nat) (caps : Array Value) (P : RF → Prop) (v : Value) (l : List RF) (h : Rats w (fun _ => False) v l) (hen : Enters F) (hF : TellsF w F caps P) :
 Calls Tryz.prog 35 #[v, .func (Fn.func F) #[] caps] w fun e w' => Tells (∃ e ∈ l, P e) e ∧ Below w.heap.size w w' := by
 have H := Lib.hid h
 have HF := Lib.hid hF
 obtain ⟨A, cap, rfl, h, l1, l2⟩ := h.op
 obtain ⟨m, hm⟩ : ∃ m, l.length = m := ⟨_, rfl⟩
 rw [hm] at l1 H
 rw [hm]
 clear h hF hm
 go_enter Tryz.func35, Tryz.ntmps35
 go_wp2_with fail
 refine (indexF_any _ F caps P _ l H.out hen HF.out).mono ?_
 rintro e w1 ⟨r, rfl, hr, hb1⟩
 have y1 := hb1.size; (try simp only [zs] at y1)
 have HR := Lib.hid hr
 clear hr
 by_cases h0 : 0 ≤ r
 ·have HV : Hid (∃ e ∈ l, P e) := by
   rcases HR.out with ⟨_, h⟩ | ⟨h, _⟩
   ·exact h
   ·omega
  go_wp2_with fail
  go_ret
  exact ⟨Tells.yes HV.out, bel⟩
 ·have HV : Hid (¬ ∃ e ∈ l, P e) := by
   rcases HR.out with ⟨h, _⟩ | ⟨_, h⟩
   ·omega
   ·exact fun ⟨e, he, hp⟩ => h e he hp
  have hd : decide (0 ≤ r) = false := decide_eq_false h0
  go_wp2_with fail
  go_ret
  exact ⟨by first | exact Tells.no HV.out | (simp only [hd]; exact Tells.no HV.out), bel⟩

set_option maxHeartbeats 2000000 in
theorem tidy1_any (w : World) (n1 n2 : Bool) (A B : Option Addr) (m m' c d : Nat) :
 Calls Tryz.prog 46 #[.agg #[.bool n1, .slice A m c, .bool n2, .slice B m' d]] w fun e w' => Tells (¬ (m ≤ 2 ∧ m' ≤ 2)) e ∧ Below w.heap.size w w' := by
 by_cases h1 : m ≤ 2
 ·have d1 : decide ((2 : Int) < (m : Int)) = false := decide_eq_false (by omega)
  by_cases h2 : m' ≤ 2
  ·have d2 : decide ((2 : Int) < (m' : Int)) = false := decide_eq_false (by omega)
   have HV : Hid (¬ ¬ (m ≤ 2 ∧ m' ≤ 2)) := fun h => h ⟨h1, h2⟩
   go_enter Tryz.func46, Tryz.ntmps46
   go_wp2_with fail
   go_ret
   exact ⟨by first | exact Tells.no HV.out | (simp only [d2]; exact Tells.no HV.out), bel⟩
  ·have d2 : decide ((2 : Int) < (m' : Int)) = true := decide_eq_true (by omega)
   have HV : Hid (¬ (m ≤ 2 ∧ m' ≤ 2)) := fun h => h2 h.2
   go_enter Tryz.func46, Tryz.ntmps46
   go_wp2_with fail
   go_ret
   exact ⟨by first | exact Tells.yes HV.out | (simp only [d2]; exact Tells.yes HV.out), bel⟩
 ·have d1 : decide ((2 : Int) < (m : Int)) = true := decide_eq_true (by omega)
  have HV : Hid (¬ (m ≤ 2 ∧ m' ≤ 2)) := fun h => h1 h.1
  go_enter Tryz.func46, Tryz.ntmps46
  go_wp2_with fail
  go_ret
  exact ⟨by first | exact Tells.yes HV.out | (simp only [d1]; exact Tells.yes HV.out), bel⟩

/-- At most 6 rows of at most 6 numbers of at most two words. -/
def TI (L : List (List RF)) : Prop := L.length ≤ 6 ∧ ∀ l ∈ L, l.length ≤ 6 ∧ ∀ e ∈ l, e.few
set_option maxRecDepth 100000 in
set_option maxHeartbeats 4000000 in
theorem tidy_any (w : World) (v : Value) (L : List (List RF)) (h : RMat w v L) :
 Calls Tryz.prog 15 #[v] w fun e w' => Tells (TI L) e ∧ Below w.heap.size w w' := by
 have H := Lib.hid h
 obtain ⟨A, cA, rfl, -, l1, l2⟩ := h.op
 obtain ⟨m, hm⟩ : ∃ m, L.length = m := ⟨_, rfl⟩
 have HM := Lib.hid hm
 rw [hm] at l1 H
 rw [hm]
 clear h hm
 by_cases h6 : 6 < m
 ·have HV : Hid (¬ TI L) := fun h => by have := h.1; rw [HM.out] at this; omega
  go_enter Tryz.func15, Tryz.ntmps15
  go_wp2_with fail
  go_ret
  exact ⟨Tells.no HV.out, bel⟩
 have hle : m ≤ 6 := by omega
 go_enter Tryz.func15, Tryz.ntmps15
 go_wp2_with fail
 go_loopw [10] (fun i wr => ∃ (c : Nat), c ≤ m ∧ i = .int .i64 c ∧ Hid (∀ (i : Nat) (l : List RF), i < c → L[i]? = some l → l.length ≤ 6 ∧ ∀ e ∈ l, e.few) ∧ Below w.heap.size w wr) (fun i _ => m - (intOf i).toNat)
 case atStart => exact ⟨0, by omega, rfl, Lib.hid (fun i e hi => absurd hi (by omega)), bel⟩
 case round =>
  obtain ⟨c, hc, rfl, hall, hB⟩ := hrel
  obtain ⟨wo, rfl⟩ : ∃ wo : World, wo = wr := ⟨_, rfl⟩
  have y5 := hB.size; (try simp only [zs] at y5)
  by_cases hlt : c < m
  ·obtain ⟨l, he⟩ : ∃ r, L[c]? = some r := ⟨_, List.getElem?_eq_getElem (by rw [HM.out]; exact hlt)⟩
   obtain ⟨a, D, c1, rfl, hb, x0, hr, -, -⟩ := (H.out.keep (.of_below hB)).at he
   obtain ⟨n, hn⟩ : ∃ n, l.length = n := ⟨_, rfl⟩
   rw [hn] at x0 hr
   have HE := Lib.hid he
   have HR := Lib.hid hr
   have HN := Lib.hid hn
   have k0 : (0 : Int) ≤ (c : Int) := by omega
   have k1 : (c : Int) < (m : Int) := by omega
   clear he hr hn
   by_cases hn6 : 6 < n
   ·have HV : Hid (¬ TI L) := fun h => by have := (h.2 l (List.mem_of_getElem? HE.out)).1; rw [HN.out] at this; omega
    have d1 : decide ((6 : Int) < (n : Int)) = true := decide_eq_true (by omega)
    go_wp2_with fail
    go_ret
    exact ⟨Tells.no HV.out, hB⟩
   ·have d1 : decide ((6 : Int) < (n : Int)) = false := decide_eq_false (by omega)
    have hn7 : n ≤ 6 := by omega
    go_wp2_with fail
    refine (containsF_any _ 46 #[] (fun e => ¬ e.few) _ l HR.out (enters Tryz.func46 (by kernel_rfl) (by kernel_rfl)) (show TellsF _ 46 #[] (fun e => ¬ e.few) from fun W v e m m' A B c d _ hv hm hm' _ => by subst hv hm hm'; exact tidy1_any W e.n1 e.n2 A B _ _ c d)).mono ?_
    rintro e w2 ⟨⟨b, rfl, hb2⟩, hb3⟩
    have y6 := hb3.size; (try simp only [zs] at y6)
    cases b
    ·have HV : Hid (∀ e ∈ l, e.few) := fun e he => Classical.not_not.1 (fun hn => by have := hb2.out.2 ⟨e, he, hn⟩; cases this)
     clear hb2
     go_wp2_with fail
     go_roundw
     case rel =>
      refine ⟨c + 1, by omega, by go_num, Lib.hid (fun i l' hi hl' => ?_), bel⟩
      by_cases hic : i < c
      ·exact hall.out i l' hic hl'
      ·obtain rfl : i = c := by omega
       rw [HE.out] at hl'
       injection hl' with hl'
       subst hl'
       exact ⟨by rw [HN.out]; exact hn7, HV.out⟩
     case measure => simp only [intOf]; omega
    ·have HV : Hid (¬ TI L) := fun h => by
      obtain ⟨e, he, hn⟩ := hb2.out.1 rfl
      exact hn ((h.2 l (List.mem_of_getElem? HE.out)).2 e he)
     clear hb2
     go_wp2_with fail
     go_ret
     exact ⟨Tells.no HV.out, bel⟩
  ·obtain rfl : c = m := by omega
   have HV : Hid (TI L) := ⟨by rw [HM.out]; exact hle, fun l hl => by
    obtain ⟨i, hi, rfl⟩ := List.mem_iff_getElem.1 hl
    exact hall.out i _ (by rw [← HM.out]; exact hi) (List.getElem?_eq_getElem hi)⟩
   go_wp2_with fail
   go_ret
   exact ⟨Tells.yes HV.out, hB⟩
/-- A tidy matrix is a matrix of short numbers. -/
theorem RMat.tidy {w : World} {v : Value} {L : List (List RF)} (h : RMat w v L) (ht : TI L) : Mat 2 w (fun _ => False) v L.length (lens L) (qm L) ∧ L.length ≤ 6 ∧ ∀ i, i < L.length → lens L i ≤ 6 :=
 ⟨h.mat (fun i l hl j e he => (ht.2 l (List.mem_of_getElem? hl)).2 e (List.mem_of_getElem? he)), ht.1, fun i hi => by
  have hl := List.getElem?_eq_getElem hi
  rw [lens_get hl]
  exact (ht.2 _ (List.mem_of_getElem? hl)).1⟩
end Go.Proofs.YtdambnieminnfaaGreat

/- A block that holds no words, and that is no list's own, is no part of a list of fractions. -/
namespace Go.Proofs.YtdambnieminnfaaGreat
open Go.RowKit

/-- No word of 32 bits. -/
def noW (u : Value) : Prop := ∀ z : Int, u ≠ .int .u32 z
/-- The list's own block, if it has one, is at or above B. -/
def Fr (B : Nat) (v : Value) : Prop := ∀ (a : Addr) (n c : Nat), v = .slice (some a) n c → B ≤ a.block

section
variable {w : World} {X : Nat → Prop} {g k n B : Nat} {t : TypeId} {cs : Array Value} {v : Value} {q : Rat} {f : Nat → Rat} {xs : List Nat} {neg : Bool}
theorem Loc.mem (L : Loc w g t cs) {a : Addr} {u : Value} (h : w.cell? a = some u) (ha : a.block = g) : u ∈ cs := by
 unfold World.cell? at h
 rw [ha, L] at h
 dsimp only at h
 split at h
 ·cases h
 ·exact Array.mem_of_getElem? h
theorem Words.off (h : Words w X v xs) (L : Loc w g t cs) (hc : ∀ u ∈ cs, noW u) : Words w (fun b => X b ∨ b = g) v xs := by
 obtain ⟨⟨A, c, hv, h1, h2, h3, h4⟩, h5⟩ := h
 refine ⟨⟨A, c, hv, h1, h2, h3, fun hn => ?_⟩, h5⟩
 obtain ⟨a, hA, hlt, hx, hcell⟩ := h4 hn
 refine ⟨a, hA, hlt, fun hy => ?_, hcell⟩
 rcases hy with hy | hy
 ·exact hx hy
 ·have h0 := hcell 0 _ (nums_get (k := .u32) (xs := xs) (i := 0) hn)
  have := L.mem h0 (by rw [addr_block]; exact hy)
  exact hc _ this _ rfl
theorem IntR.off (h : IntR w X v neg xs) (L : Loc w g t cs) (hc : ∀ u ∈ cs, noW u) : IntR w (fun b => X b ∨ b = g) v neg xs := by
 obtain ⟨a, b, h⟩ := h
 exact ⟨a, b, h.off L hc⟩
theorem RatL.off (h : RatL k w X v q) (L : Loc w g t cs) (hc : ∀ u ∈ cs, noW u) : RatL k w (fun b => X b ∨ b = g) v q := by
 obtain ⟨n1, xs, n2, ys, ⟨A, c, B, d, e, h1, h2⟩, h3⟩ := h
 exact ⟨n1, xs, n2, ys, ⟨A, c, B, d, e, h1.off L hc, h2.off L hc⟩, h3⟩
theorem Nums.off (h : Nums k w X v n f) (L : Loc w g t cs) (hc : ∀ u ∈ cs, noW u) (hf : Fr B v) (hg : g < B) : Nums k w (fun b => X b ∨ b = g) v n f := by
 obtain ⟨rs, A, cap, h1, h2, h3, h4, h5, h6⟩ := h
 refine ⟨rs, A, cap, h1, h2, h3, h4, fun hn => ?_, fun i r hr => (h6 i r hr).off L hc⟩
 obtain ⟨a, ea, hb, hX, hcell⟩ := h5 hn
 refine ⟨a, ea, hb, fun hy => ?_, hcell⟩
 rcases hy with hy | hy
 ·exact hX hy
 ·have := hf a n cap (by rw [h2, ea])
  omega
theorem Nums.off2 (h : Nums k w X v n f) (L : Loc w g t cs) (hc : ∀ u ∈ cs, noW u) (hap : n ≠ 0 → ∀ (a : Addr) (c : Nat), v = .slice (some a) n c → a.block ≠ g) : Nums k w (fun b => X b ∨ b = g) v n f := by
 obtain ⟨rs, A, cap, h1, h2, h3, h4, h5, h6⟩ := h
 refine ⟨rs, A, cap, h1, h2, h3, h4, fun hn => ?_, fun i r hr => (h6 i r hr).off L hc⟩
 obtain ⟨a, ea, hb, hX, hcell⟩ := h5 hn
 refine ⟨a, ea, hb, fun hy => ?_, hcell⟩
 rcases hy with hy | hy
 ·exact hX hy
 ·exact hap hn a cap (by rw [h2, ea]) hy
theorem Fr.nil (B : Nat) : Fr B (.slice none 0 0) := fun a n c h => by cases h
theorem Fr.own {g c : Nat} {A : Option Nat} (h : B ≤ g) : Fr B (.slice (some ⟨g, 0, A⟩) n c) := fun a n' c' e => by injection e with e; injection e with e; rw [← e]; exact h
theorem Fr.mono {B' : Nat} (h : Fr B v) (hB : B' ≤ B) : Fr B' v := fun a n c e => Nat.le_trans hB (h a n c e)
/-- Behind a store into a block that is none of its own. -/
theorem Nums.past {w' : World} (h : Nums k w (fun _ => False) v n f) (L : Loc w g t cs) (hc : ∀ u ∈ cs, noW u) (hf : Fr B v) (hg : g < B) (hk : Keep (fun b => b = g) w w') : Nums k w' (fun _ => False) v n f :=
 ((h.off L hc hf hg).keep (hk.weak (fun b _ hb => .inr hb))).weak (fun _ _ h => h.elim)
theorem RatL.past {w' : World} (h : RatL k w (fun _ => False) v q) (L : Loc w g t cs) (hc : ∀ u ∈ cs, noW u) (hk : Keep (fun b => b = g) w w') : RatL k w' (fun _ => False) v q :=
 ((h.off L hc).keep (hk.weak (fun b _ hb => .inr hb))).weak (fun _ _ h => h.elim)
end
theorem noW_bool (b : Bool) : noW (.bool b) := fun z h => by cases h
theorem noW_slice (A : Option Addr) (n c : Nat) : noW (.slice A n c) := fun z h => by cases h
end Go.Proofs.YtdambnieminnfaaGreat

