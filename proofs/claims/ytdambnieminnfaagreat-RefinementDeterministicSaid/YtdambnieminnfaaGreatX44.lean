/- Contracts of the functions that the statements reach, part 44. -/
import Derived.Test.YtdambnieminnfaaGreatRows
import Derived.Deep.QuietTactic
import Derived.BigQuiet
import Derived.Test.YtdambnieminnfaaGreatX18
import Derived.Test.YtdambnieminnfaaGreatX23
import Derived.Test.YtdambnieminnfaaGreatX24
import Derived.Test.YtdambnieminnfaaGreatX27
import Derived.Test.YtdambnieminnfaaGreatX28
import Derived.Test.YtdambnieminnfaaGreatX32
import Derived.Test.YtdambnieminnfaaGreatX41
import Derived.Test.YtdambnieminnfaaGreatX43
set_option linter.unusedSimpArgs false
set_option linter.unusedVariables false

/- Equality of fields: sameInt and Same of the reference, identical and same of the program. -/
namespace Go.Proofs.YtdambnieminnfaaGreat
open Go.RowKit
attribute [local go_sem ↓] Go.wp_at_zero Go.wp_at_succ

set_option maxHeartbeats 1000000 in
theorem rsameInt_any (w : World) (X : Nat → Prop) (v1 v2 : Value) (n1 n2 : Bool) (xs ys : List Nat) (h1 : IntR w X v1 n1 xs) (h2 : IntR w X v2 n2 ys) :
 Calls Tryz.prog 119 #[v1, v2] w fun e w' => e = .returned (.bool (sameR n1 xs n2 ys)) ∧ Below w.heap.size w w' := by
 obtain ⟨A, c, rfl, _, _, H1⟩ := h1.open_
 obtain ⟨B, d, rfl, _, _, H2⟩ := h2.open_
 have hm1 := H1.lt_max
 have hm2 := H2.lt_max
 by_cases hn : n1 = n2
 ·subst hn
  by_cases hl : xs.length = ys.length
  ·have hlb : ((xs.length : Int) != (ys.length : Int)) = false := by simp [hl]
   have HL := Lib.hid hl
   have hl1 : xs.length ≤ ys.length := by omega
   have hl2 : ys.length ≤ xs.length := by omega
   clear hl
   go_enter Tryz.func119, Tryz.ntmps119
   go_wp2_with fail
   go_loopw [5] (fun i wr => ∃ (k n : Nat), k ≤ xs.length ∧ i = .int .i64 k ∧ xs.take k = ys.take k ∧ wr = ((w.alloc (.cells #[.bool n1, .slice A xs.length c] 58)).alloc (.cells #[.bool n1, .slice B ys.length d] 58)).drewN n) (fun i _ => xs.length - (intOf i).toNat)
   case atStart => exact ⟨0, 0, by omega, rfl, by simp, rfl⟩
   case round =>
    obtain ⟨k, n, hk, rfl, htk, rfl⟩ := hrel
    have Htk := Lib.hid htk
    clear htk
    by_cases hlt : k < xs.length
    ·have hq : k < ys.length := by omega
     obtain ⟨a, rfl, ha, _, hca⟩ := H1.at_ hlt
     obtain ⟨b, rfl, hb, _, hcb⟩ := H2.at_ hq
     have ea : ((w.alloc (.cells #[.bool n1, .slice (some a) xs.length c] 58)).alloc (.cells #[.bool n1, .slice (some b) ys.length d] 58)).cell? (a.add k) = some (.int .u32 ((xs[k] : Nat) : Int)) := ((below2 w _ _).cell (by rw [addr_block]; exact ha)).trans hca
     have eb : ((w.alloc (.cells #[.bool n1, .slice (some a) xs.length c] 58)).alloc (.cells #[.bool n1, .slice (some b) ys.length d] 58)).cell? (b.add k) = some (.int .u32 ((ys[k] : Nat) : Int)) := ((below2 w _ _).cell (by rw [addr_block]; exact hb)).trans hcb
     have ip : (k : Int) < (xs.length : Int) := by omega
     have iq : (k : Int) < (ys.length : Int) := by omega
     by_cases he : xs[k] = ys[k]
     ·have hbb : (((xs[k] : Nat) : Int) != ((ys[k] : Nat) : Int)) = false := by simp [he]
      have HE := Lib.hid he
      clear he
      go_wp2_with fail
      go_quiet (fail)
      go_wp2_with fail
      go_roundw
      case rel => exact ⟨k + 1, n + nq, by omega, by go_num, by rw [List.take_succ_eq_append_getElem hlt, List.take_succ_eq_append_getElem hq, HE.out, Htk.out], rfl⟩
      case measure => simp [intOf] <;> omega
     ·have hbb : (((xs[k] : Nat) : Int) != ((ys[k] : Nat) : Int)) = true := by simp; omega
      have hs : sameR n1 xs n1 ys = false := by unfold sameR; simp; intro e; subst e; exact he rfl
      have HS := Lib.hid hs
      clear hs
      go_wp2_with fail
      go_quiet (fail)
      go_wp2_with fail
      go_ret
      exact ⟨ret_eq (bool_eq HS.out.symm), below_drewN (below_drewN (below2 _ _ _) _) _⟩
    ·obtain rfl : k = xs.length := by omega
     go_wp2_with fail
     go_ret
     refine ⟨ret_eq (bool_eq ?_), below_drewN (below2 _ _ _) _⟩
     have h := Htk.out
     rw [List.take_length, List.take_of_length_le (by omega)] at h
     simp [sameR, h]
  ·have hlb : ((xs.length : Int) != (ys.length : Int)) = true := by simp; omega
   have hs : sameR n1 xs n1 ys = false := by unfold sameR; simp; intro e; subst e; exact hl rfl
   have HS := Lib.hid hs
   clear hs
   cases n1
   all_goals
    go_enter Tryz.func119, Tryz.ntmps119
    go_wp2_with fail
    go_ret
    exact ⟨ret_eq (bool_eq HS.out.symm), below2 _ _ _⟩
 ·have hs : sameR n1 xs n2 ys = false := by unfold sameR; simp [hn]
  have HS := Lib.hid hs
  clear hs
  cases n1 <;> cases n2
  all_goals first | exact absurd rfl hn | skip
  all_goals
   clear hn
   go_enter Tryz.func119, Tryz.ntmps119
   go_wp2_with fail
   go_ret
   exact ⟨ret_eq (bool_eq HS.out.symm), below2 _ _ _⟩

theorem same_num_den (x y : Rat) : (decide (x.num = y.num) && decide ((x.den : Int) = (y.den : Int))) = decide (x = y) := by
 rw [Bool.eq_iff_iff]
 simp only [Bool.and_eq_true, decide_eq_true_eq]
 constructor
 ·rintro ⟨h1, h2⟩; exact Rat.ext h1 (by omega)
 ·rintro rfl; exact ⟨rfl, rfl⟩

set_option maxHeartbeats 1000000 in
theorem rsame_any (w : World) (X : Nat → Prop) (v1 v2 : Value) (n1 n2 o1 o2 : Bool) (xs ys us vs : List Nat) (h1 : RatR w X v1 n1 xs n2 ys) (h2 : RatR w X v2 o1 us o2 vs) :
 Calls Tryz.prog 72 #[v1, v2] w fun e w' => e = .returned (.bool (sameR n1 xs o1 us && sameR n2 ys o2 vs)) ∧ Below w.heap.size w w' := by
 obtain ⟨A, c, B, d, rfl, i1, i2⟩ := h1
 obtain ⟨C, p, D, f, rfl, j1, j2⟩ := h2
 obtain ⟨b, hb⟩ : ∃ b, sameR n1 xs o1 us = b := ⟨_, rfl⟩
 obtain ⟨b', hb'⟩ : ∃ b, sameR n2 ys o2 vs = b := ⟨_, rfl⟩
 rw [hb, hb']
 have HB := Lib.hid hb
 have HB' := Lib.hid hb'
 clear hb hb'
 have L1 := made1 w #[.bool n1, .slice A xs.length c, .bool n2, .slice B ys.length d] 60
 have L2 := made2 w (.cells #[.bool n1, .slice A xs.length c, .bool n2, .slice B ys.length d] 60) #[.bool o1, .slice C us.length p, .bool o2, .slice D vs.length f] 60
 go_enter Tryz.func72, Tryz.ntmps72
 go_wp2_with fail
 refine (rsameInt_any _ (fun _ => False) _ _ n1 o1 xs us i1.to j1.to).mono ?_
 rintro e w1 ⟨he, hb1⟩
 rw [HB.out] at he
 subst he
 obtain ⟨e1, f1, -⟩ := Loc.all L1 (w' := w1)
 obtain ⟨e2, f2, -⟩ := Loc.all L2 (w' := w1)
 have y1 := hb1.size; (try simp only [zs] at y1)
 cases b
 ·go_wp2_with fail
  go_ret
  exact ⟨rfl, bel⟩
 ·go_wp2_with fail
  refine (rsameInt_any _ (fun _ => False) _ _ n2 o2 ys vs i2.to j2.to).mono ?_
  rintro e w2 ⟨he, hb2⟩
  rw [HB'.out] at he
  subst he
  have y2 := hb2.size; (try simp only [zs] at y2)
  go_wp2_with fail
  go_ret
  exact ⟨rfl, bel⟩
theorem rsame_V (w : World) (X Y : Nat → Prop) (v1 v2 : Value) (x y : Rat) (h1 : RatV w X v1 x) (h2 : RatV w Y v2 y) :
 Calls Tryz.prog 72 #[v1, v2] w fun e w' => e = .returned (.bool (decide (x = y))) ∧ Below w.heap.size w w' :=
 (rsame_any w (fun _ => False) v1 v2 _ _ _ _ _ _ _ _ (h1.weak (fun _ _ h => h.elim)) (h2.weak (fun _ _ h => h.elim))).mono fun e w' h => by rw [sameR_V, sameR_V, same_num_den] at h; exact h

/- The law's side of layer 40: no row of canonical values holds one that is not valid. -/

theorem NumsV.at {k n : Nat} {w : World} {X : Nat → Prop} {f : Nat → Rat} {A : Option Addr} {cap : Nat} (h : NumsV w X (.slice A n cap) n f) {i : Nat} (hi : i < n) : ∃ (a : Addr) (b : Bool) (B : Option Addr) (p c : Nat) (b' : Bool) (B' : Option Addr) (p' c' : Nat), A = some a ∧ a.block < w.heap.size ∧ ¬ X a.block ∧
 w.cell? (a.add (i * 4)) = some (.bool b) ∧ w.cell? ((a.add (i * 4)).add 1) = some (.slice B p c) ∧ w.cell? ((a.add (i * 4)).add 2) = some (.bool b') ∧ w.cell? ((a.add (i * 4)).add 3) = some (.slice B' p' c') ∧
 RatV w X (.agg #[.bool b, .slice B p c, .bool b', .slice B' p' c']) (f i) := by
 obtain ⟨rs, A1, cap1, h1, h2, h3, h4, h5, h6⟩ := h
 injection h2 with e1 e2 e3
 subst e1
 obtain ⟨a, ea, hb, hX, hc⟩ := h5 (by omega)
 have hr := List.getElem?_eq_getElem (l := rs) (i := i) (by omega)
 obtain ⟨c0, c1, c2, c3⟩ := hc i _ hr
 exact ⟨a, _, _, _, _, _, _, _, _, ea, hb, hX, c0, c1, c2, c3, h6 i _ hr⟩
theorem NumsV.op {w : World} {X : Nat → Prop} {v : Value} {n : Nat} {f : Nat → Rat} (h : NumsV w X v n f) : ∃ (A : Option Addr) (cap : Nat), v = .slice A n cap ∧ NumsV w X (.slice A n cap) n f ∧ n ≤ cap ∧ cap ≤ maxLen := by
 have h0 := h
 obtain ⟨rs, A, cap, h1, rfl, h3, h4, h5, h6⟩ := h
 exact ⟨A, cap, rfl, h0, h3, h4⟩
theorem MatV.at {w : World} {X : Nat → Prop} {m n : Nat} {F : Nat → Nat → Rat} {A : Option Addr} {cap : Nat} (h : MatV w X (.slice A m cap) m n F) {i : Nat} (hi : i < m) : ∃ (a : Addr) (B : Option Addr) (c : Nat), A = some a ∧ a.block < w.heap.size ∧ ¬ X a.block ∧ w.cell? (a.add i) = some (.slice B n c) ∧ NumsV w X (.slice B n c) n (F i) ∧ n ≤ c ∧ c ≤ maxLen := by
 obtain ⟨us, A1, cap1, h1, h2, h3, h4, h5, h6⟩ := h
 injection h2 with e1 e2 e3
 subst e1
 obtain ⟨a, ea, hb, hX, hc⟩ := h5 (by omega)
 have hr := List.getElem?_eq_getElem (l := us) (i := i) (by omega)
 have hu := h6 i _ hr
 obtain ⟨B, c, he, hu', l1, l2⟩ := hu.op
 have hcc := hc i _ hr
 rw [he] at hcc
 exact ⟨a, B, c, ea, hb, hX, hcc, hu', l1, l2⟩
theorem MatV.op {w : World} {X : Nat → Prop} {v : Value} {m n : Nat} {F : Nat → Nat → Rat} (h : MatV w X v m n F) : ∃ (A : Option Addr) (cap : Nat), v = .slice A m cap ∧ MatV w X (.slice A m cap) m n F ∧ m ≤ cap ∧ cap ≤ maxLen := by
 have h0 := h
 obtain ⟨rs, A, cap, h1, rfl, h3, h4, h5, h6⟩ := h
 exact ⟨A, cap, rfl, h0, h3, h4⟩

set_option maxRecDepth 100000 in
set_option maxHeartbeats 4000000 in
theorem rvalid_V (w : World) (v : Value) (q : Rat) (h : RatV w (fun _ => False) v q) (hk : Rsz 10000000 q) :
 Calls Tryz.prog 37 #[v] w fun e w' => e = .returned (.bool true) ∧ Below w.heap.size w w' := by
 obtain ⟨b, A, m, c, b', A', m', c', rfl, h, -, -⟩ := h.op
 have H := Lib.hid h
 have HK := Lib.hid hk
 have L := made1 w #[.bool b, .slice A m c, .bool b', .slice A' m' c'] 60
 clear h hk
 have HLS : Hid (∀ W, Below (w.heap.size + 1) (w.alloc (.cells #[.bool b, .slice A m c, .bool b', .slice A' m' c'] 60)) W → (W.cell? ⟨w.heap.size, 0, none⟩ = some (.bool b) ∧ W.cell? ⟨w.heap.size, 1, none⟩ = some (.slice A m c)) ∧ W.cell? ⟨w.heap.size, 2, none⟩ = some (.bool b') ∧ W.cell? ⟨w.heap.size, 3, none⟩ = some (.slice A' m' c')) := fun W hW =>
  ⟨⟨Loc.cell (L.below' hW (by omega)) 0, Loc.cell (L.below' hW (by omega)) 1⟩, Loc.cell (L.below' hW (by omega)) 2, Loc.cell (L.below' hW (by omega)) 3⟩
 go_enter Tryz.func37, Tryz.ntmps37
 go_wp2_with fail
 refine wp_region_noPanic ?_
 refine wp_region_held_drew (S := (fun W => (W.cell? ⟨w.heap.size, 0, none⟩ = some (.bool b) ∧ W.cell? ⟨w.heap.size, 1, none⟩ = some (.slice A m c)) ∧ W.cell? ⟨w.heap.size, 2, none⟩ = some (.bool b') ∧ W.cell? ⟨w.heap.size, 3, none⟩ = some (.slice A' m' c'))) (by kernel_rfl) ?_ (fun hHeld => ?_)
 ·exact HLS.out _ bel
 refine takeT 0 hHeld ?_
 (try simp only [Act.put, ly])
 refine takeT 1 hHeld ?_
 (try simp only [Act.put, ly])
 refine wpAnyH_ready (rs := [2]) (by kernel_rfl) (by simp) ?_
 refine AllReadyH.cons rfl (fun K hK => ?_) AllReadyH.nil
 go_simp
 refine (rclean_rat _ (fun _ => False) _ q ((H.out.to).len HK.out)).mono ?_
 rintro e u1 ⟨v1, rfl, i1, hb1⟩
 have y1 := hb1.size; (try simp only [zs] at y1)
 have HB1 : Hid (Below w.heap.size w u1) := bel
 (try go_wp2_with fail)
 refine hK.out _ _ ?_ (fun hHeld => ?_)
 ·(try dsimp only)
  exact HLS.out _ bel
 clear hK K
 (try simp only [Act.put, ly])
 refine wpAnyH_ready (rs := [3]) (by kernel_rfl) (by simp) ?_
 refine AllReadyH.cons rfl (fun K hK => ?_) AllReadyH.nil
 go_simp
 refine (rsame_V _ (fun _ => False) _ _ _ q q ((H.out.keep (.of_below HB1.out)).keep (.of_below bel)) i1.to).mono ?_
 rintro e u2 ⟨he, hb2⟩
 rw [decide_eq_true rfl] at he
 subst he
 have y2 := hb2.size; (try simp only [zs] at y2)
 have HB2 : Hid (Below w.heap.size w u2) := bel
 (try go_wp2_with fail)
 refine hK.out _ _ ?_ (fun hHeld => ?_)
 ·(try dsimp only)
  exact HLS.out _ bel
 clear hK K
 (try simp only [Act.put, ly])
 refine takeT 4 hHeld ?_
 (try simp only [Act.put, ly])
 refine wpAnyH_done (by kernel_rfl) ?_ _
 refine NoPanic.normal ?_
 go_wp2_with fail
 go_ret
 exact ⟨rfl, HB2.out⟩
set_option maxHeartbeats 2000000 in
theorem chains1_any (w : World) (v : Value) (q : Rat) (h : RatV w (fun _ => False) v q) (hk : Rsz 10000000 q) :
 Calls Tryz.prog 36 #[v] w fun e w' => e = .returned (.bool false) ∧ Below w.heap.size w w' := by
 obtain ⟨b, A, m, c, b', A', m', c', rfl, h, -, -⟩ := h.op
 have H := Lib.hid h
 clear h
 go_enter Tryz.func36, Tryz.ntmps36
 go_wp2_with fail
 refine (rvalid_V _ _ q H.out.to hk).mono ?_
 rintro e w1 ⟨rfl, hb1⟩
 have z1 := sz1 hb1
 go_wp2_with fail
 go_ret
 exact ⟨rfl, bel⟩
/-- A function that denies every canonical value. -/
def DeniesV (F : Nat) : Prop := ∀ (W : World) (v : Value) (q : Rat), RatV W (fun _ => False) v q → Rsz 10000000 q → Calls Tryz.prog F (#[v] ++ #[]) W fun e w' => e = .returned (.bool false) ∧ Below W.heap.size W w'
set_option maxRecDepth 100000 in
set_option maxHeartbeats 4000000 in
theorem indexV_none (w : World) (F : Nat) (v : Value) (m : Nat) (f : Nat → Rat) (h : NumsV w (fun _ => False) v m f) (hs : ∀ i, i < m → Rsz 10000000 (f i)) (hen : Enters F) (hF : DeniesV F) :
 Calls Tryz.prog 71 #[v, .func (Fn.func F) #[] #[]] w fun e w' => e = .returned (.int .i64 (-1)) ∧ Below w.heap.size w w' := by
 have H := Lib.hid h
 have HF := Lib.hid hF
 have HZ := Lib.hid hs
 have hen2 : ∀ (args : Array Value) (W : World), (callFunc F args).run Tryz.prog W = .ok (.enter F args) W := hen
 obtain ⟨A, cap, rfl, h, l1, l2⟩ := h.op
 have lm : m ≤ 9223372036854775807 := by unfold maxLen at l2; omega
 clear h hF hs
 go_enter Tryz.func71, Tryz.ntmps71
 go_wp2_with fail
 go_loopw [8] (fun i wr => ∃ (c : Nat), c ≤ m ∧ i = .int .i64 c ∧ Below w.heap.size w wr) (fun i _ => m - (intOf i).toNat)
 case atStart => exact ⟨0, by omega, rfl, bel⟩
 case round =>
  obtain ⟨c, hc, rfl, hB⟩ := hrel
  obtain ⟨wo, rfl⟩ : ∃ wo : World, wo = wr := ⟨_, rfl⟩
  have y5 := hB.size; (try simp only [zs] at y5)
  by_cases hlt : c < m
  ·obtain ⟨a, b3, A3, m3, c3, b3', A3', m3', c3', rfl, ha, -, x0, x1, x2, x3, r3⟩ := NumsV.at (k := 0) (NumsV.keep H.out (.of_below hB)) hlt
   replace x1 : wo.cell? ⟨(a.add (c * 4)).block, (a.add (c * 4)).off + 1, none⟩ = _ := x1
   replace x2 : wo.cell? ⟨(a.add (c * 4)).block, (a.add (c * 4)).off + 2, none⟩ = _ := x2
   replace x3 : wo.cell? ⟨(a.add (c * 4)).block, (a.add (c * 4)).off + 3, none⟩ = _ := x3
   have k0 : (0 : Int) ≤ (c : Int) := by omega
   have k1 : (c : Int) < (m : Int) := by omega
   have HLT := Lib.hid hlt
   go_wp2_with fail
   refine (HF.out _ _ (f c) r3 (HZ.out c HLT.out)).mono ?_
   rintro e w2 ⟨rfl, hb2⟩
   have y2 := hb2.size; (try simp only [zs] at y2)
   go_wp2_with fail
   go_roundw
   case rel => exact ⟨c + 1, by omega, by go_num, bel⟩
   case measure => simp only [intOf]; omega
  ·obtain rfl : c = m := by omega
   go_wp2_with fail
   go_ret
   exact ⟨rfl, hB⟩
set_option maxRecDepth 100000 in
set_option maxHeartbeats 4000000 in
theorem containsV_none (w : World) (F : Nat) (v : Value) (m : Nat) (f : Nat → Rat) (h : NumsV w (fun _ => False) v m f) (hs : ∀ i, i < m → Rsz 10000000 (f i)) (hen : Enters F) (hF : DeniesV F) :
 Calls Tryz.prog 35 #[v, .func (Fn.func F) #[] #[]] w fun e w' => e = .returned (.bool false) ∧ Below w.heap.size w w' := by
 have H := Lib.hid h
 obtain ⟨A, cap, rfl, h, l1, l2⟩ := h.op
 clear h
 go_enter Tryz.func35, Tryz.ntmps35
 go_wp2_with fail
 refine (indexV_none _ F _ m f H.out hs hen hF).mono ?_
 rintro e w1 ⟨rfl, hb1⟩
 have y1 := hb1.size; (try simp only [zs] at y1)
 go_wp2_with fail
 go_ret
 exact ⟨rfl, bel⟩
end Go.Proofs.YtdambnieminnfaaGreat

/- Channels of few rows and columns: their systems are small. -/
namespace Go.Proofs.YtdambnieminnfaaGreat

theorem Few40.wd {L : List (List Int)} (h : Few40 L) : wid L ≤ 5 := by
 by_cases h0 : 0 < L.length
 ·exact h.2 _ (getD_mem h0)
 ·have : L = [] := List.eq_nil_of_length_eq_zero (by omega)
  subst this
  exact Nat.zero_le _
theorem Few40.sz {L1 L2 : List (List Int)} (h1 : Few40 L1) (h2 : Few40 L2) : SZ L1 L2 := sz_few h1.1 h1.2 h2.1 h2.2

theorem Few40.nk {L1 L2 : List (List Int)} (h1 : Few40 L1) (h2 : Few40 L2) : wid L1 * wid L2 ≤ 80 ∧ neq L1 L2 ≤ 80 := by
 have a := h1.wd
 have b := h2.wd
 have c := h1.1
 have d : wid L1 * wid L2 ≤ 5 * 5 := Nat.mul_le_mul a b
 have e : L1.length * wid L2 ≤ 5 * 5 := Nat.mul_le_mul c b
 unfold neq
 omega
theorem Few40.code {L1 L2 : List (List Int)} (h1 : Few40 L1) (h2 : Few40 L2) {code : Int} {b : Bool} {m Kn : Nat} {F G : Nat → Nat → Rat} (h : DecSays L1 L2 code b m F Kn G) (v1 : VC L1) (v2 : VC L2) (hl : L1.length = L2.length) : code = 0 :=
 dec_code h v1 v2 hl (h1.nk h2).1 (h1.nk h2).2
/-- An accepted witness: Decide's code is 0, and it holds. -/
theorem Few40.dec_wit {L1 L2 : List (List Int)} (h1 : Few40 L1) (h2 : Few40 L2) {code : Int} {b : Bool} {m Kn m' : Nat} {F G F' : Nat → Nat → Rat} {N' : Nat → Nat} (h : DecSays L1 L2 code b m F Kn G) (hw : WIT L1 L2 m' N' F') : code = 0 ∧ b = true := by
 obtain rfl := h1.code h2 h hw.1 hw.2.1 hw.2.2.1
 exact ⟨rfl, dec_true h hw⟩
theorem Few40.dec_gn {L1 L2 : List (List Int)} (h1 : Few40 L1) (h2 : Few40 L2) {code : Int} {b : Bool} {m Kn m' : Nat} {F G F' : Nat → Nat → Rat} {N' : Nat → Nat} (h : DecSays L1 L2 code b m F Kn G) (hw : GN L1 L2 m' N' F') : code = 0 ∧ b = false := by
 obtain rfl := h1.code h2 h hw.1 hw.2.1 hw.2.2.1
 exact ⟨rfl, dec_false h hw⟩
end Go.Proofs.YtdambnieminnfaaGreat

/- The law's side of layer 40: small. -/
namespace Go.Proofs.YtdambnieminnfaaGreat
open Go.RowKit
attribute [local go_sem ↓] Go.wp_at_zero Go.wp_at_succ

/-- A small channel. -/
def SM (L : List (List Int)) : Prop := Few40 L ∧ VC L ∧ L.length ≤ 4 ∧ wid L ≤ 4 ∧ tot L ≤ 1024
set_option maxRecDepth 100000 in
set_option maxHeartbeats 8000000 in
theorem small_any (w : World) (v0 : Value) (L : List (List Int)) (h : IMat w v0 L) :
 Calls Tryz.prog 24 #[.agg #[v0]] w fun e w' => Tells (SM L) e ∧ Below w.heap.size w w' := by
 have H := Lib.hid h
 obtain ⟨A, cA, rfl, h, l1, l2⟩ := h.op
 clear h
 obtain ⟨m, hm⟩ : ∃ m, L.length = m := ⟨_, rfl⟩
 have HM := Lib.hid hm
 rw [hm] at l1 H
 rw [hm]
 clear hm
 have L1 := made1 w #[.slice A m cA] 24
 go_enter Tryz.func24, Tryz.ntmps24
 go_wp2_with fail
 refine (few40_any _ _ L (H.out.keep kp)).mono ?_
 rintro e w1 ⟨⟨b, rfl, hb⟩, hb1⟩
 have z1 := sz1 hb1
 obtain ⟨e1, f1, t1⟩ := L1.all (w' := w1)
 cases b
 ·have HV : Hid (¬ SM L) := fun h => by have := hb.out.2 h.1; cases this
  clear hb
  go_wp2_with fail
  go_ret
  exact ⟨Tells.no HV.out, bel⟩
 have HF : Hid (Few40 L) := hb.out.1 rfl
 clear hb
 go_wp2_with fail
 refine (lvalid_any _ _ L (H.out.keep kp)).mono ?_
 rintro e w2 ⟨⟨b, rfl, hb⟩, hb2⟩
 have y2 := hb2.size; (try simp only [zs] at y2)
 clear e1 f1 t1
 obtain ⟨e1, f1, t1⟩ := L1.all (w' := w2)
 cases b
 ·have HV : Hid (¬ SM L) := fun h => by have := hb.out.2 h.2.1; cases this
  clear hb
  go_wp2_with fail
  go_ret
  exact ⟨Tells.no HV.out, bel⟩
 have HV : Hid (VC L) := hb.out.1 rfl
 clear hb
 have hm5 : m ≤ 5 := by rw [← HM.out]; exact HF.out.1
 by_cases h4 : m ≤ 4
 case neg =>
  have d1 : decide ((m : Int) ≤ 4) = false := decide_eq_false (by omega)
  have HN : Hid (¬ SM L) := fun h => by have := h.2.2.1; have := HM.out; omega
  go_wp2_with fail
  go_ret
  exact ⟨Tells.no HN.out, bel⟩
 have d1 : decide ((m : Int) ≤ 4) = true := decide_eq_true (by omega)
 have q0 : (0 : Int) < (m : Int) := by have := HV.out.1; have := HM.out; omega
 obtain ⟨l0, he⟩ : ∃ l, L[0]? = some l := ⟨_, List.getElem?_eq_getElem (by have := HM.out; omega)⟩
 obtain ⟨a0, D, d, rfl, hab, hcell, hints, l3, l4⟩ := H.out.at he
 rw [addr_zero] at hcell
 have hwd : wid L = l0.length := by unfold wid; rw [List.getD_eq_getElem?_getD, he]; rfl
 have HR : Hid (rsumA 0 l0 = tot L) := by show _ = _; unfold tot; rw [List.getD_eq_getElem?_getD, he]; rfl
 have HI := Lib.hid hints
 have hk1 : Keep (fun _ => False) w w2 := kp
 have hc1 : w2.cell? a0 = _ := cell_keep hcell hab id hk1
 obtain ⟨n, hn⟩ : ∃ n, l0.length = n := ⟨_, rfl⟩
 rw [hn] at hwd HI l3 hc1
 clear he hints hcell
 have hn5 : n ≤ 256 := by have := HV.out.2.2.2.1; unfold wid at hwd; omega
 by_cases h4' : n ≤ 4
 case neg =>
  have d2 : decide ((n : Int) ≤ 4) = false := decide_eq_false (by omega)
  have HN : Hid (¬ SM L) := fun h => by have := h.2.2.2.1; omega
  clear hwd
  go_wp2_with fail
  go_ret
  exact ⟨Tells.no HN.out, bel⟩
 have d2 : decide ((n : Int) ≤ 4) = true := decide_eq_true (by omega)
 have HW : Hid (wid L = n) := hwd
 have H4 := Lib.hid h4
 have H4' := Lib.hid h4'
 clear hwd
 go_wp2_with fail
 refine (rowSum_any _ _ l0 (HI.out.keep hk1)).mono ?_
 rintro e w3 ⟨he, hb3⟩
 rw [HR.out] at he
 subst he
 have y3 := hb3.size; (try simp only [zs] at y3)
 obtain ⟨T, hT⟩ : ∃ T, tot L = T := ⟨_, rfl⟩
 rw [hT]
 have HT := Lib.hid hT
 clear hT
 by_cases h5 : T ≤ 1024
 ·have d3 : decide (T ≤ 1024) = true := decide_eq_true h5
  have HY : Hid (SM L) := ⟨HF.out, HV.out, by rw [HM.out]; exact H4.out, by rw [HW.out]; exact H4'.out, by rw [HT.out]; exact h5⟩
  go_wp2_with fail
  go_ret
  exact ⟨Tells.yes HY.out, bel⟩
 ·have d3 : decide (T ≤ 1024) = false := decide_eq_false h5
  have HN : Hid (¬ SM L) := fun h => by have := h.2.2.2.2; have := HT.out; omega
  go_wp2_with fail
  go_ret
  exact ⟨Tells.no HN.out, bel⟩
end Go.Proofs.YtdambnieminnfaaGreat

/- Witnesses of channels: every channel has one of itself, and two chain. Plain. -/
namespace Go.Proofs.YtdambnieminnfaaGreat

theorem wit_out {L1 L2 : List (List Int)} {m : Nat} {N : Nat → Nat} {F : Nat → Nat → Rat} (h : WIT L1 L2 m N F) : Wit L1.length (wid L1) (wid L2) (ce L1) ((tot L1 : Int) : Rat) (ce L2) ((tot L2 : Int) : Rat) F := by
 obtain ⟨v1, v2, hl, hst, hm, hn, heq⟩ := h
 refine ⟨fun y hy z hz => ?_, fun y hy => ?_, fun x hx z hz => ?_⟩
 ·have := (hst.1.2.2 y (by omega)).2 z (by rw [(hst.1.2.2 y (by omega)).1]; omega)
  grind
 ·have := hst.2 y (by omega)
  rw [(hst.1.2.2 y (by omega)).1, hn] at this
  exact this
 ·have := heq x hx z hz
  rw [hm] at this
  exact this
theorem wit_in {L1 L2 : List (List Int)} {F : Nat → Nat → Rat} (v1 : VC L1) (v2 : VC L2) (hl : L1.length = L2.length) (hw : Wit L1.length (wid L1) (wid L2) (ce L1) ((tot L1 : Int) : Rat) (ce L2) ((tot L2 : Int) : Rat) F) : WIT L1 L2 (wid L1) (fun _ => wid L2) F := by
 refine ⟨v1, v2, hl, ⟨⟨v1.2.2.1, v2.2.2.1, fun i hi => ⟨rfl, fun j hj hn => ?_⟩⟩, fun i hi => hw.one i hi⟩, rfl, rfl, fun x hx z hz => hw.eq x hx z hz⟩
 have := hw.non i hi j hj
 grind
theorem wit_self {L : List (List Int)} (v : VC L) : WIT L L (wid L) (fun _ => wid L) (fun y z => if y = z then 1 else 0) := wit_in v v rfl (Wit.refl v.chan)
theorem vc_tot_pos {L : List (List Int)} (v : VC L) : (0 : Rat) < ((tot L : Int) : Rat) := by
 have : 0 < tot L := by have := v.tot; omega
 exact_mod_cast this
theorem wit_chain {L1 L2 L3 : List (List Int)} {m m' : Nat} {N N' : Nat → Nat} {F F' : Nat → Nat → Rat} (h : WIT L1 L2 m N F) (h' : WIT L2 L3 m' N' F') : WIT L1 L3 (wid L1) (fun _ => wid L3) (prod (wid L2) F F') := by
 have w1 := wit_out h
 have w2 := wit_out h'
 rw [← h.2.2.1] at w2
 exact wit_in h.1 h'.2.1 (h.2.2.1.trans h'.2.2.1) (w1.chain w2 (vc_tot_pos h.2.1))
theorem SM.code {L1 L2 : List (List Int)} (h1 : SM L1) (h2 : SM L2) (hl : L1.length = L2.length) {code : Int} {b : Bool} {m Kn : Nat} {F G : Nat → Nat → Rat} (h : DecSays L1 L2 code b m F Kn G) : code = 0 :=
 h1.1.code h2.1 h h1.2.1 h2.2.1 hl
/-- What Decide has returned for two small channels. -/
theorem SM.dec {L1 L2 : List (List Int)} {b : Bool} {m Kn : Nat} {F G : Nat → Nat → Rat} (h : DecSays L1 L2 0 b m F Kn G) (hb : b = true) : m = wid L1 ∧ WIT L1 L2 m (fun _ => wid L2) F := by
 refine ⟨(h.2.2.2.2.1 rfl).2.1 hb, ?_⟩
 rcases (h.2.2.2.2.1 rfl).1 with h | h
 ·exact h.2.2
 ·rw [hb] at h; cases h.1
/-- What Chain has returned for two witnesses. -/
theorem chain_of40 {L1 L2 L3 : List (List Int)} {F F' : Nat → Nat → Rat} {code : Int} {mo : Nat} (h : WIT L1 L2 (wid L1) (fun _ => wid L2) F) (h' : WIT L2 L3 (wid L2) (fun _ => wid L3) F')
 (hc : (¬ (STO (wid L1) (fun _ => wid L2) F ∧ STO (wid L2) (fun _ => wid L3) F') → code = 1 ∧ mo = 0) ∧ (STO (wid L1) (fun _ => wid L2) F ∧ STO (wid L2) (fun _ => wid L3) F' → wid L2 ≠ wid L2 → code = 2 ∧ mo = 0) ∧ (STO (wid L1) (fun _ => wid L2) F ∧ STO (wid L2) (fun _ => wid L3) F' → wid L2 = wid L2 → code = 0 ∧ mo = wid L1)) : code = 0 ∧ mo = wid L1 :=
 hc.2.2 ⟨h.2.2.2.1, h'.2.2.2.1⟩ rfl
theorem prod_rsz {F F' : Nat → Nat → Rat} {m n p : Nat} (h : ∀ i, i < m → ∀ j, j < n → Rsz 44 (F i j)) (h' : ∀ i, i < n → ∀ j, j < p → Rsz 44 (F' i j)) (hn : n ≤ 20) : ∀ i, i < m → ∀ j, j < p → Rsz 1990 (prod n F F' i j) := fun i hi j hj =>
 (sum_rsz (k := 88) (n := n) (fun y hy => (h i hi y hy).mul (h' y hy j hj)) n (Nat.le_refl _)).mono (by omega)
end Go.Proofs.YtdambnieminnfaaGreat

/- Openers at the top: lists of lists of fractions. -/
namespace Go.Proofs.YtdambnieminnfaaGreat
open Go.ChangeShapes Go.WideShapes

set_option maxRecDepth 100000 in
theorem open_RMatV {H : Type} {enc : TypeId × Value → H} {W : World} {base : Nat} {r : Reach} {b0 : Nat} {v : Value} {d : DataW H} {p : List MemPlace}
 (hv : Value.okWide Tryz.prog W r b0 25 v) (h : DataW.Trod enc Tryz.prog W base (fun _ => true) true 25 v d p) : ∃ L, RMat W v L := by
 obtain ⟨a, len, cap, rfl⟩ := okWide_slice Tryz.underlying25 hv
 obtain ⟨fuel, hf⟩ := h
 exact open_RMat hf
end Go.Proofs.YtdambnieminnfaaGreat

/- Lists of integers that a call makes; lists of these that grow by append. -/
namespace Go.Proofs.YtdambnieminnfaaGreat
open Go.RowKit

theorem info_ints : (Tryz.prog.info? 38).map (fun i => (i.zero, i.size, i.bytes)) = some (some (.slice none 0 0), 1, 24) := by kernel_rfl
/-- A block of integers. -/
def RowI (w : World) (g : Nat) (zs : List Int) : Prop := Loc w g 3 (zs.map (Value.int .i64)).toArray
/-- A list of integers that is a block of its own. -/
def IntsO (w : World) (u : Value) (zs : List Int) : Prop := ∃ g, u = .slice (some ⟨g, 0, none⟩) zs.length zs.length ∧ RowI w g zs ∧ ∀ z ∈ zs, -9223372036854775808 ≤ z ∧ z ≤ 9223372036854775807
section
variable {w w' : World} {g base : Nat} {u v : Value} {zs : List Int} {us : List Value} {L : List (List Int)}
theorem add0 (g i : Nat) : (⟨g, 0, none⟩ : Addr).add i = ⟨g, i, none⟩ := by simp [Addr.add]; intro h; omega
theorem RowI.cell (h : RowI w g zs) {i : Nat} {z : Int} (hz : zs[i]? = some z) : w.cell? ⟨g, i, none⟩ = some (.int .i64 z) := by
 rw [Loc.cell h, List.getElem?_toArray, List.getElem?_map, hz]
 rfl
theorem RowI.lt (h : RowI w g zs) : g < w.heap.size := Loc.lt h
theorem RowI.below (h : RowI w g zs) (hb : Below w.heap.size w w') : RowI w' g zs := Loc.below h hb
theorem RowI.set (h : RowI w g zs) (i : Nat) (z : Int) : RowI (w.setCell ⟨g, i, none⟩ (.int .i64 z)) g (zs.set i z) := by
 have := Loc.set h i (.int .i64 z)
 unfold RowI
 rw [List.map_set, ← List.setIfInBounds_toArray]
 exact this
theorem IntsO.vals (h : IntsO w u zs) (hl : zs.length ≤ maxLen) : IntsV w u zs := by
 obtain ⟨g, rfl, hr, hz⟩ := h
 exact ⟨_, _, rfl, Nat.le_refl _, hl, fun _ => ⟨_, rfl, hr.lt, fun i z h => by rw [add0]; exact hr.cell h⟩, hz⟩
theorem IntsO.below (h : IntsO w u zs) (hb : Below w.heap.size w w') : IntsO w' u zs := by
 obtain ⟨g, rfl, hr, hz⟩ := h
 exact ⟨g, rfl, hr.below hb, hz⟩
theorem IntsO.other (h : IntsO w u zs) (hown : Own1 w base 38 v us) (hg : w.grownBy w' v.ownBlock) : IntsO w' u zs := by
 obtain ⟨g, rfl, hr, hz⟩ := h
 exact ⟨g, rfl, loc_other hown hg hr (by decide), hz⟩
theorem loc_ne {w : World} {g h : Nat} {t t' : TypeId} {cs cs' : Array Value} (L : Loc w g t cs) (L' : Loc w h t' cs') (hne : t ≠ t') : g ≠ h := fun e => by
 subst e
 unfold Loc at L L'
 rw [L] at L'
 injection L' with L'
 injection L' with e1 e2
 exact hne e2
theorem IntsO.far {t : TypeId} {cs : Array Value} {h0 : Nat} (h : IntsO w u zs) (L : Loc w h0 t cs) (ht : 3 ≠ t) (i : Nat) (x : Value) : IntsO (w.setCell ⟨h0, i, none⟩ x) u zs := by
 obtain ⟨g, rfl, hr, hz⟩ := h
 exact ⟨g, rfl, Loc.far hr (p := ⟨h0, i, none⟩) (loc_ne hr L ht) x, hz⟩
theorem Own1.far {h0 : Nat} {e : TypeId} (h : Own1 w base e v us) (hb : h0 < base) (i : Nat) (x : Value) : Own1 (w.setCell ⟨h0, i, none⟩ x) base e v us :=
 Own1.keep h ((Keep.refl (fun b => b = h0) w).set (.inl rfl) _) (fun g hg e => by have := (Own1.lt h hg).2; omega)
/-- A list of such lists. -/
theorem Own1.imat (h : Own1 w base 38 v us) (hl : us.length = L.length) (hm : L.length ≤ maxLen) (hu : ∀ (i : Nat) (u : Value) (l : List Int), us[i]? = some u → L[i]? = some l → IntsO w u l ∧ l.length ≤ maxLen) : IMat w v L := by
 have h0 := h.1
 rcases h.2 with ⟨rfl, hn⟩ | ⟨g, cap, cur, rfl, h3, hg, h1, h2, hsz, htake⟩
 ·refine ⟨none, 0, by rw [← hl, hn], by omega, Nat.zero_le _, fun h => absurd ?_ h⟩
  omega
 ·refine ⟨_, _, by rw [← hl], by omega, h2, fun _ => ⟨_, rfl, (Array.getElem?_eq_some_iff.1 hg).1, fun i l he => ?_⟩⟩
  have hi := (List.getElem?_eq_some_iff.1 he).1
  have hui := List.getElem?_eq_getElem (l := us) (i := i) (by omega)
  obtain ⟨ho, hlm⟩ := hu i _ l hui he
  have hc := World.ownsRow.cellAt h i (by omega)
  obtain ⟨gi, e, hr, hz⟩ := ho
  refine ⟨some ⟨gi, 0, none⟩, l.length, ?_, IntsO.vals ⟨gi, rfl, hr, hz⟩ hlm⟩
  rw [add0, hc, hui, e]
/-- A list of lists of integers that a call has made. -/
def IMatO (w : World) (v : Value) (L : List (List Int)) : Prop :=
 ∃ (base : Nat) (us : List Value), Own1 w base 38 v us ∧ us.length = L.length ∧ L.length ≤ maxLen ∧ ∀ (i : Nat) (u : Value) (l : List Int), us[i]? = some u → L[i]? = some l → IntsO w u l ∧ l.length ≤ maxLen
theorem IMatO.imat (h : IMatO w v L) : IMat w v L := by
 obtain ⟨base, us, h1, h2, h3, h4⟩ := h
 exact h1.imat h2 h3 h4
theorem IMatO.op (h : IMatO w v L) : ∃ (A : Option Addr) (cap : Nat), v = .slice A L.length cap ∧ IMatO w (.slice A L.length cap) L := by
 obtain ⟨A, cap, rfl, -⟩ := h.imat.op
 exact ⟨A, cap, rfl, h⟩
theorem IMatO.below (h : IMatO w v L) (hb : Below w.heap.size w w') : IMatO w' v L := by
 obtain ⟨base, us, h1, h2, h3, h4⟩ := h
 exact ⟨base, us, h1.below hb, h2, h3, fun i u l hu hl => ⟨(h4 i u l hu hl).1.below hb, (h4 i u l hu hl).2⟩⟩
theorem IMatO.far {t : TypeId} {cs : Array Value} {h0 : Nat} (h : IMatO w v L) (L0 : Loc w h0 t cs) (ht : 3 ≠ t) (ht2 : 38 ≠ t) (i : Nat) (x : Value) : IMatO (w.setCell ⟨h0, i, none⟩ x) v L := by
 obtain ⟨base, us, h1, h2, h3, h4⟩ := h
 refine ⟨base, us, Own1.keep h1 ((Keep.refl (fun b => b = h0) w).set (.inl rfl) _) (fun g hg e => ?_), h2, h3, fun j u l hu hl => ⟨(h4 j u l hu hl).1.far L0 ht i x, (h4 j u l hu hl).2⟩⟩
 rcases h1.2 with ⟨h', _⟩ | ⟨g', cap', cur, h', _, hg', _⟩
 ·rw [h'] at hg; cases hg
 ·rw [h'] at hg
  injection hg with hg
  subst hg
  exact loc_ne hg' L0 ht2 e
end
/-- One list appended. -/
theorem wpList_pushI {ops : Array Oper} {rest : List Oper} {o : Oper} {a : Act} {Q : Exit → Act → World → Prop} (w : World) (hgd : o.guard = none) (s x : Operand) (ho : o.op = .call { callee := .builtin .append, args := #[s, x], argTypes := #[22, 22] })
 (base : Nat) (v : Value) (us : List Value) (hs : a.eval s = v) (hown : Own1 w base 38 v us) (H : Nat) (u : Value) (hx : a.eval x = .slice (some ⟨H, 0, none⟩) 1 1) (hH : w.heap[H]? = some (.cells #[u] 38 (0, 0))) (hu : u.oneCell' = true)
 (hn : us.length ≤ 1000) (hbase : base ≤ w.heap.size)
 (h : ∀ g cap w', Own1 w' base 38 (.slice (some ⟨g, 0, none⟩) (us.length + 1) cap) (us ++ [u]) → w.grownBy w' v.ownBlock → (v.ownBlock = some g ∨ g = w.heap.size) → g < w'.heap.size → wpList Tryz.prog ops Q rest (a.put o.dst (.slice (some ⟨g, 0, none⟩) (us.length + 1) cap)) w') : wpList Tryz.prog ops Q (o :: rest) a w :=
 wpList_plain hgd fun _ hK => wp_push1 w s x ho Tryz.underlying22 info_ints rfl (by decide) base v us hs hown H u hx hH hu hn hbase fun g cap w' h1 h2 h3 h4 => hK _ _ (h g cap w' h1 h2 h3 h4)
/-- make([]int, n). -/
theorem rowI_zeros {w : World} {base g n : Nat} (h : w.ownsRow base 3 1 (.slice (some ⟨g, 0, none⟩) n n) n (List.replicate n (.int .i64 0))) : RowI w g (List.replicate n 0) := by
 have hl := h.1
 rcases h.2 with ⟨h', _⟩ | ⟨g', cap', cur, h', _, hg, _, _, hsz, htake⟩
 ·simp at h'
 ·simp only [Value.slice.injEq, Option.some.injEq, Addr.mk.injEq, and_true, true_and] at h'
  obtain ⟨rfl, rfl⟩ := h'
  have : cur.toList = List.replicate n (.int .i64 0) := by
   rw [← htake, List.take_of_length_le (by simp; omega)]
  unfold RowI Loc
  rw [hg, List.map_replicate, ← this]
end Go.Proofs.YtdambnieminnfaaGreat

