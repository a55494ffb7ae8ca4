/- Contracts of the functions that the statements reach, part 17. -/
import Derived.Test.YtdambnieminnfaaGreatRows
import Derived.Test.YtdambnieminnfaaGreatZ4
import Derived.Test.YtdambnieminnfaaGreatZ14
import Derived.Test.YtdambnieminnfaaGreatZ16
set_option linter.unusedSimpArgs false
set_option linter.unusedVariables false

/- Valid. -/
namespace Go.Proofs.YtdambnieminnfaaGreat
open Go.RowKit
attribute [local go_sem ↓] Go.wp_at_zero Go.wp_at_succ

/-- The sizes of a system are right. -/
def VS (m mb : Nat) (N : Nat → Nat) : Prop := 1 ≤ m ∧ m ≤ 80 ∧ mb = m ∧ 1 ≤ N 0 ∧ N 0 ≤ 80 ∧ ∀ i, i < m → N i = N 0

/-- The answer is a bool that tells whether P. -/
def Tells (P : Prop) (e : Ending) : Prop := ∃ b : Bool, e = .returned (.bool b) ∧ Hid (b = true ↔ P)
theorem Tells.yes {P : Prop} (h : P) : Tells P (.returned (.bool true)) := ⟨true, rfl, fun _ => h, fun _ => rfl⟩
theorem Tells.no {P : Prop} (h : ¬ P) : Tells P (.returned (.bool false)) := ⟨false, rfl, fun h => (by cases h), fun h' => absurd h' h⟩

set_option maxHeartbeats 4000000 in
theorem valid_any (w : World) (va vb : Value) (m mb k : Nat) (N : Nat → Nat) (F : Nat → Nat → Rat) (Bv : Nat → Rat) (h : Mat k w (fun _ => False) va m N F) (hb : Nums k w (fun _ => False) vb mb Bv) :
 Calls Tryz.prog 100 #[.agg #[va, vb]] w fun e w' => Tells (VS m mb N) e ∧ Below w.heap.size w w' := by
 have H := Lib.hid h
 obtain ⟨A, c1, rfl, h, l1, l2⟩ := h.op
 obtain ⟨B, c2, rfl, hb, l3, l4⟩ := hb.op
 by_cases h1 : m < 1
 ·have hv : Hid (¬ VS m mb N) := fun h => by have := h.1; omega
  clear h
  go_enter Tryz.func100, Tryz.ntmps100
  go_wp2_with fail
  go_ret
  exact ⟨Tells.no hv.out, bel⟩
 by_cases h2 : 80 < m
 ·have hv : Hid (¬ VS m mb N) := fun h => by have := h.2.1; omega
  clear h
  go_enter Tryz.func100, Tryz.ntmps100
  go_wp2_with fail
  go_ret
  exact ⟨Tells.no hv.out, bel⟩
 by_cases h3 : mb ≠ m
 ·have hv : Hid (¬ VS m mb N) := fun h => by have := h.2.2.1; omega
  have h4 : ((mb : Int) == (m : Int)) = false := beq_eq_false_iff_ne.2 (by omega)
  have h5 : ((mb : Int) != (m : Int)) = true := bne_iff_ne.2 (by omega)
  clear h
  go_enter Tryz.func100, Tryz.ntmps100
  go_wp2_with fail
  go_ret
  exact ⟨Tells.no hv.out, bel⟩
 obtain rfl : mb = m := Classical.not_not.1 h3
 clear h3
 obtain ⟨a, D, d, rfl, hab, -, hcell, hnum, l5, l6⟩ := Mat.at h (show 0 < mb by omega)
 have e0 : a.add 0 = a := by simp [Addr.add]
 rw [e0] at hcell
 have hc2 : (w.alloc (.cells #[.slice (some a) mb c1, .slice B mb c2] 80)).cell? a = _ := cell_keep (X := fun _ => False) hcell hab id kp
 have q0 : (0 : Int) < (mb : Int) := by omega
 obtain ⟨n, hn⟩ : ∃ n, N 0 = n := ⟨_, rfl⟩
 have HN := Lib.hid hn
 rw [hn] at hcell hnum hc2 l5
 clear hn hnum h hb
 have hVS : Hid (VS mb mb N ↔ (1 ≤ n ∧ n ≤ 80 ∧ ∀ i, i < mb → N i = n)) := by
  show _ ↔ _
  unfold VS
  rw [HN.out]
  constructor
  ·rintro ⟨_, _, _, h⟩; exact h
  ·intro h; exact ⟨by omega, by omega, rfl, h⟩
 by_cases h6 : n < 1
 ·have hv : Hid (¬ VS mb mb N) := fun h => by have := (hVS.out.1 h).1; omega
  go_enter Tryz.func100, Tryz.ntmps100
  go_wp2_with fail
  go_ret
  exact ⟨Tells.no hv.out, bel⟩
 by_cases h7 : 80 < n
 ·have hv : Hid (¬ VS mb mb N) := fun h => by have := (hVS.out.1 h).2.1; omega
  go_enter Tryz.func100, Tryz.ntmps100
  go_wp2_with fail
  go_ret
  exact ⟨Tells.no hv.out, bel⟩
 go_enter Tryz.func100, Tryz.ntmps100
 go_wp2_with fail
 have hq : ((w.alloc (.cells #[.slice (some a) mb c1, .slice B mb c2] 80)).alloc (.cells #[.int .i64 n] 3)).cell? ⟨w.heap.size + 1, 0, none⟩ = some (.int .i64 n) := Loc.c 0 (made2 w (.cells #[.slice (some a) mb c1, .slice B mb c2] 80) #[.int .i64 n] 3)
 refine (containsLen_any _ _ mb k (w.heap.size + 1) n N F (Mat.keep H.out kp) hq (by omega) (by simp only [World.size_alloc]; omega)).mono ?_
 rintro e w1 ⟨b, rfl, hbi, hb1⟩
 obtain ⟨z1, z2⟩ := sz2 hb1
 have HB : Hid (b = false ↔ ∀ i, i < mb → N i = n) := hbi
 clear hbi
 cases b
 ·have HV : Hid (VS mb mb N) := hVS.out.2 ⟨by omega, by omega, HB.out.1 rfl⟩
  clear HB
  go_wp2_with fail
  go_ret
  exact ⟨Tells.yes HV.out, bel⟩
 ·have HV : Hid (¬ VS mb mb N) := fun h => by have := HB.out.2 (hVS.out.1 h).2.2; cases this
  clear HB
  go_wp2_with fail
  go_ret
  exact ⟨Tells.no HV.out, bel⟩
end Go.Proofs.YtdambnieminnfaaGreat

/- Lists of fractions that grow by append, or are made. -/
namespace Go.Proofs.YtdambnieminnfaaGreat
open Go.RowKit

def zR4 : R4 := ⟨false, none, 0, 0, false, none, 0, 0⟩
theorem info_rat : (Tryz.prog.info? 60).map (fun i => (i.zero, i.size, i.bytes)) = some (some (.agg #[.bool false, .slice none 0 0, .bool false, .slice none 0 0]), 4, 64) := by kernel_rfl

/-- A list of fractions that lies in a block of its own, at or above base. -/
def OwnR (w : World) (base : Nat) (v : Value) (rs : List R4) : Prop := w.ownsRow base 60 4 v rs.length (flat rs)

theorem OwnR.nil (w : World) (base : Nat) : OwnR w base (.slice none 0 0) [] := World.ownsRow_nil _ _ _ _

theorem r4_one (r : R4) : ∀ u ∈ r.cs, u.oneCell' = true := by
 intro u hu
 simp [R4.cs] at hu
 rcases hu with rfl | rfl | rfl | rfl <;> rfl

section
variable {w w' : World} {base k : Nat} {v : Value} {rs : List R4} {X Y : Nat → Prop} {f : Nat → Rat}
theorem OwnR.line {g n : Nat} (h : OwnR w base (.slice (some ⟨g, 0, none⟩) n n) rs) : Line w g rs ∧ rs.length = n := by
 have hl := h.1
 rw [flat_len] at hl
 rcases h.2 with ⟨h', _⟩ | ⟨g', cap', cur, h', _, hg, _, _, hsz, htake⟩
 ·simp at h'
 ·simp only [Value.slice.injEq, Option.some.injEq, Addr.mk.injEq, and_true, true_and] at h'
  obtain ⟨rfl, hr, rfl⟩ := h'
  refine ⟨?_, hr.symm⟩
  have : cur.toList = flat rs := by
   rw [← htake, List.take_of_length_le (by simp; omega)]
  unfold Line Loc
  rw [hg, ← this]
theorem OwnR.lt (h : OwnR w base v rs) {g : Nat} (hg : v.ownBlock = some g) : g < w.heap.size ∧ base ≤ g := by
 rcases h.2 with ⟨h', _⟩ | ⟨g', cap', cur, h', hb, hg', _, _, hsz, htake⟩
 ·rw [h'] at hg; cases hg
 ·rw [h'] at hg; injection hg with hg; subst hg
  exact ⟨(Array.getElem?_eq_some_iff.1 hg').1, hb⟩
theorem OwnR.nums (h : OwnR w base v rs) (hv : ValL k w X rs f) (hY : ∀ b, b < w.heap.size → Y b → X b) (hg : ∀ g, v.ownBlock = some g → ¬ Y g) : Nums k w Y v rs.length f := by
 have hl := h.1
 rcases h.2 with ⟨rfl, hn⟩ | ⟨g', cap', cur, rfl, _, hg', h1, h2, hsz, htake⟩
 ·rw [hn]; exact Nums.nil k w Y f
 ·refine ⟨rs, _, _, rfl, rfl, h1, h2, fun _ => ⟨_, rfl, (Array.getElem?_eq_some_iff.1 hg').1, hg _ rfl, fun i r hr => ?_⟩, hv.weak hY⟩
  obtain ⟨c0, c1, c2, c3⟩ := flat_get rs i r hr
  have hi := (List.getElem?_eq_some_iff.1 hr).1
  have e : ∀ i, (⟨g', 0, none⟩ : Addr).add i = ⟨g', i, none⟩ := fun i => by simp [Addr.add]; intro h; omega
  have e2 : ∀ i j, (⟨g', i, none⟩ : Addr).add j = ⟨g', i + j, none⟩ := fun i j => by simp [Addr.add]
  rw [e, e2, e2, e2]
  have key : ∀ (j : Nat) (u : Value), (flat rs)[j]? = some u → w.cell? ⟨g', j, none⟩ = some u := fun j u hu => by
   rw [cell_of_row w g' j cur _ (0, 0) hg']
   rw [← htake, List.getElem?_take] at hu
   split at hu
   ·simpa using hu
   ·cases hu
  exact ⟨key _ _ c0, key _ _ c1, key _ _ c2, key _ _ c3⟩
theorem OwnR.below (h : OwnR w base v rs) (hb : Below w.heap.size w w') : OwnR w' base v rs := by
 refine ⟨h.1, ?_⟩
 rcases h.2 with ⟨h', hn⟩ | ⟨g', cap', cur, h', h3, hg', h1, h2, hsz, htake⟩
 ·exact .inl ⟨h', hn⟩
 ·exact .inr ⟨g', cap', cur, h', h3, by rw [hb.block g' (Array.getElem?_eq_some_iff.1 hg').1]; exact hg', h1, h2, hsz, htake⟩
theorem OwnR.keep (h : OwnR w base v rs) (hb : Keep X w w') (hX : ∀ g, v.ownBlock = some g → ¬ X g) : OwnR w' base v rs := by
 refine ⟨h.1, ?_⟩
 rcases h.2 with ⟨h', hn⟩ | ⟨g', cap', cur, h', h3, hg', h1, h2, hsz, htake⟩
 ·exact .inl ⟨h', hn⟩
 ·exact .inr ⟨g', cap', cur, h', h3, by rw [hb.block g' (Array.getElem?_eq_some_iff.1 hg').1 (hX g' (by rw [h']; rfl))]; exact hg', h1, h2, hsz, htake⟩
end

theorem zR4L (k : Nat) (w : World) (X : Nat → Prop) : RatL k w X zR4.v 0 :=
 ⟨false, [], false, [], ⟨none, 0, none, 0, rfl, ⟨_, rfl, Words.nil _ _⟩, ⟨_, rfl, Words.nil _ _⟩⟩, Nat.zero_le _, Nat.zero_le _, rfl⟩
/-- One fraction appended. -/
theorem wp_pushR {o : Oper} {a : Act} {K : Act → World → Prop} {Q : Exit → Act → World → Prop} (w : World) (s x : Operand) (ho : o.op = .call { callee := .builtin .append, args := #[s, x], argTypes := #[55, 55] })
 (base : Nat) (v : Value) (rs : List R4) (hs : a.eval s = v) (hown : OwnR w base v rs) (H : Nat) (r : R4) (hx : a.eval x = .slice (some ⟨H, 0, none⟩) 1 1) (hH : w.heap[H]? = some (.cells r.cs.toArray 60 (0, 0)))
 (hn : rs.length ≤ 1000) (hbase : base ≤ w.heap.size)
 (h : ∀ g cap w', OwnR w' base (.slice (some ⟨g, 0, none⟩) (rs.length + 1) cap) (rs ++ [r]) → w.grownBy w' v.ownBlock → (v.ownBlock = some g ∨ g = w.heap.size) → g < w'.heap.size → K (a.put o.dst (.slice (some ⟨g, 0, none⟩) (rs.length + 1) cap)) w') :
 Oper.wp Tryz.prog o a w K Q := by
 obtain ⟨i, hi, hz0, hz1, hz2⟩ := info_parts info_rat
 refine wp_append_lies w s x 55 ho base 60 i _ 4 64 Tryz.underlying55 hi hz0 hz1 hz2 rfl (by decide) v rs.length (flat rs) hs hown ⟨H, 0, none⟩ 1 1 r.cs hx rfl (fun j u hu => World.news_of_block hH j u (by simpa using hu)) (r4_one r) (by decide) (by unfold maxLen; omega) (by omega) hbase _ rfl ?_
 intro g cap w' h1 h2 h3 h4
 refine h g cap w' ?_ h2 h3 h4
 unfold OwnR
 rw [List.length_append, flat_app, flat_one]
 exact h1
theorem wpList_pushR {ops : Array Oper} {rest : List Oper} {o : Oper} {a : Act} {Q : Exit → Act → World → Prop} (w : World) (hgd : o.guard = none) (s x : Operand) (ho : o.op = .call { callee := .builtin .append, args := #[s, x], argTypes := #[55, 55] })
 (base : Nat) (v : Value) (rs : List R4) (hs : a.eval s = v) (hown : OwnR w base v rs) (H : Nat) (r : R4) (hx : a.eval x = .slice (some ⟨H, 0, none⟩) 1 1) (hH : w.heap[H]? = some (.cells r.cs.toArray 60 (0, 0)))
 (hn : rs.length ≤ 1000) (hbase : base ≤ w.heap.size)
 (h : ∀ g cap w', OwnR w' base (.slice (some ⟨g, 0, none⟩) (rs.length + 1) cap) (rs ++ [r]) → w.grownBy w' v.ownBlock → (v.ownBlock = some g ∨ g = w.heap.size) → g < w'.heap.size → wpList Tryz.prog ops Q rest (a.put o.dst (.slice (some ⟨g, 0, none⟩) (rs.length + 1) cap)) w') : wpList Tryz.prog ops Q (o :: rest) a w :=
 wpList_plain hgd fun _ hK => wp_pushR w s x ho base v rs hs hown H r hx hH hn hbase fun g cap w' h1 h2 h3 h4 => hK _ _ (h g cap w' h1 h2 h3 h4)
theorem step_pushR {ops : Array Oper} {o : Oper} {a : Act} {K : Act → World → Prop} {Q : Exit → Act → World → Prop} {E : Prop} (w : World) (hgd : o.guard = none) (s x : Operand) (ho : o.op = .call { callee := .builtin .append, args := #[s, x], argTypes := #[55, 55] })
 (base : Nat) (v : Value) (rs : List R4) (hs : a.eval s = v) (hown : OwnR w base v rs) (H : Nat) (r : R4) (hx : a.eval x = .slice (some ⟨H, 0, none⟩) 1 1) (hH : w.heap[H]? = some (.cells r.cs.toArray 60 (0, 0)))
 (hn : rs.length ≤ 1000) (hbase : base ≤ w.heap.size)
 (h : ∀ g cap w', OwnR w' base (.slice (some ⟨g, 0, none⟩) (rs.length + 1) cap) (rs ++ [r]) → w.grownBy w' v.ownBlock → (v.ownBlock = some g ∨ g = w.heap.size) → g < w'.heap.size → K (a.put o.dst (.slice (some ⟨g, 0, none⟩) (rs.length + 1) cap)) w') :
 if Region.wanted o (yielded ops a.tmps) = true then Oper.wp Tryz.prog o a w K Q else E := by
 have hw : Region.wanted o (yielded ops a.tmps) = true := by simp [Region.wanted, hgd]
 rw [if_pos hw]
 exact wp_pushR w s x ho base v rs hs hown H r hx hH hn hbase h

theorem flat_rep (r : R4) : ∀ n, flat (List.replicate n r) = (madeCells r.cs.toArray (n * 4)).toList
 | 0 => by simp [flat, madeCells]
 | n + 1 => by
   have ih := flat_rep r n
   apply List.ext_getElem?
   intro j
   have hl : (flat (List.replicate n r)).length = n * 4 := by rw [flat_len, List.length_replicate]
   rw [List.replicate_succ', flat_app, flat_one]
   by_cases hj : j < n * 4
   ·rw [List.getElem?_append_left (by omega), ih]
    simp [madeCells, hj, show j < (n + 1) * 4 by omega]
   ·rw [List.getElem?_append_right (by omega), hl]
    by_cases h4 : j < (n + 1) * 4
    ·have e : j % 4 = j - n * 4 := by omega
     have hj' : j - n * 4 < 4 := by omega
     have e2 : r.cs.length = 4 := rfl
     simp [madeCells, h4, e2, e, hj']
    ·have : r.cs.length = 4 := rfl
     rw [List.getElem?_eq_none (by omega), List.getElem?_eq_none (by simp [madeCells]; omega)]

/-- make([]api.Rat, n). -/
theorem wpList_makeR {ops : Array Oper} {rest : List Oper} {o : Oper} {a : Act} {Q : Exit → Act → World → Prop} (w : World) (hgd : o.guard = none) (l c : Operand) (ho : o.op = Op.makeSlice 55 l c) (base : Nat) {kl kc : IntKind} {L C : Int} (n : Nat)
 (hl : a.eval l = .int kl L) (hc : a.eval c = .int kc C) (hL : L = (n : Int)) (hC : C = (n : Int)) (hn : n ≤ 1000) (hbase : base ≤ w.heap.size)
 (h : ∀ w', Line w' w.heap.size (List.replicate n zR4) → w.grownBy w' none → wpList Tryz.prog ops Q rest (a.put o.dst (.slice (some ⟨w.heap.size, 0, none⟩) n n)) w') : wpList Tryz.prog ops Q (o :: rest) a w := by
 obtain ⟨i, hi, hz0, hz1, hz2⟩ := info_parts info_rat
 refine wpList_make_full w hgd l c 55 ho base 60 i _ 4 Tryz.underlying55 hi hz0 hz1 kl kc L C n hl hc hL hC (by rw [hz2]; omega) (by unfold maxLen; omega) hbase fun w' h1 h2 => h w' ?_ h2
 have e : (madeCells (Value.agg #[.bool false, .slice none 0 0, .bool false, .slice none 0 0]).cells (n * 4)).toList = flat (List.replicate n zR4) := (flat_rep zR4 n).symm
 rw [e] at h1
 have h2 : OwnR w' base (.slice (some ⟨w.heap.size, 0, none⟩) n n) (List.replicate n zR4) := by
  unfold OwnR
  rw [List.length_replicate]
  exact h1
 exact h2.line.1
end Go.Proofs.YtdambnieminnfaaGreat

/- column. -/
namespace Go.Proofs.YtdambnieminnfaaGreat
open Go.RowKit
attribute [local go_sem ↓] Go.wp_at_zero Go.wp_at_succ

/- solves, CheckPoint. -/

theorem dot_rsz {k n : Nat} {f q : Nat → Rat} (hf : ∀ i, i < n → Rsz k (f i)) (hq : ∀ i, i < n → Rsz k (q i)) (hn : n ≤ 200) (hk : k ≤ 2000) : Rsz 900000 (sm n (fun i => f i * q i)) := by
 have : ∀ i, i ≤ n → Rsz ((2 * k + 2) * i + 2) (sm i (fun i => f i * q i)) := fun i => by
  induction i with
  | zero => intro _; exact (rsz_int (z := 0) (by decide) (by decide))
  | succ i ih =>
    intro hi
    rw [sm_succ]
    exact ((ih (by omega)).add ((hf i (by omega)).mul (hq i (by omega)))).mono (by rw [Nat.mul_add]; omega)
 have h2 : (2 * k + 2) * n ≤ (2 * 2000 + 2) * 200 := Nat.mul_le_mul (by omega) (by omega)
 exact (this n (Nat.le_refl n)).mono (by omega)

/-- The numbers f are a point. -/
def SV (m n nx : Nat) (F : Nat → Nat → Rat) (f bv : Nat → Rat) : Prop := nx = n ∧ (∀ j, j < nx → ¬ f j < 0) ∧ ∀ i, i < m → sm n (fun j => F i j * f j) = bv i

/- CheckPoint, CheckFarkas, CheckResult of the program. -/

/-- A system that is read. -/
def Sys (k : Nat) (w : World) (v : Value) (m mb : Nat) (N : Nat → Nat) (F : Nat → Nat → Rat) (Bv : Nat → Rat) : Prop :=
 ∃ A c B d, v = .agg #[.slice A m c, .slice B mb d] ∧ Mat k w (fun _ => False) (.slice A m c) m N F ∧ Nums k w (fun _ => False) (.slice B mb d) mb Bv
theorem Sys.keep {k : Nat} {w w' : World} {v : Value} {m mb : Nat} {N : Nat → Nat} {F : Nat → Nat → Rat} {Bv : Nat → Rat} (h : Sys k w v m mb N F Bv) (hk : Keep (fun _ => False) w w') : Sys k w' v m mb N F Bv := by
 obtain ⟨A, c, B, d, rfl, h1, h2⟩ := h
 exact ⟨A, c, B, d, rfl, h1.keep hk, h2.keep hk⟩
/-- A point of a system. -/
def PT (m mb : Nat) (N : Nat → Nat) (F : Nat → Nat → Rat) (Bv : Nat → Rat) (nx : Nat) (f : Nat → Rat) : Prop := VS m mb N ∧ SV m (N 0) nx F f Bv
/-- A Farkas vector of a system. -/
def FK (m mb : Nat) (N : Nat → Nat) (F : Nat → Nat → Rat) (Bv : Nat → Rat) (ny : Nat) (y : Nat → Rat) : Prop := VS m mb N ∧ ny = m ∧ sm m (fun i => y i * Bv i) < 0 ∧ ∀ j, j < N 0 → ¬ sm m (fun i => y i * F i j) < 0

section
variable {m mb nx ny k : Nat} {N : Nat → Nat} {F : Nat → Nat → Rat} {f y Bv : Nat → Rat}

end

/- CheckResult and CheckOptimum of the program. -/

/-- A result that proves itself. -/
def RS (feas : Bool) (m mb : Nat) (N : Nat → Nat) (F : Nat → Nat → Rat) (Bv : Nat → Rat) (nx : Nat) (f : Nat → Rat) (ny : Nat) (y : Nat → Rat) : Prop :=
 (feas = true ∧ ny = 0 ∧ PT m mb N F Bv nx f) ∨ (feas = false ∧ nx = 0 ∧ FK m mb N F Bv ny y)
/-- An optimum that proves itself: the three kinds. -/
def OP0 (m mb : Nat) (N : Nat → Nat) (F : Nat → Nat → Rat) (Bv : Nat → Rat) (nx ny : Nat) (y : Nat → Rat) (nr : Nat) (val : Rat) : Prop := FK m mb N F Bv ny y ∧ nx = 0 ∧ nr = 0 ∧ val = 0
def OP1 (m mb : Nat) (N : Nat → Nat) (F : Nat → Nat → Rat) (Bv kc : Nat → Rat) (nx : Nat) (f : Nat → Rat) (ny nr : Nat) (r : Nat → Rat) (val : Rat) : Prop :=
 PT m mb N F Bv nx f ∧ SV m (N 0) nr F r (fun _ => 0) ∧ sm (N 0) (fun j => kc j * r j) < 0 ∧ ny = 0 ∧ val = 0
def OP2 (m mb : Nat) (N : Nat → Nat) (F : Nat → Nat → Rat) (Bv kc : Nat → Rat) (nx : Nat) (f : Nat → Rat) (ny : Nat) (y : Nat → Rat) (nr : Nat) (val : Rat) : Prop :=
 PT m mb N F Bv nx f ∧ (ny = m ∧ ∀ j, j < N 0 → ¬ kc j < sm m (fun i => y i * F i j)) ∧ nr = 0 ∧ sm (N 0) (fun j => kc j * f j) = val ∧ sm m (fun i => y i * Bv i) = val
def OP (kind : Int) (m mb : Nat) (N : Nat → Nat) (F : Nat → Nat → Rat) (Bv : Nat → Rat) (nc : Nat) (kc : Nat → Rat) (nx : Nat) (f : Nat → Rat) (ny : Nat) (y : Nat → Rat) (nr : Nat) (r : Nat → Rat) (val : Rat) : Prop :=
 VS m mb N ∧ nc = N 0 ∧ ((kind = 0 ∧ OP0 m mb N F Bv nx ny y nr val) ∨ (kind = 1 ∧ OP1 m mb N F Bv kc nx f ny nr r val) ∨ (kind = 2 ∧ OP2 m mb N F Bv kc nx f ny y nr val))

section
variable {m mb nx ny nr nc k : Nat} {N : Nat → Nat} {F : Nat → Nat → Rat} {f y r Bv kc : Nat → Rat} {val : Rat}

end
end Go.Proofs.YtdambnieminnfaaGreat

/- The plain laws of linear systems: certificates exclude each other, the kinds and values of optima are one. -/
namespace Go.Proofs.YtdambnieminnfaaGreat

section
variable {m n : Nat} {F : Nat → Nat → Rat} {f y Bv kc : Nat → Rat}
/-- A vector times the equations. -/
theorem times_rows (y f : Nat → Rat) (h : ∀ i, i < m → sm n (fun j => F i j * f j) = Bv i) : sm m (fun i => y i * Bv i) = sm n (fun j => f j * sm m (fun i => y i * F i j)) := by
 rw [sm_congr (g := fun i => sm n (fun j => f j * (y i * F i j))) (fun i hi => by
  rw [← h i hi, ← sm_mul]
  exact sm_congr (fun j _ => by grind)), sm_swap]
 exact sm_congr (fun j _ => by rw [sm_mul])
theorem sm_mono {f g : Nat → Rat} {m : Nat} (h : ∀ i, i < m → f i ≤ g i) : sm m f ≤ sm m g := by
 have h1 : 0 ≤ sm m (fun i => g i - f i) := sm_nonneg (fun i hi => by have := h i hi; grind)
 rw [sm_sub] at h1
 grind
/-- Weak duality. -/
theorem weak (hf : ∀ j, j < n → ¬ f j < 0) (h : ∀ i, i < m → sm n (fun j => F i j * f j) = Bv i) (hy : ∀ j, j < n → ¬ kc j < sm m (fun i => y i * F i j)) : sm m (fun i => y i * Bv i) ≤ sm n (fun j => kc j * f j) := by
 rw [times_rows y f h]
 refine sm_mono (fun j hj => ?_)
 have h1 := hf j hj
 have h2 := hy j hj
 rw [Rat.mul_comm (kc j)]
 exact Rat.mul_le_mul_of_nonneg_left (by grind) (by grind)
end

section
variable {m nx ny nr nc nx' ny' nr' : Nat} {N N' : Nat → Nat} {F F' : Nat → Nat → Rat} {f y r Bv Bv' kc f' y' r' : Nat → Rat} {val val' : Rat} {k k' : Int}
/-- No system has both a point and a Farkas vector. -/
theorem not_both (hp : PT m m N F Bv nx f) (hk : FK m m N F Bv ny y) : False := by
 obtain ⟨-, e, hf, hs⟩ := hp
 obtain ⟨-, -, hn, hy⟩ := hk
 rw [e] at hf
 have h := weak (kc := fun _ => 0) (y := fun i => -y i) hf hs (fun j hj => by
  have := hy j hj
  rw [sm_congr (g := fun i => -(y i * F i j)) (fun i _ => by grind), sm_neg]; grind)
 rw [sm_congr (f := fun i => -y i * Bv i) (g := fun i => -(y i * Bv i)) (fun i _ => by grind), sm_neg, sm_zero (f := fun j => 0 * f j) (fun j _ => by grind)] at h
 grind
theorem no_ray (hr : SV m (N 0) nr F r (fun _ => 0)) (hc : sm (N 0) (fun j => kc j * r j) < 0) (hy : ∀ j, j < N 0 → ¬ kc j < sm m (fun i => y i * F i j)) : False := by
 obtain ⟨e, hf, hs⟩ := hr
 rw [e] at hf
 have h := weak hf hs hy
 rw [sm_zero (f := fun i => y i * 0) (fun i _ => by grind)] at h
 grind
theorem val_le (hp : PT m m N F Bv nx f) (hy : ∀ j, j < N 0 → ¬ kc j < sm m (fun i => y i * F i j)) : sm m (fun i => y i * Bv i) ≤ sm (N 0) (fun j => kc j * f j) := by
 obtain ⟨-, e, hf, hs⟩ := hp
 rw [e] at hf
 exact weak hf hs hy
/-- The kind and the value of an optimum are one. -/
theorem OP.uniq (h : OP k m m N F Bv nc kc nx f ny y nr r val) (h' : OP k' m m N F Bv nc kc nx' f' ny' y' nr' r' val') : k = k' ∧ val = val' := by
 obtain ⟨-, -, h⟩ := h
 obtain ⟨-, -, h'⟩ := h'
 rcases h with ⟨rfl, h⟩ | ⟨rfl, h⟩ | ⟨rfl, h⟩ <;> rcases h' with ⟨rfl, h'⟩ | ⟨rfl, h'⟩ | ⟨rfl, h'⟩
 ·exact ⟨rfl, by rw [h.2.2.2, h'.2.2.2]⟩
 ·exact (not_both h'.1 h.1).elim
 ·exact (not_both h'.1 h.1).elim
 ·exact (not_both h.1 h'.1).elim
 ·exact ⟨rfl, by rw [h.2.2.2.2, h'.2.2.2.2]⟩
 ·exact (no_ray h.2.1 h.2.2.1 h'.2.1.2).elim
 ·exact (not_both h.1 h'.1).elim
 ·exact (no_ray h'.2.1 h'.2.2.1 h.2.1.2).elim
 ·refine ⟨rfl, ?_⟩
  have h1 := val_le h.1 h'.2.1.2
  have h2 := val_le h'.1 h.2.1.2
  rw [h'.2.2.2.2, h.2.2.2.1] at h1
  rw [h.2.2.2.2, h'.2.2.2.1] at h2
  grind

/-- One equation more. -/
structure Ext (m : Nat) (N N' : Nat → Nat) (F F' : Nat → Nat → Rat) (Bv Bv' : Nat → Rat) : Prop where
 vs : VS (m + 1) (m + 1) N'
 n0 : N' 0 = N 0
 row : ∀ i, i < m → ∀ j, j < N 0 → F' i j = F i j
 rhs : ∀ i, i < m → Bv' i = Bv i
def ex (m : Nat) (y : Nat → Rat) : Nat → Rat := fun i => if i < m then y i else 0
theorem ex_sum (y g : Nat → Rat) : sm (m + 1) (fun i => ex m y i * g i) = sm m (fun i => y i * g i) := by
 rw [sm_succ, sm_congr (g := fun i => y i * g i) (fun i hi => by unfold ex; rw [if_pos hi])]
 unfold ex
 rw [if_neg (by omega)]; grind
theorem Ext.fk (e : Ext m N N' F F' Bv Bv') (h : FK m m N F Bv ny y) : FK (m + 1) (m + 1) N' F' Bv' (m + 1) (ex m y) := by
 refine ⟨e.vs, rfl, ?_, fun j hj => ?_⟩
 ·rw [ex_sum, sm_congr (g := fun i => y i * Bv i) (fun i hi => by rw [e.rhs i hi])]; exact h.2.2.1
 ·rw [e.n0] at hj
  rw [ex_sum, sm_congr (g := fun i => y i * F i j) (fun i hi => by rw [e.row i hi j hj])]; exact h.2.2.2 j hj
theorem Ext.du (e : Ext m N N' F F' Bv Bv') (hy : ∀ j, j < N 0 → ¬ kc j < sm m (fun i => y i * F i j)) : ∀ j, j < N' 0 → ¬ kc j < sm (m + 1) (fun i => ex m y i * F' i j) := fun j hj => by
 rw [e.n0] at hj
 rw [ex_sum, sm_congr (g := fun i => y i * F i j) (fun i hi => by rw [e.row i hi j hj])]; exact hy j hj
/-- A solution of the system with the equation more. -/
theorem Ext.sv (e : Ext m N N' F F' Bv Bv') {b b' : Nat → Rat} (hb : ∀ i, i < m → b' i = b i) (h : SV (m + 1) (N' 0) nx F' f b') : SV m (N 0) nx F f b := by
 obtain ⟨h1, h2, h3⟩ := h
 rw [e.n0] at h1 h3
 refine ⟨h1, h2, fun i hi => ?_⟩
 rw [← hb i hi, ← h3 i (by omega)]
 exact sm_congr (fun j hj => by rw [e.row i hi j hj])
theorem Ext.sv' (e : Ext m N N' F F' Bv Bv') {b b' : Nat → Rat} (hb : ∀ i, i < m → b' i = b i) (h : SV m (N 0) nx F f b) (hl : sm (N 0) (fun j => F' m j * f j) = b' m) : SV (m + 1) (N' 0) nx F' f b' := by
 obtain ⟨h1, h2, h3⟩ := h
 refine ⟨by rw [e.n0]; exact h1, h2, fun i hi => ?_⟩
 rw [e.n0]
 by_cases him : i < m
 ·rw [hb i him, ← h3 i him]
  exact sm_congr (fun j hj => by rw [e.row i him j hj])
 ·rw [show i = m by omega]; exact hl
/-- An equation that is a combination of two others changes nothing. -/
theorem Ext.same (e : Ext m N N' F F' Bv Bv') {a c : Nat} {t : Rat} (ha : a < m) (hc : c < m) (hrow : ∀ j, j < N 0 → F' m j = F a j + t * F c j) (hrhs : Bv' m = Bv a + t * Bv c)
 (h : OP k m m N F Bv nc kc nx f ny y nr r val) (h' : OP k' (m + 1) (m + 1) N' F' Bv' nc kc nx' f' ny' y' nr' r' val') : k = k' ∧ val = val' := by
 have comb : ∀ {g b b' : Nat → Rat} {ng : Nat}, SV m (N 0) ng F g b → b' m = b a + t * b c → sm (N 0) (fun j => F' m j * g j) = b' m := fun {g b b' ng} hs hb => by
  rw [sm_congr (g := fun j => F a j * g j + t * (F c j * g j)) (fun j hj => by rw [hrow j hj]; grind), sm_add, sm_mul, hs.2.2 a ha, hs.2.2 c hc, hb]
 have hpt : ∀ {g : Nat → Rat} {ng : Nat}, PT m m N F Bv ng g → PT (m + 1) (m + 1) N' F' Bv' ng g := fun hp => ⟨e.vs, e.sv' e.rhs hp.2 (comb hp.2 hrhs)⟩
 have h0 : ∃ ny2 y2, OP k (m + 1) (m + 1) N' F' Bv' nc kc nx f ny2 y2 nr r val := by
  obtain ⟨-, hn, h⟩ := h
  rcases h with ⟨rfl, h⟩ | ⟨rfl, h⟩ | ⟨rfl, h⟩
  ·exact ⟨_, _, e.vs, by rw [e.n0]; exact hn, .inl ⟨rfl, e.fk h.1, h.2⟩⟩
  ·refine ⟨ny, y, e.vs, by rw [e.n0]; exact hn, .inr (.inl ⟨rfl, hpt h.1, e.sv' (b' := fun _ => 0) (fun _ _ => rfl) h.2.1 (comb (b' := fun _ => 0) h.2.1 (by show (0 : Rat) = 0 + t * 0; grind)), by rw [e.n0]; exact h.2.2.1, h.2.2.2⟩)⟩
  ·refine ⟨_, ex m y, e.vs, by rw [e.n0]; exact hn, .inr (.inr ⟨rfl, hpt h.1, ⟨rfl, e.du h.2.1.2⟩, h.2.2.1, by rw [e.n0]; exact h.2.2.2.1, ?_⟩)⟩
   rw [ex_sum, sm_congr (g := fun i => y i * Bv i) (fun i hi => by rw [e.rhs i hi])]; exact h.2.2.2.2
 obtain ⟨ny2, y2, h0⟩ := h0
 exact h0.uniq h'
/-- With one equation more the least cost does not fall. -/
theorem Ext.less (e : Ext m N N' F F' Bv Bv') (h : OP k m m N F Bv nc kc nx f ny y nr r val) (h' : OP k' (m + 1) (m + 1) N' F' Bv' nc kc nx' f' ny' y' nr' r' val') :
 (k = 0 → k' = 0) ∧ (k = 2 → k' ≠ 1) ∧ (k = 2 → k' = 2 → val ≤ val') := by
 obtain ⟨-, -, h⟩ := h
 obtain ⟨-, -, h'⟩ := h'
 refine ⟨fun h0 => ?_, fun h2 h1 => ?_, fun h2 h3 => ?_⟩
 ·subst h0
  rcases h with ⟨-, h⟩ | ⟨h, -⟩ | ⟨h, -⟩
  ·rcases h' with ⟨h', -⟩ | ⟨-, h'⟩ | ⟨-, h'⟩
   ·exact h'
   ·exact (not_both h'.1 (e.fk h.1)).elim
   ·exact (not_both h'.1 (e.fk h.1)).elim
  ·exact absurd h (by decide)
  ·exact absurd h (by decide)
 ·subst h2
  subst h1
  rcases h with ⟨h, -⟩ | ⟨h, -⟩ | ⟨-, h⟩
  ·exact absurd h (by decide)
  ·exact absurd h (by decide)
  rcases h' with ⟨h', -⟩ | ⟨-, h'⟩ | ⟨h', -⟩
  ·exact absurd h' (by decide)
  ·exact no_ray h'.2.1 h'.2.2.1 (e.du h.2.1.2)
  ·exact absurd h' (by decide)
 ·subst h2
  subst h3
  rcases h with ⟨h, -⟩ | ⟨h, -⟩ | ⟨-, h⟩
  ·exact absurd h (by decide)
  ·exact absurd h (by decide)
  rcases h' with ⟨h', -⟩ | ⟨h', -⟩ | ⟨-, h'⟩
  ·exact absurd h' (by decide)
  ·exact absurd h' (by decide)
  have hp : PT m m N F Bv nx' f' := ⟨h.1.1, e.sv e.rhs h'.1.2⟩
  have h1 := val_le hp h.2.1.2
  rw [h.2.2.2.2, ← e.n0, h'.2.2.2.1] at h1
  exact h1
end
end Go.Proofs.YtdambnieminnfaaGreat

