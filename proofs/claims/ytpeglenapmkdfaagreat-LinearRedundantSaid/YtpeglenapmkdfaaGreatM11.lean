/- Contracts of the functions that the statements reach, part 11. -/
import Derived.Test.YtpeglenapmkdfaaGreatRows
import Derived.Deep.LoopGhost
import Derived.Laws.IdiomStrings
import Derived.Test.YtpeglenapmkdfaaGreatM3
import Derived.Test.YtpeglenapmkdfaaGreatM6
import Derived.Test.YtpeglenapmkdfaaGreatM7
import Derived.Test.YtpeglenapmkdfaaGreatM8
import Derived.Test.YtpeglenapmkdfaaGreatM10
set_option linter.unusedSimpArgs false
set_option linter.unusedVariables false

/- Parse: what it answers; the plain law. -/
namespace Go.Proofs.YtpeglenapmkdfaaGreat
open Go.RowKit

/-- The number of decimal characters. -/
def pval (bs : List UInt8) : Nat := bs.foldl (fun a c => 10 * a + (c.toNat - 48)) 0
def good (c : UInt8) : Prop := 48 ≤ c.toNat ∧ c.toNat ≤ 57
instance (c : UInt8) : Decidable (good c) := inferInstanceAs (Decidable (_ ∧ _))
/-- No number's canonical digits. -/
def synt (neg : Bool) (ds : List UInt8) : Prop := ds = [] ∨ (ds.head? = some 48 ∧ (1 < ds.length ∨ neg = true))
instance (neg : Bool) (ds : List UInt8) : Decidable (synt neg ds) := inferInstanceAs (Decidable (_ ∨ _))
/-- The code that Parse returns. -/
def parseC (bs : List UInt8) : Nat :=
  if 601 < bs.length then 5 else if synt (isNeg bs) (strip bs) then 6 else if ¬ ∀ c ∈ strip bs, good c then 6 else if 600 < (strip bs).length then 5 else 0
/-- The integer that Parse returns. -/
def parseZ (bs : List UInt8) : Int := if parseC bs = 0 then (if isNeg bs then -((pval (strip bs) : Nat) : Int) else ((pval (strip bs) : Nat) : Int)) else 0

theorem pval_nil : pval [] = 0 := rfl
theorem pval_snoc (bs : List UInt8) (c : UInt8) : pval (bs ++ [c]) = 10 * pval bs + (c.toNat - 48) := by simp [pval, List.foldl_append]
theorem pval_take (bs : List UInt8) (i : Nat) (h : i < bs.length) : pval (bs.take (i + 1)) = 10 * pval (bs.take i) + (bs[i].toNat - 48) := by
  rw [List.take_succ_eq_append_getElem h, pval_snoc]
theorem pval_lt (bs : List UInt8) (h : ∀ c ∈ bs, good c) : pval bs < 10 ^ bs.length := by
  suffices H : ∀ n, n ≤ bs.length → pval (bs.take n) < 10 ^ n by
    have := H bs.length (Nat.le_refl _); rwa [List.take_length] at this
  intro n
  induction n with
  | zero => intro _; simp [pval_nil]
  | succ n ih =>
    intro hn
    have h1 := ih (by omega)
    have h2 := h bs[n] (List.getElem_mem _)
    rw [pval_take bs n (by omega), Nat.pow_succ]
    have h3 := h2.2
    omega

theorem parse_long {bs : List UInt8} (h : 601 < bs.length) : parseC bs = 5 ∧ parseZ bs = 0 := by
  have e : parseC bs = 5 := by unfold parseC; rw [if_pos h]
  exact ⟨e, by unfold parseZ; rw [e]; rfl⟩
theorem parse_synt {bs : List UInt8} (h : ¬ 601 < bs.length) (hs : synt (isNeg bs) (strip bs)) : parseC bs = 6 ∧ parseZ bs = 0 := by
  have e : parseC bs = 6 := by unfold parseC; rw [if_neg h, if_pos hs]
  exact ⟨e, by unfold parseZ; rw [e]; rfl⟩
theorem parse_bad {bs : List UInt8} (h : ¬ 601 < bs.length) (i : Nat) (hi : i < (strip bs).length) (hg : ¬ good (strip bs)[i]) : parseC bs = 6 ∧ parseZ bs = 0 := by
  have e : parseC bs = 6 := by
    unfold parseC; rw [if_neg h]
    split
    · rfl
    · rw [if_pos (fun hall => hg (hall _ (List.getElem_mem hi)))]
  exact ⟨e, by unfold parseZ; rw [e]; rfl⟩
theorem parse_long2 {bs : List UInt8} (h : ¬ 601 < bs.length) (hs : ¬ synt (isNeg bs) (strip bs)) (hg : ∀ j, (hj : j < (strip bs).length) → good (strip bs)[j]) (hl : 600 < (strip bs).length) : parseC bs = 5 ∧ parseZ bs = 0 := by
  have hall : ∀ c ∈ strip bs, good c := fun c hc => by obtain ⟨j, hj, rfl⟩ := List.getElem_of_mem hc; exact hg j hj
  have e : parseC bs = 5 := by unfold parseC; rw [if_neg h, if_neg hs, if_neg (fun hn => hn hall), if_pos hl]
  exact ⟨e, by unfold parseZ; rw [e]; rfl⟩
theorem parse_ok {bs : List UInt8} (h : ¬ 601 < bs.length) (hs : ¬ synt (isNeg bs) (strip bs)) (hg : ∀ j, (hj : j < (strip bs).length) → good (strip bs)[j]) (hl : ¬ 600 < (strip bs).length) :
    parseC bs = 0 ∧ parseZ bs = (if isNeg bs then -((pval (strip bs) : Nat) : Int) else ((pval (strip bs) : Nat) : Int)) := by
  have hall : ∀ c ∈ strip bs, good c := fun c hc => by obtain ⟨j, hj, rfl⟩ := List.getElem_of_mem hc; exact hg j hj
  have e : parseC bs = 0 := by unfold parseC; rw [if_neg h, if_neg hs, if_neg (fun hn => hn hall), if_neg hl]
  exact ⟨e, by unfold parseZ; rw [if_pos e]⟩

/-! The text of what was parsed. -/
theorem dval_digits (bs : List UInt8) : pval bs = dval ((bs.map fun c => c.toNat - 48).reverse) := by
  suffices H : ∀ n, n ≤ bs.length → pval (bs.take n) = dval (((bs.take n).map fun c => c.toNat - 48).reverse) by
    have := H bs.length (Nat.le_refl _); rwa [List.take_length] at this
  intro n
  induction n with
  | zero => intro _; simp [pval_nil]
  | succ n ih =>
    intro hn
    rw [pval_take bs n (by omega), List.take_succ_eq_append_getElem (by omega), List.map_append, List.reverse_append, ih (by omega)]
    simp
    omega
theorem back_digits (bs : List UInt8) (h : ∀ c ∈ bs, good c) : bytesOf (chars (bs.map fun c => c.toNat - 48)) = bs := by
  induction bs with
  | nil => rfl
  | cons b bs ih =>
    have hb := h b (by simp)
    have := ih (fun c hc => h c (by simp [hc]))
    simp only [List.map_cons, chars, bytesOf] at this ⊢
    rw [this]
    congr 1
    have hb1 := hb.1
    have e : 48 + (b.toNat - 48) = b.toNat := by omega
    rw [e]
    simp
theorem text_parsed {bs : List UInt8} (h : parseC bs = 0) : textB (parseZ bs) = bs := by
  have hz : parseZ bs = (if isNeg bs then -((pval (strip bs) : Nat) : Int) else ((pval (strip bs) : Nat) : Int)) := by unfold parseZ; rw [if_pos h]
  unfold parseC at h
  split at h; · cases h
  rename_i h1
  split at h; · cases h
  rename_i h2
  split at h; · cases h
  rename_i h3
  have hall : ∀ c ∈ strip bs, good c := Classical.not_not.1 h3
  generalize hds : strip bs = ds at *
  have hback := back_digits ds hall
  have hdv := dval_digits ds
  have hne : ds ≠ [] := fun e => h2 (Or.inl e)
  have hD : Ds ((ds.map fun c => c.toNat - 48).reverse) := by
    intro d hd
    rw [List.mem_reverse] at hd
    obtain ⟨c, hc, rfl⟩ := List.mem_map.1 hd
    have := (hall c hc).2
    omega
  by_cases h48 : ds.head? = some 48
  · have hh : ¬ (1 < ds.length ∨ isNeg bs = true) := fun hh => h2 (Or.inr ⟨h48, hh⟩)
    have hn : isNeg bs = false := by cases hb : isNeg bs with
      | false => rfl
      | true => exact absurd (Or.inr hb) hh
    have hl : ds = [48] := by
      cases ds with
      | nil => exact absurd rfl hne
      | cons a tl =>
        cases tl with
        | nil => simp at h48; rw [h48]
        | cons _ _ => exact absurd (Or.inl (by simp)) hh
    rw [strip_pos hn] at hds
    rw [hz, hn, hl, hds, hl]
    decide
  · have hlast : ∀ h : (ds.map fun c => c.toNat - 48).reverse ≠ [], ((ds.map fun c => c.toNat - 48).reverse).getLast h ≠ 0 := by
      intro h
      cases ds with
      | nil => exact absurd rfl hne
      | cons a tl =>
        simp only [List.map_cons, List.reverse_cons, List.getLast_append, List.getLast_singleton, List.isEmpty_cons, List.isEmpty_nil]
        have ha := (hall a (by simp)).1
        intro h0
        apply h48
        have : a.toNat = 48 := by simp at h0; omega
        simp
        exact UInt8.toNat_inj.1 this
    have hdec := decR_of hD hlast
    rw [← hdv] at hdec
    have hpos : 0 < pval ds := by
      rcases Nat.eq_zero_or_pos (pval ds) with e | e
      · rw [e, decR_zero] at hdec
        simp at hdec
        exact absurd hdec hne
      · exact e
    have hch : bytesOf (chars (decR (pval ds))).reverse = ds := by
      rw [← hdec]
      have : (chars (ds.map fun c => c.toNat - 48).reverse).reverse = chars (ds.map fun c => c.toNat - 48) := by simp [chars, List.map_reverse]
      rw [this, hback]
    cases hn : isNeg bs with
    | false =>
      rw [hz, hn]
      rw [strip_pos hn] at hds
      show textB ((pval ds : Nat) : Int) = bs
      rw [textB_pos _ hpos, hch, hds]
    | true =>
      rw [hz, hn]
      have hb : bs = 45 :: ds := by
        rw [strip_neg hn] at hds
        cases bs with
        | nil => cases hn
        | cons b bs =>
          rw [isNeg_cons] at hn
          simp at hn hds
          rw [hn, hds]
      show textB (-((pval ds : Nat) : Int)) = bs
      rw [textB_neg _ hpos, hb, List.reverse_append]
      have : bytesOf ([45].reverse ++ (chars (decR (pval ds))).reverse) = 45 :: bytesOf ((chars (decR (pval ds))).reverse) := by simp [bytesOf]
      rw [this, hch]
end Go.Proofs.YtpeglenapmkdfaaGreat

/- Parse of package integer. -/
namespace Go.Proofs.YtpeglenapmkdfaaGreat
open Go.RowKit

theorem IntV.zero (w : World) (X : Nat → Prop) : IntV w X (.agg #[.bool false, .slice none 0 0]) 0 := by
  refine ⟨_, rfl, ?_⟩
  have : dig (0 : Int).natAbs = [] := dig_zero
  rw [this]
  exact Words.nil _ _

theorem Words.one {w : World} {t : TypeId} {X : Nat → Prop} (d : Nat) (h : d < 4294967296) (z : Int) (e : z = (d : Nat)) (hX : ∀ b, X b → b < w.heap.size) :
    Words (w.alloc (.cells #[.int .u32 z] t)) X (.slice (some ⟨w.heap.size, 0, none⟩) 1 1) [d] := by
  subst e
  exact Words.lit (t := t) [d] (Loc.new _ _ _) (by simpa using h) (fun h => by have := hX _ h; omega) (by unfold maxLen; simp)
theorem good_step {ds : List UInt8} {i : Nat} (hlt : i < ds.length) (hg : ∀ j, j < i → (hj : j < ds.length) → good ds[j]) (h : good ds[i]) : ∀ j, j < i + 1 → (hj : j < ds.length) → good ds[j] := by
  intro j h1 h2
  by_cases hj : j < i
  · exact hg j hj h2
  · obtain rfl : j = i := by omega
    exact h
theorem byte_at (ds : List UInt8) (i : Nat) (h : i < ds.length) (x : Nat) (hx : ds[i].toNat = x) : ∀ h', ((((({ data := ds.toArray } : ByteArray)[i]'h').toNat : Nat)) : Int) = (x : Nat) := by
  subst hx; intro _; rfl
end Go.Proofs.YtpeglenapmkdfaaGreat

/- Of and Small of package integer and of the reference; same of the law. -/
namespace Go.Proofs.YtpeglenapmkdfaaGreat
open Go.RowKit
attribute [local go_sem ↓] Go.wp_at_zero Go.wp_at_succ

/-- Two structs of canonical integers are the same just if the integers are. -/
theorem sameR_V (z y : Int) : sameR (decide (z < 0)) (dig z.natAbs) (decide (y < 0)) (dig y.natAbs) = decide (z = y) := by
  unfold sameR
  rw [Bool.eq_iff_iff]
  simp only [Bool.and_eq_true, beq_iff_eq, decide_eq_true_eq]
  constructor
  · rintro ⟨h1, h2⟩
    have h3 := congrArg val h2
    rw [val_dig, val_dig] at h3
    rw [decide_eq_decide] at h1
    omega
  · rintro rfl; exact ⟨rfl, rfl⟩

/-- The two words of an int. -/
theorem words2_val (m : Nat) (h : m < 18446744073709551616) : val [m % 4294967296, m / 4294967296] = m := by
  simp; omega

theorem Words.two {w : World} {o : Obj} {t : TypeId} {X : Nat → Prop} (m : Nat) (h : m < 18446744073709551616) (z1 z2 : Int) (e1 : z1 = ((m % 4294967296 : Nat) : Int)) (e2 : z2 = ((m / 4294967296 : Nat) : Int)) (hX : ∀ b, X b → b < w.heap.size) :
    Words ((w.alloc o).alloc (.cells #[.int .u32 z1, .int .u32 z2] t)) X (.slice (some ⟨w.heap.size + 1, 0, none⟩) 2 2) [m % 4294967296, m / 4294967296] := by
  subst e1 e2
  refine Words.lit (t := t) [m % 4294967296, m / 4294967296] ?_ (by simp; omega) (fun h => by have := hX _ h; omega) (by unfold maxLen; simp)
  have := Loc.new (w.alloc o) #[.int .u32 ((m % 4294967296 : Nat) : Int), .int .u32 ((m / 4294967296 : Nat) : Int)] t
  simpa [nums] using this

set_option maxHeartbeats 400000 in
theorem of_any (w : World) (n : Int) (h0 : -9223372036854775808 ≤ n) (h1 : n ≤ 9223372036854775807) :
    Calls Tryz.prog 110 #[.int .i64 n] w fun e w' => ∃ v', e = .returned v' ∧ IntV w' (Old w) v' n ∧ Below w.heap.size w w' := by
  obtain ⟨m, hm⟩ : ∃ m, m = n.natAbs := ⟨_, rfl⟩
  have hs : sv (decide (n < 0)) [m % 4294967296, m / 4294967296] = n := by unfold sv; rw [words2_val m (by omega)]; split <;> simp_all <;> omega
  have HT : Hid (n < 0 → sv true [m % 4294967296, m / 4294967296] = n) := fun h => by rw [← hs]; simp [h]
  have HF : Hid (¬ n < 0 → sv false [m % 4294967296, m / 4294967296] = n) := fun h => by rw [← hs]; simp [h]
  have HM := Lib.hid hm
  clear hs hm
  by_cases hn : n < 0
  all_goals
    go_enter Tryz.func110, Tryz.ntmps110
    go_wp2_with fail
    refine (signed_any _ (Old w) _ _ [m % 4294967296, m / 4294967296] (Words.two m (by have := HM.out; omega) _ _ (by have := HM.out; (try simp only [IntKind.wrap_u64]); omega) (by have := HM.out; (try simp only [IntKind.wrap_u64]); omega) (by simp [Old])) (by simp)).mono ?_
    rintro e w2 ⟨v2, rfl, h2, hb2⟩
    first | rw [HT.out (by omega)] at h2 | rw [HF.out (by omega)] at h2
    obtain ⟨b2, A2, n2, c2, rfl, h2⟩ := h2.op
    obtain ⟨Lr, _, hB, hsz2⟩ := locs2 hb2
    have cc := Lr.cell
    have cf := Lr.frz
    go_wp2_with fail
    refine bodyPost_ret (by simp [results, Tryz.results110, go_sem, cc, cf] <;> rfl) rfl ⟨_, rfl, ?_, below_set2 hB (by omega) _ _⟩
    exact IntV.stored (g := w.heap.size) h2 (by simp only [Old, World.size_alloc]; omega) _ _ (by intro b _ hb; simp only [Old, World.size_alloc] at hb ⊢; omega)
end Go.Proofs.YtpeglenapmkdfaaGreat

/- Of of the reference; Small of both. -/
namespace Go.Proofs.YtpeglenapmkdfaaGreat
open Go.RowKit
attribute [local go_sem ↓] Go.wp_at_zero Go.wp_at_succ

set_option maxHeartbeats 400000 in
theorem rof_any (w : World) (n : Int) (h0 : -9223372036854775808 ≤ n) (h1 : n ≤ 9223372036854775807) :
    Calls Tryz.prog 104 #[.int .i64 n] w fun e w' => ∃ v', e = .returned v' ∧ IntV w' (Old w) v' n ∧ Below w.heap.size w w' := by
  obtain ⟨m, hm⟩ : ∃ m, m = n.natAbs := ⟨_, rfl⟩
  have hs : sv (decide (n < 0)) [m % 4294967296, m / 4294967296] = n := by unfold sv; rw [words2_val m (by omega)]; split <;> simp_all <;> omega
  have HT : Hid (n < 0 → sv true [m % 4294967296, m / 4294967296] = n) := fun h => by rw [← hs]; simp [h]
  have HF : Hid (¬ n < 0 → sv false [m % 4294967296, m / 4294967296] = n) := fun h => by rw [← hs]; simp [h]
  have HM := Lib.hid hm
  clear hs hm
  by_cases hn : n < 0
  all_goals
    go_enter Tryz.func104, Tryz.ntmps104
    go_wp2_with fail
    refine (made_any _ (Old w) _ _ [m % 4294967296, m / 4294967296] (Words.two m (by have := HM.out; omega) _ _ (by have := HM.out; (try simp only [IntKind.wrap_u64, IntKind.wrap_i64]); omega) (by have := HM.out; (try simp only [IntKind.wrap_u64, IntKind.wrap_i64]); omega) (by simp [Old])) (by simp)).mono ?_
    rintro e w2 ⟨v2, rfl, h2, hb2⟩
    first | rw [HT.out (by omega)] at h2 | rw [HF.out (by omega)] at h2
    obtain ⟨b2, A2, n2, c2, rfl, h2⟩ := h2.op
    obtain ⟨Lr, _, hB, hsz2⟩ := locs2 hb2
    have cc := Lr.cell
    have cf := Lr.frz
    go_wp2_with fail
    refine bodyPost_ret (by simp [results, Tryz.results104, go_sem, cc, cf] <;> rfl) rfl ⟨_, rfl, ?_, below_set2 hB (by omega) _ _⟩
    exact IntV.stored (g := w.heap.size) h2 (by simp only [Old, World.size_alloc]; omega) _ _ (by intro b _ hb; simp only [Old, World.size_alloc] at hb ⊢; omega)

/-- Does an integer fit an int? -/
def fits (z : Int) : Bool := decide (-9223372036854775808 ≤ z ∧ z ≤ 9223372036854775807)
def smallI (z : Int) : Int := if fits z then z else 0

theorem fits_no (neg : Bool) (xs : List Nat) (h : 18446744073709551616 ≤ val xs) : fits (sv neg xs) = false ∧ smallI (sv neg xs) = 0 := by
  have : fits (sv neg xs) = false := by unfold fits sv; cases neg <;> simp <;> omega
  exact ⟨this, by simp [smallI, this]⟩

theorem len3_val {xs : List Nat} (h : Can xs) (hl : 2 < xs.length) : 18446744073709551616 ≤ val xs := by
  have h1 := can_lower h (by intro e; subst e; simp at hl)
  have : 4294967296 ^ 2 ≤ 4294967296 ^ (xs.length - 1) := Nat.pow_le_pow_right (by omega) (by omega)
  omega

theorem join_u64' (lo hi : Nat) (hx : hi < 4294967296) (hl : lo < 4294967296) : bits BinOp.or IntKind.u64 (lo : Int) ((hi : Int) * 4294967296) = ((lo + hi * 4294967296 : Nat) : Int) := by
  have h := join_u64 hi lo hx hl
  have e : (hi : Int) * 4294967296 = ((hi * 4294967296 : Nat) : Int) := by omega
  rw [e] at h ⊢
  have hk : ∀ n : Int, 0 ≤ n → n < 2 ^ 64 → IntKind.u64.wrap n = n := fun n h0 h1 => by rw [IntKind.wrap_u64]; omega
  rw [(bits_nat .u64 64 (by decide) hk _ _ (by omega) (by omega)).2] at h ⊢
  rw [Nat.or_comm, h]
  omega
theorem or_zero_u64 (x : Nat) (hx : x < 4294967296) : bits BinOp.or IntKind.u64 0 (x : Int) = (x : Int) := by
  have hk : ∀ n : Int, 0 ≤ n → n < 2 ^ 64 → IntKind.u64.wrap n = n := fun n h0 h1 => by rw [IntKind.wrap_u64]; omega
  have := (bits_nat .u64 64 (by decide) hk 0 x (by omega) (by omega)).2
  simpa using this

theorem wrap_back (m : Nat) (h : (m : Int) ≤ 9223372036854775808) : wrap64 (IntKind.u64.wrap (-(m : Int))) = -(m : Int) := by
  unfold wrap64
  rw [IntKind.wrap_u64]
  omega
theorem smallI_neg (m : Nat) (h : (m : Int) ≤ 9223372036854775808) : smallI (-(m : Int)) = -(m : Int) ∧ fits (-(m : Int)) = true := by
  have : fits (-(m : Int)) = true := by unfold fits; simp; omega
  exact ⟨by simp [smallI, this], this⟩
theorem smallI_pos (m : Nat) (h : (m : Int) < 9223372036854775808) : smallI (m : Int) = (m : Int) ∧ fits (m : Int) = true := by
  have : fits (m : Int) = true := by unfold fits; simp; omega
  exact ⟨by simp [smallI, this], this⟩
theorem smallI_neg' (m : Nat) (h : ¬ (m : Int) ≤ 9223372036854775808) : smallI (-(m : Int)) = 0 ∧ fits (-(m : Int)) = false := by
  have : fits (-(m : Int)) = false := by unfold fits; simp; omega
  exact ⟨by simp [smallI, this], this⟩
theorem smallI_pos' (m : Nat) (h : ¬ (m : Int) < 9223372036854775808) : smallI (m : Int) = 0 ∧ fits (m : Int) = false := by
  have : fits (m : Int) = false := by unfold fits; simp; omega
  exact ⟨by simp [smallI, this], this⟩
theorem len2_val {xs : List Nat} (h : Ws xs) (hl : xs.length ≤ 2) : val xs < 18446744073709551616 := by
  have h1 := val_lt h
  have : 4294967296 ^ xs.length ≤ 4294967296 ^ 2 := Nat.pow_le_pow_right (by omega) hl
  omega
end Go.Proofs.YtpeglenapmkdfaaGreat

