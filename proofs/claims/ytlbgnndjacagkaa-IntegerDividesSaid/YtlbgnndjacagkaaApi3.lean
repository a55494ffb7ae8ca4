/- Of and Small of package integer and of the reference; same of the law. -/
import Derived.Test.YtlbgnndjacagkaaRows
import Derived.Test.YtlbgnndjacagkaaApi2
namespace Go.Proofs.Ytlbgnndjacagkaa
open Go.RowKit
attribute [local go_sem ↓] Go.wp_at_zero Go.wp_at_succ

set_option maxHeartbeats 400000 in
theorem lsame_any (w : World) (X : Nat → Prop) (v1 v2 : Value) (n1 n2 : Bool) (xs ys : List Nat) (h1 : IntR w X v1 n1 xs) (h2 : IntR w X v2 n2 ys) :
    Calls Try.prog 17 #[v1, v2] w fun e w' => e = .returned (.bool (sameR n1 xs n2 ys)) ∧ Below w.heap.size w w' := by
  obtain ⟨A, c, rfl, _, _, H1⟩ := h1.open_
  obtain ⟨B, d, rfl, _, _, H2⟩ := h2.open_
  go_enter Try.func17, Try.ntmps17
  go_wp2_with fail
  refine (equal_any _ X _ _ n1 n2 xs ys (h1.below (below2 _ _ _)) (h2.below (below2 _ _ _))).mono ?_
  rintro e w2 ⟨rfl, hb2⟩
  go_wp2_with fail
  go_ret
  exact ⟨rfl, (below2 _ _ _).trans (hb2.mono (by simp only [World.size_alloc]; omega))⟩

/-- Two structs of canonical integers are the same just if the integers are. -/
theorem sameR_V (z y : Int) : sameR (decide (z < 0)) (dig z.natAbs) (decide (y < 0)) (dig y.natAbs) = decide (z = y) := by
  unfold sameR
  rw [Bool.eq_iff_iff]
  simp only [Bool.and_eq_true, beq_iff_eq, decide_eq_true_eq]
  constructor
  · rintro ⟨h1, h2⟩
    have h3 := congrArg val h2
    rw [val_dig, val_dig] at h3
    rw [decide_eq_decide] at h1
    omega
  · rintro rfl; exact ⟨rfl, rfl⟩

/-- The two words of an int. -/
theorem words2_val (m : Nat) (h : m < 18446744073709551616) : val [m % 4294967296, m / 4294967296] = m := by
  simp; omega

theorem Words.two {w : World} {o : Obj} {t : TypeId} {X : Nat → Prop} (m : Nat) (h : m < 18446744073709551616) (z1 z2 : Int) (e1 : z1 = ((m % 4294967296 : Nat) : Int)) (e2 : z2 = ((m / 4294967296 : Nat) : Int)) (hX : ∀ b, X b → b < w.heap.size) :
    Words ((w.alloc o).alloc (.cells #[.int .u32 z1, .int .u32 z2] t)) X (.slice (some ⟨w.heap.size + 1, 0, none⟩) 2 2) [m % 4294967296, m / 4294967296] := by
  subst e1 e2
  refine Words.lit (t := t) [m % 4294967296, m / 4294967296] ?_ (by simp; omega) (fun h => by have := hX _ h; omega) (by unfold maxLen; simp)
  have := Loc.new (w.alloc o) #[.int .u32 ((m % 4294967296 : Nat) : Int), .int .u32 ((m / 4294967296 : Nat) : Int)] t
  simpa [nums] using this

set_option maxHeartbeats 400000 in
theorem of_any (w : World) (n : Int) (h0 : -9223372036854775808 ≤ n) (h1 : n ≤ 9223372036854775807) :
    Calls Try.prog 14 #[.int .i64 n] w fun e w' => ∃ v', e = .returned v' ∧ IntV w' (Old w) v' n ∧ Below w.heap.size w w' := by
  obtain ⟨m, hm⟩ : ∃ m, m = n.natAbs := ⟨_, rfl⟩
  have hs : sv (decide (n < 0)) [m % 4294967296, m / 4294967296] = n := by unfold sv; rw [words2_val m (by omega)]; split <;> simp_all <;> omega
  have HT : Hid (n < 0 → sv true [m % 4294967296, m / 4294967296] = n) := fun h => by rw [← hs]; simp [h]
  have HF : Hid (¬ n < 0 → sv false [m % 4294967296, m / 4294967296] = n) := fun h => by rw [← hs]; simp [h]
  have HM := Lib.hid hm
  clear hs hm
  by_cases hn : n < 0
  all_goals
    go_enter Try.func14, Try.ntmps14
    go_wp2_with fail
    refine (signed_any _ (Old w) _ _ [m % 4294967296, m / 4294967296] (Words.two m (by have := HM.out; omega) _ _ (by have := HM.out; (try simp only [IntKind.wrap_u64]); omega) (by have := HM.out; (try simp only [IntKind.wrap_u64]); omega) (by simp [Old])) (by simp)).mono ?_
    rintro e w2 ⟨v2, rfl, h2, hb2⟩
    first | rw [HT.out (by omega)] at h2 | rw [HF.out (by omega)] at h2
    obtain ⟨b2, A2, n2, c2, rfl, h2⟩ := h2.op
    obtain ⟨Lr, _, hB, hsz2⟩ := locs2 hb2
    have cc := Lr.cell
    have cf := Lr.frz
    go_wp2_with fail
    refine bodyPost_ret (by simp [results, Try.results14, go_sem, cc, cf] <;> rfl) rfl ⟨_, rfl, ?_, below_set2 hB (by omega) _ _⟩
    exact IntV.stored (g := w.heap.size) h2 (by simp only [Old, World.size_alloc]; omega) _ _ (by intro b _ hb; simp only [Old, World.size_alloc] at hb ⊢; omega)
end Go.Proofs.Ytlbgnndjacagkaa
