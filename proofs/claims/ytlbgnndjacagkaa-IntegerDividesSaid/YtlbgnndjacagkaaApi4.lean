/- Of of the reference; Small of both. -/
import Derived.Test.YtlbgnndjacagkaaRows
import Derived.Test.YtlbgnndjacagkaaApi3
import Derived.Test.YtlbgnndjacagkaaBits
namespace Go.Proofs.Ytlbgnndjacagkaa
open Go.RowKit
attribute [local go_sem ↓] Go.wp_at_zero Go.wp_at_succ

set_option maxHeartbeats 400000 in
theorem rof_any (w : World) (n : Int) (h0 : -9223372036854775808 ≤ n) (h1 : n ≤ 9223372036854775807) :
    Calls Try.prog 18 #[.int .i64 n] w fun e w' => ∃ v', e = .returned v' ∧ IntV w' (Old w) v' n ∧ Below w.heap.size w w' := by
  obtain ⟨m, hm⟩ : ∃ m, m = n.natAbs := ⟨_, rfl⟩
  have hs : sv (decide (n < 0)) [m % 4294967296, m / 4294967296] = n := by unfold sv; rw [words2_val m (by omega)]; split <;> simp_all <;> omega
  have HT : Hid (n < 0 → sv true [m % 4294967296, m / 4294967296] = n) := fun h => by rw [← hs]; simp [h]
  have HF : Hid (¬ n < 0 → sv false [m % 4294967296, m / 4294967296] = n) := fun h => by rw [← hs]; simp [h]
  have HM := Lib.hid hm
  clear hs hm
  by_cases hn : n < 0
  all_goals
    go_enter Try.func18, Try.ntmps18
    go_wp2_with fail
    refine (made_any _ (Old w) _ _ [m % 4294967296, m / 4294967296] (Words.two m (by have := HM.out; omega) _ _ (by have := HM.out; (try simp only [IntKind.wrap_u64, IntKind.wrap_i64]); omega) (by have := HM.out; (try simp only [IntKind.wrap_u64, IntKind.wrap_i64]); omega) (by simp [Old])) (by simp)).mono ?_
    rintro e w2 ⟨v2, rfl, h2, hb2⟩
    first | rw [HT.out (by omega)] at h2 | rw [HF.out (by omega)] at h2
    obtain ⟨b2, A2, n2, c2, rfl, h2⟩ := h2.op
    obtain ⟨Lr, _, hB, hsz2⟩ := locs2 hb2
    have cc := Lr.cell
    have cf := Lr.frz
    go_wp2_with fail
    refine bodyPost_ret (by simp [results, Try.results18, go_sem, cc, cf] <;> rfl) rfl ⟨_, rfl, ?_, below_set2 hB (by omega) _ _⟩
    exact IntV.stored (g := w.heap.size) h2 (by simp only [Old, World.size_alloc]; omega) _ _ (by intro b _ hb; simp only [Old, World.size_alloc] at hb ⊢; omega)

/-- Does an integer fit an int? -/
def fits (z : Int) : Bool := decide (-9223372036854775808 ≤ z ∧ z ≤ 9223372036854775807)
def smallI (z : Int) : Int := if fits z then z else 0

theorem fits_no (neg : Bool) (xs : List Nat) (h : 18446744073709551616 ≤ val xs) : fits (sv neg xs) = false ∧ smallI (sv neg xs) = 0 := by
  have : fits (sv neg xs) = false := by unfold fits sv; cases neg <;> simp <;> omega
  exact ⟨this, by simp [smallI, this]⟩

theorem len3_val {xs : List Nat} (h : Can xs) (hl : 2 < xs.length) : 18446744073709551616 ≤ val xs := by
  have h1 := can_lower h (by intro e; subst e; simp at hl)
  have : 4294967296 ^ 2 ≤ 4294967296 ^ (xs.length - 1) := Nat.pow_le_pow_right (by omega) (by omega)
  omega

theorem join_u64' (lo hi : Nat) (hx : hi < 4294967296) (hl : lo < 4294967296) : bits BinOp.or IntKind.u64 (lo : Int) ((hi : Int) * 4294967296) = ((lo + hi * 4294967296 : Nat) : Int) := by
  have h := join_u64 hi lo hx hl
  have e : (hi : Int) * 4294967296 = ((hi * 4294967296 : Nat) : Int) := by omega
  rw [e] at h ⊢
  have hk : ∀ n : Int, 0 ≤ n → n < 2 ^ 64 → IntKind.u64.wrap n = n := fun n h0 h1 => by rw [IntKind.wrap_u64]; omega
  rw [(bits_nat .u64 64 (by decide) hk _ _ (by omega) (by omega)).2] at h ⊢
  rw [Nat.or_comm, h]
  omega
theorem or_zero_u64 (x : Nat) (hx : x < 4294967296) : bits BinOp.or IntKind.u64 0 (x : Int) = (x : Int) := by
  have hk : ∀ n : Int, 0 ≤ n → n < 2 ^ 64 → IntKind.u64.wrap n = n := fun n h0 h1 => by rw [IntKind.wrap_u64]; omega
  have := (bits_nat .u64 64 (by decide) hk 0 x (by omega) (by omega)).2
  simpa using this

theorem wrap_back (m : Nat) (h : (m : Int) ≤ 9223372036854775808) : wrap64 (IntKind.u64.wrap (-(m : Int))) = -(m : Int) := by
  unfold wrap64
  rw [IntKind.wrap_u64]
  omega
theorem smallI_neg (m : Nat) (h : (m : Int) ≤ 9223372036854775808) : smallI (-(m : Int)) = -(m : Int) ∧ fits (-(m : Int)) = true := by
  have : fits (-(m : Int)) = true := by unfold fits; simp; omega
  exact ⟨by simp [smallI, this], this⟩
theorem smallI_pos (m : Nat) (h : (m : Int) < 9223372036854775808) : smallI (m : Int) = (m : Int) ∧ fits (m : Int) = true := by
  have : fits (m : Int) = true := by unfold fits; simp; omega
  exact ⟨by simp [smallI, this], this⟩
theorem smallI_neg' (m : Nat) (h : ¬ (m : Int) ≤ 9223372036854775808) : smallI (-(m : Int)) = 0 ∧ fits (-(m : Int)) = false := by
  have : fits (-(m : Int)) = false := by unfold fits; simp; omega
  exact ⟨by simp [smallI, this], this⟩
theorem smallI_pos' (m : Nat) (h : ¬ (m : Int) < 9223372036854775808) : smallI (m : Int) = 0 ∧ fits (m : Int) = false := by
  have : fits (m : Int) = false := by unfold fits; simp; omega
  exact ⟨by simp [smallI, this], this⟩
theorem len2_val {xs : List Nat} (h : Ws xs) (hl : xs.length ≤ 2) : val xs < 18446744073709551616 := by
  have h1 := val_lt h
  have : 4294967296 ^ xs.length ≤ 4294967296 ^ 2 := Nat.pow_le_pow_right (by omega) hl
  omega

set_option maxHeartbeats 1000000 in
theorem small_any (w : World) (X : Nat → Prop) (v : Value) (neg : Bool) (xs : List Nat) (h : IntR w X v neg xs) :
    Calls Try.prog 15 #[v] w fun e w' => e = .returned (.tuple #[.int .i64 (smallI (sv neg xs)), .bool (fits (sv neg xs))]) ∧ Below w.heap.size w w' := by
  obtain ⟨A, c, rfl, h1, h2, H⟩ := h.open_
  have hcan := can_trimL H.2
  have hval := val_trimL xs
  by_cases hl : 2 < (trimL xs).length
  · have hf := fits_no neg xs (by rw [← hval]; exact len3_val hcan hl)
    have HF := Lib.hid hf
    clear hf hval
    go_enter Try.func15, Try.ntmps15
    go_wp2_with (go_at_call 48; refine (trim_any _ X _ xs (H.below (below1 _ _))).mono ?_; rintro e w' ⟨v1, rfl, hv1, rfl⟩; obtain ⟨A1, c1, rfl, _, _, _⟩ := hv1.open_)
    go_ret2
    exact ⟨ret_eq (by rw [HF.out.1, HF.out.2]; rfl), below1 _ _⟩
  · have HV := Lib.hid hval
    clear hval
    go_enter Try.func15, Try.ntmps15
    go_wp2_with fail
    refine (trim_any _ X _ xs (H.below (below1 _ _))).mono ?_
    rintro e w' ⟨v1, rfl, hv1, rfl⟩
    obtain ⟨A1, c1, rfl, _, _, H1⟩ := hv1.open_
    generalize hys : trimL xs = ys at *
    clear hys
    go_wp2_with fail
    go_loop [5, 16] (fun m i => ∃ k : Nat, k ≤ ys.length ∧ i = .int .i64 k ∧ m = .int .u64 (val (ys.take k) : Nat)) (fun _ i => ys.length - (intOf i).toNat)
    case atStart => exact ⟨0, by omega, rfl, by simp⟩
    case round =>
      obtain ⟨k, hk, rfl, rfl⟩ := hrel
      by_cases hlt : k < ys.length
      · obtain ⟨a, rfl, _, _, hca⟩ := H1.at_ hlt
        have by_ := H1.lt hlt
        have hvs := val_take_succ ys k hlt
        have HVS := Lib.hid hvs
        clear hvs
        obtain rfl | rfl : k = 0 ∨ k = 1 := by omega
        · rw [addr_zero] at hca
          have ho := or_zero_u64 _ by_
          go_wp2_with fail
          go_round
          case rel => exact ⟨1, by omega, rfl, by have h := HVS.out; simp at h; rw [h]⟩
          case measure => simp [intOf]; omega
        · rw [addr_one] at hca
          have b1 : val (ys.take 1) < 4294967296 := by have := val_lt (Ws.take H1.2 1); rw [List.length_take, Nat.min_eq_left (by omega), Nat.pow_one] at this; exact this
          have ho := join_u64' _ _ by_ b1
          go_wp2_with fail
          go_round
          case rel => exact ⟨2, by omega, rfl, by have h := HVS.out; rw [h, Nat.pow_one, Nat.mul_comm]; exact int_eq (by omega)⟩
          case measure => simp only [intOf]; omega
      · obtain rfl : k = ys.length := by omega
        rw [List.take_length]
        have hb : val ys < 18446744073709551616 := len2_val H1.2 (by omega)
        generalize val ys = m at *
        clear hv1 H1
        cases neg
        · by_cases hm : (m : Int) < 9223372036854775808
          · have HS := Lib.hid (smallI_pos m hm)
            go_wp2_with fail
            go_ret2
            exact ⟨ret_eq (by rw [sv_false, ← HV.out, HS.out.1, HS.out.2]; rfl), below1 _ _⟩
          · have HS := Lib.hid (smallI_pos' m hm)
            go_wp2_with fail
            go_ret2
            exact ⟨ret_eq (by rw [sv_false, ← HV.out, HS.out.1, HS.out.2]; rfl), below1 _ _⟩
        · by_cases hm : (m : Int) ≤ 9223372036854775808
          · have HS := Lib.hid (smallI_neg m hm)
            go_wp2_with fail
            go_ret2
            refine ⟨?_, below1 _ _⟩
            show Ending.returned (.tuple #[.int .i64 (wrap64 (IntKind.u64.wrap (-(m : Int)))), .bool true]) = _
            rw [wrap_back m hm, sv_true, ← HV.out, HS.out.1, HS.out.2]
          · have HS := Lib.hid (smallI_neg' m hm)
            go_wp2_with fail
            go_ret2
            exact ⟨ret_eq (by rw [sv_true, ← HV.out, HS.out.1, HS.out.2]; rfl), below1 _ _⟩

set_option maxHeartbeats 1000000 in
theorem rsmall_any (w : World) (X : Nat → Prop) (v : Value) (neg : Bool) (xs : List Nat) (h : IntR w X v neg xs) (hsz : xs.length ≤ 1000000000) :
    Calls Try.prog 19 #[v] w fun e w' => e = .returned (.tuple #[.int .i64 (smallI (sv neg xs)), .bool (fits (sv neg xs))]) ∧ Below w.heap.size w w' := by
  obtain ⟨A, c, rfl, h1, h2, H⟩ := h.open_
  have hcan := can_trimL H.2
  have hval := val_trimL xs
  by_cases hl : 2 < (trimL xs).length
  · have hf := fits_no neg xs (by rw [← hval]; exact len3_val hcan hl)
    have HF := Lib.hid hf
    clear hf hval
    go_enter Try.func19, Try.ntmps19
    go_wp2_with fail
    refine (rtrim_any _ X _ xs (H.below (below1 _ _)) (by omega)).mono ?_
    rintro e w2 ⟨v1, rfl, hv1, hb2⟩
    obtain ⟨A1, c1, rfl, _, _, _⟩ := hv1.open_
    obtain ⟨La, hB, _⟩ := locs1 hb2
    have cc := La.cell
    go_wp2_with fail
    go_ret2
    exact ⟨ret_eq (by rw [HF.out.1, HF.out.2]; rfl), hB⟩
  · have HV := Lib.hid hval
    clear hval
    go_enter Try.func19, Try.ntmps19
    go_wp2_with fail
    refine (rtrim_any _ X _ xs (H.below (below1 _ _)) (by omega)).mono ?_
    rintro e w2 ⟨v1, rfl, hv1, hb2⟩
    obtain ⟨A1, c1, rfl, _, _, H1⟩ := hv1.open_
    obtain ⟨La, hB, _⟩ := locs1 hb2
    have cc := La.cell
    clear hb2 La
    generalize hys : trimL xs = ys at *
    clear hys
    go_wp2_with fail
    go_loop [5, 6] (fun m i => ∃ k : Nat, k ≤ ys.length ∧ i = .int .i64 ((k : Int) - 1) ∧ m = .int .u64 (val (ys.drop k) : Nat)) (fun _ i => (intOf i + 1).toNat)
    case atStart => exact ⟨ys.length, by omega, rfl, by simp⟩
    case round =>
      obtain ⟨k, hk, rfl, rfl⟩ := hrel
      by_cases hlt : 0 < k
      · obtain ⟨p, rfl⟩ : ∃ p, k = p + 1 := ⟨k - 1, by omega⟩
        have hp : p < ys.length := by omega
        obtain ⟨a, rfl, _, _, hca⟩ := H1.at_ hp
        have by_ := H1.lt hp
        have hvs := val_drop_succ ys p hp
        have b1 : val (ys.drop (p + 1)) < 4294967296 := by
          have h1 := val_lt (Ws.drop H1.2 (p + 1))
          have : 4294967296 ^ (ys.drop (p + 1)).length ≤ 4294967296 ^ 1 := Nat.pow_le_pow_right (by omega) (by simp; omega)
          rw [Nat.pow_one] at this
          omega
        have HVS := Lib.hid hvs
        clear hvs
        go_wp2_with fail
        go_round
        case rel => exact ⟨p, by omega, by go_num, by have h := HVS.out; rw [h]; exact int_eq (by omega)⟩
        case measure => simp only [intOf]; omega
      · obtain rfl : k = 0 := by omega
        rw [List.drop_zero]
        have hb : val ys < 18446744073709551616 := len2_val H1.2 (by omega)
        generalize val ys = m at *
        clear hv1 H1
        cases neg
        · by_cases hm : (m : Int) < 9223372036854775808
          · have HS := Lib.hid (smallI_pos m hm)
            have hg : ¬ (9223372036854775807 : Int) < (m : Int) := by omega
            go_wp2_with fail
            go_ret2
            exact ⟨ret_eq (by rw [sv_false, ← HV.out, HS.out.1, HS.out.2]; rfl), hB⟩
          · have HS := Lib.hid (smallI_pos' m hm)
            have hg : (9223372036854775807 : Int) < (m : Int) := by omega
            go_wp2_with fail
            go_ret2
            exact ⟨ret_eq (by rw [sv_false, ← HV.out, HS.out.1, HS.out.2]; rfl), hB⟩
        · by_cases hm : (m : Int) ≤ 9223372036854775808
          · have HS := Lib.hid (smallI_neg m hm)
            have hg : ¬ (9223372036854775808 : Int) < (m : Int) := by omega
            by_cases hz : m = 0
            · subst hz
              go_wp2_with fail
              go_ret2
              exact ⟨ret_eq (by rw [sv_true, ← HV.out, HS.out.1, HS.out.2]; rfl), hB⟩
            · have hz1 : ((m : Int) == 0) = false := by rw [beq_eq_false_iff_ne]; omega
              go_wp2_with fail
              go_ret2
              refine ⟨?_, hB⟩
              rw [sv_true, ← HV.out, HS.out.1, HS.out.2]
              have e : -((m : Int) - 1) - 1 = -(m : Int) := by omega
              show Ending.returned (.tuple #[.int .i64 (-((m : Int) - 1) - 1), .bool true]) = _
              rw [e]
          · have HS := Lib.hid (smallI_neg' m hm)
            have hg : (9223372036854775808 : Int) < (m : Int) := by omega
            go_wp2_with fail
            go_ret2
            exact ⟨ret_eq (by rw [sv_true, ← HV.out, HS.out.1, HS.out.2]; rfl), hB⟩
end Go.Proofs.Ytlbgnndjacagkaa
