/- The reference's inner functions: trim, word, compareWords, addWords, timesWord, subWords. -/
import Derived.Test.YtlbgnndjacagkaaRows
import Derived.Test.YtlbgnndjacagkaaInt1
import Derived.Deep.QuietTactic
import Derived.BigQuiet
namespace Go.Proofs.Ytlbgnndjacagkaa
open Go.RowKit

set_option maxHeartbeats 1000000 in
theorem rtrim_any (w : World) (X : Nat → Prop) (v : Value) (xs : List Nat) (h : Words w X v xs) (hsz : xs.length ≤ 1099511627776) :
    Calls Try.prog 51 #[v] w fun e w' => ∃ v', e = .returned v' ∧ Words w' (Old w) v' (trimL xs) ∧ Below w.heap.size w w' := by
  obtain ⟨i0, hi, hz0, hz1, hz2⟩ := info_parts info_u32
  have hm := h.lt_max
  obtain ⟨A, c, rfl, hc, _, H⟩ := h.open_
  go_enter Try.func51, Try.ntmps51
  go_wp2
  go_loop [3] (fun i => ∃ k : Nat, k ≤ xs.length ∧ (∀ j, k ≤ j → (h : j < xs.length) → xs[j] = 0) ∧ i = .int .i64 k) (fun i => (intOf i).toNat)
  case atStart => exact ⟨xs.length, Nat.le_refl _, fun j h1 h2 => absurd h2 (by omega), rfl⟩
  case round =>
    obtain ⟨k, hk, hz, rfl⟩ := hrel
    have Hz := Lib.hid hz
    clear hz
    have fin : ∀ k, k ≤ xs.length → trimL xs = xs.take k → Words w X (.slice A k c) (trimL xs) := fun k hk e => e ▸ H.take hk
    by_cases h0 : k = 0
    · subst h0
      have e0 := trimL_take xs 0 hk Hz.out (by omega)
      rw [List.take_zero] at e0
      have E0 := Lib.hid e0
      clear e0 fin
      rcases A with _ | a
      · go_wp2_with fail
        go_ret
        exact ⟨_, rfl, E0.out ▸ Words.of_own (base := w.heap.size) (e := 44) (World.ownsRow_lit w #[] 0 (Nat.le_refl _) (by unfold maxLen; omega) rfl) Ws.nil (fun b h1 _ _ => by unfold Old; omega), (Below.refl _ _).alloc (Nat.le_refl _) _⟩
      · go_wp2_with (at_builtin; refine wpList_append_own _ rfl _ _ 22 rfl w.heap.size 44 i0 (.int .u32 0) 1 4 Try.underlying22 hi hz0 hz1 hz2 rfl (by decide) _ _ _ rfl (World.ownsRow_lit w #[] 0 (Nat.le_refl _) (by unfold maxLen; omega) rfl) a 0 c [] rfl (by simp) (by simp) (by simp) (by unfold maxLen; omega) (by omega) (by simp) ?_)
        intro v1 w1 hown hgrow _
        go_wp2_with fail
        go_ret
        exact ⟨_, rfl, E0.out ▸ Words.of_own (by simpa using hown) Ws.nil (fun b h1 _ _ => by unfold Old; omega), ((Below.refl _ _).alloc (Nat.le_refl _) _).grown hgrow (by simp) (by simp [Value.ownBlock])⟩
    · obtain ⟨a, rfl, _, _, hcell⟩ := H.at_ (k := k - 1) (by omega)
      have hp : (0 : Int) < (k : Int) := by omega
      by_cases hx : xs[k - 1] = 0
      · have hb : (((xs[k - 1] : Nat) : Int) == 0) = true := by simp [hx]
        have HX := Lib.hid hx
        clear hx fin
        go_wp2_with fail
        go_round
        case rel => exact ⟨k - 1, by omega, fun j h1 h2 => if e : j = k - 1 then by subst e; exact HX.out else Hz.out j (by omega) h2, by go_num⟩
        case measure => simp [intOf]; omega
      · have hb : (((xs[k - 1] : Nat) : Int) == 0) = false := by simp; omega
        have H1 := fin k hk (trimL_take xs k hk Hz.out (fun _ _ => hx))
        have ek : (trimL xs).length = k := by rw [trimL_take xs k hk Hz.out (fun _ _ => hx), List.length_take]; omega
        have EK := Lib.hid ek
        clear fin ek
        go_wp2_with (at_builtin; refine wpList_append_own _ rfl _ _ 22 rfl w.heap.size 44 i0 (.int .u32 0) 1 4 Try.underlying22 hi hz0 hz1 hz2 rfl (by decide) _ _ _ rfl (World.ownsRow_lit w #[] 0 (Nat.le_refl _) (by unfold maxLen; omega) rfl) a k c (nums .u32 (trimL xs)) rfl (by simp [EK.out]) (fun j u hu => (Words.below H1 ((Below.refl _ _).alloc (Nat.le_refl _) _)).news j u hu) (nums_one _ _) (by unfold maxLen; omega) (by omega) (by simp) ?_)
        intro v1 w1 hown hgrow _
        go_wp2_with fail
        go_ret
        rw [← EK.out] at hown
        exact ⟨_, rfl, Words.of_own hown H1.2 (fun b h1 _ _ => by unfold Old; omega), ((Below.refl _ _).alloc (Nat.le_refl _) _).grown hgrow (by simp) (by simp [Value.ownBlock])⟩

/-- The word at a place, 0 behind the end. -/
def wordAt (xs : List Nat) (i : Nat) : Nat := xs.getD i 0
theorem wordAt_lt {xs : List Nat} (h : Ws xs) (i : Nat) : wordAt xs i < 4294967296 := by
  unfold wordAt
  rw [List.getD_eq_getElem?_getD]
  by_cases hi : i < xs.length
  · rw [List.getElem?_eq_getElem hi]; exact h.get hi
  · rw [List.getElem?_eq_none (by omega)]; simp
theorem wordAt_in {xs : List Nat} {i : Nat} (hi : i < xs.length) : wordAt xs i = xs[i] := by
  unfold wordAt; rw [List.getD_eq_getElem?_getD, List.getElem?_eq_getElem hi]; rfl
theorem wordAt_out {xs : List Nat} {i : Nat} (hi : xs.length ≤ i) : wordAt xs i = 0 := by
  unfold wordAt; rw [List.getD_eq_getElem?_getD, List.getElem?_eq_none hi]; rfl
theorem val_take_wordAt (xs : List Nat) (k : Nat) : val (xs.take (k + 1)) = val (xs.take k) + 4294967296 ^ k * wordAt xs k := by
  by_cases h : k < xs.length
  · rw [wordAt_in h, val_take_succ xs k h]
  · rw [wordAt_out (by omega), val_take_more xs k (by omega)]; simp

set_option maxHeartbeats 400000 in
theorem word_any (w : World) (X : Nat → Prop) (v : Value) (xs : List Nat) (i : Nat) (h : Words w X v xs) :
    Calls Try.prog 61 #[v, .int .i64 i] w fun e w' => e = .returned (.int .u64 (wordAt xs i : Nat)) ∧ w = w' := by
  have hm := h.lt_max
  obtain ⟨A, c, rfl, hc, _, H⟩ := h.open_
  by_cases hi : i < xs.length
  · obtain ⟨a, rfl, _, _, hcell⟩ := H.at_ hi
    have b := H.lt hi
    go_enter Try.func61, Try.ntmps61
    go_wp2_with fail
    go_ret
    exact ⟨ret_eq (by rw [wordAt_in hi]; rfl), rfl⟩
  · go_enter Try.func61, Try.ntmps61
    go_wp2_with fail
    go_ret
    exact ⟨ret_eq (by rw [wordAt_out (by omega)]; rfl), rfl⟩

set_option maxHeartbeats 1000000 in
theorem addWords_any (w : World) (X : Nat → Prop) (va vb : Value) (xs ys : List Nat) (ha : Words w X va xs) (hb : Words w X vb ys) (hs : xs.length + ys.length ≤ 1000000000000) :
    Calls Try.prog 56 #[va, vb] w fun e w' => ∃ v', e = .returned v' ∧ Words w' (Old w) v' (dig (val xs + val ys)) ∧ Below w.heap.size w w' := by
  obtain ⟨A, c, rfl, hc, _, HA⟩ := ha.open_
  obtain ⟨B, d, rfl, hd, _, HB⟩ := hb.open_
  go_enter Try.func56, Try.ntmps56
  go_wp2_with fail
  go_loopw [5, 6, 7] (fun o cr i wr => ∃ (k : Nat) (zs : List Nat) (cy : Nat), k ≤ xs.length + ys.length ∧ i = .int .i64 k ∧ cr = .int .u64 cy ∧ cy ≤ 1 ∧ zs.length = k ∧ wr.ownsRow w.heap.size 44 1 o zs.length (nums .u32 zs) ∧ Ws zs ∧
      val zs + 4294967296 ^ k * cy = val (xs.take k) + val (ys.take k) ∧ Below w.heap.size w wr) (fun _ _ i _ => xs.length + ys.length - (intOf i).toNat)
  case atStart => exact ⟨0, [], 0, by omega, rfl, rfl, by omega, rfl, World.ownsRow_lit w #[] 0 (Nat.le_refl _) (by unfold maxLen; omega) rfl, Ws.nil, by simp, (Below.refl _ _).alloc (Nat.le_refl _) _⟩
  case round =>
    obtain ⟨k, zs, cy, hk, rfl, rfl, hcy, hzl, hown', hws, hval, hbr⟩ := hrel
    have Hval := Lib.hid hval
    have Hzl := Lib.hid hzl
    have hzb : zs.length ≤ k := by omega
    have hsz := hbr.size
    clear hval hzl
    have HPr := HA.below hbr
    have HQr := HB.below hbr
    have bx := wordAt_lt HA.2 k
    have by_ := wordAt_lt HB.2 k
    by_cases hlt : k < xs.length ∨ k < ys.length
    · have hside : k < xs.length + ys.length := by omega
      by_cases h1 : k < xs.length
      all_goals
        have h1d : decide ((k : Int) < (xs.length : Int)) = decide (k < xs.length) := by simp
        simp only [h1, decide_true, decide_false] at h1d
        go_wp2_with (first | (go_at_call 61; ((with_reducible refine (word_any _ X (.slice A xs.length c) xs k HPr).mono ?_); rintro e w' ⟨rfl, rfl⟩)) | (go_at_call 61; ((with_reducible refine (word_any _ X (.slice B ys.length d) ys k HQr).mono ?_); rintro e w' ⟨rfl, rfl⟩)) | (at_builtin; refine wpList_push _ rfl _ _ rfl Try.underlying22 info_u32 rfl w.heap.size _ _ _ rfl (hown'.alloc _) _ _ rfl (heap_alloc_new wr _) rfl (by omega) (by unfold maxLen; omega) (by simp; omega) ?_))
        intro v2 w2 hown2 hg2 _
        have hb2 := below_own (hbr.alloc hsz _) (hown'.alloc _) hg2 (Nat.le_refl _) (by simp; omega)
        go_wp2_with fail
        go_roundw
        case rel =>
          rw [nums_snoc' _ _ _ ((wordAt xs k + wordAt ys k + cy) % 4294967296) (by omega)] at hown2
          refine ⟨k + 1, zs ++ [(wordAt xs k + wordAt ys k + cy) % 4294967296], (wordAt xs k + wordAt ys k + cy) / 4294967296, by omega, by go_num, by go_num, by omega, by simp [Hzl.out], by simpa using hown2, Ws.append.2 ⟨hws, by simp [Ws]; omega⟩, ?_, hb2⟩
          refine carry_step zs k _ cy _ Hzl.out ?_
          have := Hval.out
          rw [val_take_wordAt, val_take_wordAt, Nat.mul_add, Nat.mul_add]
          omega
        case measure => simp [intOf]; omega
    · go_wp2_with (first | (at_builtin; refine wpList_push _ rfl _ _ rfl Try.underlying22 info_u32 rfl w.heap.size _ _ _ rfl (hown'.alloc _) _ _ rfl (heap_alloc_new wr _) rfl (by omega) (by unfold maxLen; omega) (by simp; omega) ?_) | (go_at_call 51; fail))
      intro v2 w2 hown2 hg2 _
      have hb2 := below_own (hbr.alloc hsz _) (hown'.alloc _) hg2 (Nat.le_refl _) (by simp; omega)
      rw [nums_snoc' _ _ _ (cy % 4294967296) (by omega)] at hown2
      have W2 : Words w2 (Old w) v2 (zs ++ [cy % 4294967296]) := Words.of_own (by simpa using hown2) (Ws.append.2 ⟨hws, by simp [Ws]; omega⟩) (fun b h1 _ _ => by unfold Old; omega)
      go_wp2_with fail
      refine (rtrim_any _ _ _ _ W2 (by simp; omega)).mono ?_
      rintro e w3 ⟨v3, rfl, h3, hb3⟩
      go_wp2_with fail
      go_ret
      have hv := Hval.out
      rw [List.take_of_length_le (by omega), List.take_of_length_le (by omega)] at hv
      rw [trimL_dig W2.2, val_snoc, Hzl.out, Nat.mod_eq_of_lt (by omega), hv] at h3
      exact ⟨_, rfl, h3.weak (by intro b _; unfold Old; have := hb2.size; omega), hb2.trans (hb3.mono hb2.size)⟩
end Go.Proofs.Ytlbgnndjacagkaa
