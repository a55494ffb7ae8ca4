/- The inner functions of package integer, first part: trim, Clone, signed. -/
import Derived.Test.YtlbgnndjacagkaaRows
import Derived.Test.YtlbgnndjacagkaaBase
import Derived.Test.YtlbgnndjacagkaaMag
namespace Go.Proofs.Ytlbgnndjacagkaa
open Go.RowKit

set_option maxHeartbeats 400000 in
theorem trim_any (w : World) (X : Nat → Prop) (v : Value) (xs : List Nat) (h : Words w X v xs) :
    Calls Try.prog 48 #[v] w fun e w' => ∃ v', e = .returned v' ∧ Words w X v' (trimL xs) ∧ w = w' := by
  have hm := h.lt_max
  obtain ⟨A, c, rfl, hc, _, H⟩ := h.open_
  go_enter Try.func48, Try.ntmps48
  go_wp2
  go_loop [3] (fun i => ∃ k : Nat, k ≤ xs.length ∧ (∀ j, k ≤ j → (h : j < xs.length) → xs[j] = 0) ∧ i = .int .i64 k) (fun i => (intOf i).toNat)
  case atStart => exact ⟨xs.length, Nat.le_refl _, fun j h1 h2 => absurd h2 (by omega), rfl⟩
  case round =>
    obtain ⟨k, hk, hz, rfl⟩ := hrel
    have Hz := Lib.hid hz
    clear hz
    by_cases h0 : k = 0
    · subst h0
      go_wp2
      go_ret
      exact ⟨_, rfl, trimL_take xs 0 hk Hz.out (by omega) ▸ H.take hk, rfl⟩
    · obtain ⟨a, rfl, _, _, hcell⟩ := H.at_ (k := k - 1) (by omega)
      have hp : (0 : Int) < (k : Int) := by omega
      by_cases hx : xs[k - 1] = 0
      · have hb : (((xs[k - 1] : Nat) : Int) == 0) = true := by simp [hx]
        have HX := Lib.hid hx
        clear hx
        go_wp2
        go_round
        case rel => exact ⟨k - 1, by omega, fun j h1 h2 => if e : j = k - 1 then by subst e; exact HX.out else Hz.out j (by omega) h2, by go_num⟩
        case measure => simp [intOf]; omega
      · have hb : (((xs[k - 1] : Nat) : Int) == 0) = false := by simp; omega
        go_wp2
        go_ret
        exact ⟨_, rfl, trimL_take xs k hk Hz.out (fun _ _ => hx) ▸ H.take hk, rfl⟩

theorem info_u32 : (Try.prog.info? 44).map (fun i => (i.zero, i.size, i.bytes)) = some (some (.int .u32 0), 1, 4) := by kernel_rfl

set_option maxHeartbeats 400000 in
theorem clone_any (w : World) (X : Nat → Prop) (v : Value) (xs : List Nat) (h : Words w X v xs) (hsz : xs.length ≤ 10000000000000) :
    Calls Try.prog 68 #[v] w fun e w' => ∃ v', e = .returned v' ∧ Words w' (Old w) v' xs ∧ Below w.heap.size w w' := by
  have hm := h.lt_max
  obtain ⟨i0, hi, hz0, hz1, hz2⟩ := info_parts info_u32
  obtain ⟨A, c, rfl, hc, _, H⟩ := h.open_
  have he := @Lib.run_eql_slice_nil Try.prog
  rcases A with _ | a
  · have h0 : xs = [] := by
      rcases xs with _ | ⟨x, xs⟩
      · rfl
      · obtain ⟨a, h, _⟩ := H.at_ (k := 0) (by simp)
        cases h
    subst h0
    go_enter Try.func68, Try.ntmps68
    go_wp2
    go_ret
    exact ⟨_, rfl, Words.nil w _, Below.refl _ _⟩
  · go_enter Try.func68, Try.ntmps68
    go_wp2_with (at_builtin; refine wpList_append_own _ rfl _ _ 22 rfl w.heap.size 44 i0 (.int .u32 0) 1 4 Try.underlying22 hi hz0 hz1 hz2 rfl (by decide) _ _ _ rfl (World.ownsRow_lit w #[] 0 (Nat.le_refl _) (by unfold maxLen; omega) rfl) a xs.length c (nums .u32 xs) rfl (by simp) (fun j u hu => (Words.below H ((Below.refl _ _).alloc (Nat.le_refl _) _)).news j u hu) (nums_one _ _) (by unfold maxLen; omega) (by omega) (by simp) ?_)
    intro v1 w1 hown hgrow _
    go_wp2
    go_ret
    refine ⟨_, rfl, Words.of_own (by simpa using hown) H.2 (fun b h1 _ _ => by unfold Old; omega), ((Below.refl _ _).alloc (Nat.le_refl _) _).grown hgrow (by simp) (by simp [Value.ownBlock])⟩

/-- A struct of a sign and words, as it lies. -/
def IntR (w : World) (X : Nat → Prop) (v : Value) (neg : Bool) (xs : List Nat) : Prop := ∃ s, v = .agg #[.bool neg, s] ∧ Words w X s xs
/-- The integer of a sign and words. -/
def sv (neg : Bool) (xs : List Nat) : Int := if neg then -((val xs : Nat) : Int) else ((val xs : Nat) : Int)
/-- The canonical struct of an integer. -/
def IntV (w : World) (X : Nat → Prop) (v : Value) (z : Int) : Prop := IntR w X v (decide (z < 0)) (dig z.natAbs)

theorem sv_abs (neg : Bool) (xs : List Nat) : (sv neg xs).natAbs = val xs := by unfold sv; split <;> omega
theorem sv_dig (z : Int) : sv (decide (z < 0)) (dig z.natAbs) = z := by
  unfold sv; rw [val_dig]
  by_cases h : z < 0 <;> simp [h] <;> omega
theorem sv_mul (n1 n2 : Bool) (xs ys zs : List Nat) (h : val zs = val xs * val ys) : sv (!n1 == n2) zs = sv n1 xs * sv n2 ys := by
  unfold sv
  rw [h]
  cases n1 <;> cases n2 <;> simp [Int.neg_mul, Int.mul_neg]
theorem sv_trim (n : Bool) (xs : List Nat) : sv n (trimL xs) = sv n xs := by unfold sv; rw [val_trimL]
theorem sv_not (n : Bool) (xs : List Nat) : sv (!n) xs = - sv n xs := by cases n <;> simp [sv]
theorem sv_false (xs : List Nat) : sv false xs = (val xs : Nat) := by simp [sv]
theorem sv_true (xs : List Nat) : sv true xs = -((val xs : Nat) : Int) := by simp [sv]
theorem sv_lt (neg : Bool) (xs : List Nat) (h : Ws xs) : decide (sv neg xs < 0) = (neg && decide (0 < (trimL xs).length)) := by
  rw [trimL_dig h]
  have := dig_len_pos (val xs)
  unfold sv
  by_cases h1 : 0 < val xs
  · have h2 := this.2 h1
    cases neg <;> simp [h2] <;> omega
  · have h2 : ¬ 0 < (dig (val xs)).length := fun h => h1 (this.1 h)
    cases neg <;> simp [h2] <;> omega

section
variable {X Y : Nat → Prop} {w w' : World} {v : Value} {neg : Bool} {xs : List Nat} {z : Int}
theorem IntR.keep (h : IntR w X v neg xs) (hk : Keep X w w') : IntR w' X v neg xs := let ⟨s, e, hs⟩ := h; ⟨s, e, hs.keep hk⟩
theorem IntR.below (h : IntR w X v neg xs) (hk : Below w.heap.size w w') : IntR w' X v neg xs := let ⟨s, e, hs⟩ := h; ⟨s, e, hs.below hk⟩
theorem IntR.weak (h : IntR w X v neg xs) (hY : ∀ b, b < w.heap.size → Y b → X b) : IntR w Y v neg xs := let ⟨s, e, hs⟩ := h; ⟨s, e, hs.weak hY⟩
theorem IntR.open_ (h : IntR w X v neg xs) : ∃ A c, v = .agg #[.bool neg, .slice A xs.length c] ∧ xs.length ≤ c ∧ c ≤ maxLen ∧ Words w X (.slice A xs.length c) xs := by
  obtain ⟨s, rfl, hs⟩ := h
  obtain ⟨A, c, rfl, h1, h2, h3⟩ := hs.open_
  exact ⟨A, c, rfl, h1, h2, h3⟩
theorem IntR.drewN (h : IntR w X v neg xs) (n : Nat) : IntR (w.drewN n) X v neg xs := h
theorem IntV.keep (h : IntV w X v z) (hk : Keep X w w') : IntV w' X v z := IntR.keep h hk
theorem IntV.below (h : IntV w X v z) (hk : Below w.heap.size w w') : IntV w' X v z := IntR.below h hk
theorem IntV.weak (h : IntV w X v z) (hY : ∀ b, b < w.heap.size → Y b → X b) : IntV w Y v z := IntR.weak h hY
theorem IntV.drewN (h : IntV w X v z) (n : Nat) : IntV (w.drewN n) X v z := h
end

theorem keep_set2 {X : Nat → Prop} {w : World} {g : Nat} (hg : X g) (u u' : Value) : Keep X w ((w.setCell ⟨g, 0, none⟩ u).setCell ⟨g, 1, none⟩ u') :=
  ((Keep.refl _ _).set (.inl hg) _).set (.inl hg) _
theorem below_set2 {B : Nat} {w0 w : World} (h : Below B w0 w) {g : Nat} (hg : B ≤ g) (u u' : Value) : Below B w0 ((w.setCell ⟨g, 0, none⟩ u).setCell ⟨g, 1, none⟩ u') :=
  (h.setCell hg _).setCell hg _

/-- The shape of a canonical struct, its parts letters. -/
theorem IntV.op {X : Nat → Prop} {w : World} {v : Value} {z : Int} (h : IntV w X v z) : ∃ (b : Bool) (A : Option Addr) (n c : Nat), v = .agg #[.bool b, .slice A n c] ∧ IntV w X (.agg #[.bool b, .slice A n c]) z := by
  obtain ⟨A, c, rfl, _, _, H⟩ := IntR.open_ h
  exact ⟨_, A, _, c, rfl, h⟩

/-- An integer handed on through the result's own cells. -/
theorem IntV.stored {X Y : Nat → Prop} {w : World} {v : Value} {z : Int} (h : IntV w X v z) {g : Nat} (hg : X g) (u u' : Value) (hY : ∀ b, b < w.heap.size → Y b → X b) : IntV ((w.setCell ⟨g, 0, none⟩ u).setCell ⟨g, 1, none⟩ u') Y v z :=
  (h.keep (keep_set2 hg u u')).weak (fun b hb => hY b (by simpa [World.setCell] using hb))

set_option maxHeartbeats 400000 in
theorem signed_any (w : World) (X : Nat → Prop) (neg : Bool) (v : Value) (xs : List Nat) (h : Words w X v xs) (hsz : xs.length ≤ 10000000000000) :
    Calls Try.prog 47 #[.bool neg, v] w fun e w' => ∃ v', e = .returned v' ∧ IntV w' (Old w) v' (sv neg xs) ∧ Below w.heap.size w w' := by
  go_enter Try.func47, Try.ntmps47
  go_wp2_with fail
  refine (trim_any _ X v xs (h.below ((Below.refl _ _).alloc (Nat.le_refl _) _))).mono ?_
  rintro e w' ⟨v1, rfl, h1, rfl⟩
  go_wp2_with fail
  refine (clone_any _ X v1 _ h1 (Nat.le_trans (trimL_len xs) hsz)).mono ?_
  rintro e w2 ⟨v2, rfl, h2, hb2⟩
  obtain ⟨A, c, rfl, hc, _, H2⟩ := h2.open_
  have L2 := (Loc.new _ _ _).below hb2
  have c2 := L2.cell
  have f2 := L2.frz
  have hB : Below w.heap.size w w2 := ((Below.refl _ _).alloc (Nat.le_refl _) _).trans (hb2.mono (by simp))
  cases neg
  all_goals
    go_wp2_with fail
    refine bodyPost_ret (by simp [results, Try.results47, go_sem, c2, f2] <;> rfl) rfl ⟨_, rfl, ?_, ?_⟩
    · refine ⟨_, by rw [sv_lt _ _ h.2]; simp; rfl, ?_⟩
      rw [sv_abs, ← trimL_dig h.2]
      exact (H2.keep (keep_set2 (by simp [Old]) _ _)).weak (by intro b _; simp [Old]; omega)
    · exact below_set2 hB (Nat.le_refl _) _ _
end Go.Proofs.Ytlbgnndjacagkaa
