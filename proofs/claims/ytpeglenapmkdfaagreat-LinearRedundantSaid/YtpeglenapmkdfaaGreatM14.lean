/- Contracts of the functions that the statements reach, part 14. -/
import Derived.Test.YtpeglenapmkdfaaGreatRows
import Derived.Deep.RegionHeld3
import Derived.Deep.DrawnRows
import Derived.Deep.DeepCutAuto
import Derived.Test.YtpeglenapmkdfaaGreatM2
import Derived.Test.YtpeglenapmkdfaaGreatM3
import Derived.Test.YtpeglenapmkdfaaGreatM6
import Derived.Test.YtpeglenapmkdfaaGreatM10
import Derived.Test.YtpeglenapmkdfaaGreatM11
import Derived.Test.YtpeglenapmkdfaaGreatM12
import Derived.Test.YtpeglenapmkdfaaGreatM13
set_option linter.unusedSimpArgs false
set_option linter.unusedVariables false

/- Gcd, the program's and the reference's. -/
namespace Go.Proofs.YtpeglenapmkdfaaGreat
open Go.RowKit
attribute [local go_sem ↓] Go.wp_at_zero Go.wp_at_succ

/-- The number that a slice of words reads as. -/
def rd (w : World) : Value → Nat
  | .slice (some a) n _ => val ((List.range n).map fun i => match w.cell? (a.add i) with | some (.int _ x) => x.toNat | _ => 0)
  | _ => 0
theorem Words.rd {w : World} {X : Nat → Prop} {v : Value} {xs : List Nat} (h : Words w X v xs) : rd w v = val xs := by
  obtain ⟨A, c, rfl, _, _, H⟩ := h.open_
  rcases A with _ | a
  · have h0 : xs = [] := by
      rcases xs with _ | ⟨y, ys⟩
      · rfl
      · obtain ⟨_, e, _⟩ := H.at_ (k := 0) (by simp)
        cases e
    subst h0
    rfl
  · show val _ = _
    congr 1
    apply List.ext_getElem
    · simp
    · intro i h1 h2
      obtain ⟨a', e, _, _, hc⟩ := H.at_ (k := i) h2
      injection e with e
      subst e
      simp [hc]
theorem gcd_step (a b : Nat) : Nat.gcd b (a % b) = Nat.gcd a b := by
  rw [Nat.gcd_comm b, ← Nat.gcd_rec, Nat.gcd_comm]

set_option maxHeartbeats 2000000 in
theorem gcd_any (w : World) (X : Nat → Prop) (v1 v2 : Value) (n1 n2 : Bool) (xs ys : List Nat) (h1 : IntR w X v1 n1 xs) (h2 : IntR w X v2 n2 ys) (hs1 : xs.length ≤ 100000000000) (hs2 : ys.length ≤ 100000000000) :
    Calls Tryz.prog 114 #[v1, v2] w fun e w' => ∃ v', e = .returned v' ∧ IntV w' (Old w) v' ((Nat.gcd (val xs) (val ys) : Nat) : Int) ∧ Below w.heap.size w w' := by
  obtain ⟨A, c, rfl, _, _, H1⟩ := h1.open_
  obtain ⟨B, d, rfl, _, _, H2⟩ := h2.open_
  have l1 := trimL_len xs
  have l2 := trimL_len ys
  have c1 := can_trimL H1.2
  have c2 := can_trimL H2.2
  have HV1 := Lib.hid (val_trimL xs)
  have HV2 := Lib.hid (val_trimL ys)
  generalize hG : Nat.gcd (val xs) (val ys) = G
  have HG := Lib.hid hG
  clear hG
  go_enter Tryz.func114, Tryz.ntmps114
  go_wp2_with fail
  have KS := boxes3 w #[.bool n1, .slice A xs.length c] #[.bool n2, .slice B ys.length d] #[.bool false, .slice none 0 0] 42 42 42
  have K1 := (H1.weak (Y := fun _ => False) (fun _ _ h => h.elim)).below (below3 w (.cells #[.bool n1, .slice A xs.length c] 42) (.cells #[.bool n2, .slice B ys.length d] 42) (.cells #[.bool false, .slice none 0 0] 42))
  have K2 := (H2.weak (Y := fun _ => False) (fun _ _ h => h.elim)).below (below3 w (.cells #[.bool n1, .slice A xs.length c] 42) (.cells #[.bool n2, .slice B ys.length d] 42) (.cells #[.bool false, .slice none 0 0] 42))
  obtain ⟨-, -, Lr, hB0, hsz0⟩ := locs3 (c1 := #[.bool n1, .slice A xs.length c]) (c2 := #[.bool n2, .slice B ys.length d]) (c3 := #[.bool false, .slice none 0 0]) (t1 := 42) (t2 := 42) (t3 := 42) (Below.refl _ (((w.alloc _).alloc _).alloc _))
  generalize (((w.alloc (.cells #[.bool n1, .slice A xs.length c] 42)).alloc (.cells #[.bool n2, .slice B ys.length d] 42)).alloc (.cells #[.bool false, .slice none 0 0] 42)) = w1 at *
  clear H1 H2 h1 h2
  go_region_held3 (fun w' => (w'.cell? ⟨w.heap.size, 0, none⟩ = some (.bool n1) ∧ w'.cell? ⟨w.heap.size, 1, none⟩ = some (.slice A xs.length c)) ∧ w'.cell? ⟨w.heap.size + 1, 0, none⟩ = some (.bool n2) ∧ w'.cell? ⟨w.heap.size + 1, 1, none⟩ = some (.slice B ys.length d))
    (first | exact cells_of (KS.out _ (Below.refl _ _).drew) | go_keep)
    (first
      | (go_at_call_of 109 (Value.slice A xs.length c); refine (trim_any _ (fun _ => False) (.slice A xs.length c) xs (K1.below (Below.refl _ _).drew)).mono ?_; rintro e wa ⟨va, rfl, ha, rfl⟩)
      | (go_at_call_of 109 (Value.slice B ys.length d); refine (trim_any _ (fun _ => False) (.slice B ys.length d) ys (K2.below (Below.refl _ _).drew)).mono ?_; rintro e wb ⟨vb, rfl, hb, rfl⟩))
  all_goals
    clear KS
    go_wp2_with fail
    go_loopw [5, 6] (fun x y wr => ∃ (es bs : List Nat), Words wr (fun _ => False) x es ∧ Words wr (fun _ => False) y bs ∧ Can es ∧ Can bs ∧ Nat.gcd (val es) (val bs) = G ∧ es.length ≤ xs.length + ys.length ∧ bs.length ≤ xs.length + ys.length ∧ Loc wr (w.heap.size + 1 + 1) 42 #[.bool false, .slice none 0 0] ∧ Below w.heap.size w wr) (fun _ y wr => rd wr y)
    case atStart => exact ⟨_, _, ha.drew, hb.drew, c1, c2, by rw [HV1.out, HV2.out, HG.out], by omega, by omega, Lr.drew, hB0.drew⟩
    case round =>
      obtain ⟨es, bs, hx, hy, hcx, hcy, hg, hl1, hl2, hL, hbr⟩ := hrel
      have HGG := Lib.hid hg
      have HRD := Lib.hid hy.rd
      clear hg
      by_cases hb0 : bs.length = 0
      · obtain rfl := List.length_eq_zero_iff.1 hb0
        obtain ⟨A2, m2, rfl, _, _, H2⟩ := hy.open_
        rw [List.length_nil] at *
        clear hb0
        go_wp2_with fail
        refine (signed_any _ (fun _ => False) false _ es hx (by omega)).mono ?_
        rintro e w5 ⟨v5, rfl, h5, hb5⟩
        have hgv := HGG.out
        rw [show val [] = 0 from rfl, Nat.gcd_zero_right] at hgv
        rw [sv_false, hgv] at h5
        obtain ⟨bs5, As5, n5, cs5, rfl, h5⟩ := h5.op
        have L5 := hL.below hb5
        have cc := L5.cell
        have cf := L5.frz
        have hsz5 := hbr.size
        have hB5 := hbr.trans (hb5.mono hbr.size)
        have hlL := hL.lt
        go_wp2_with fail
        refine bodyPost_ret (by simp [results, Tryz.results114, go_sem, cc, cf] <;> rfl) rfl ⟨_, rfl, IntV.stored (g := w.heap.size + 1 + 1) (Y := Old w) h5 (by simp only [Old]; omega) _ _ (by intro b _ hb; simp only [Old] at hb ⊢; omega), below_set2 hB5 (by omega) _ _⟩
      · obtain ⟨A2, m2, rfl, _, _, H2⟩ := hy.open_
        have hb1 : 0 < bs.length := by omega
        have hbp : 0 < val bs := hcy.pos (by intro e; subst e; simp at hb0)
        have HBP := Lib.hid hbp
        clear hbp
        go_wp2_with fail
        refine (over_any _ (fun _ => False) (fun _ h => h.elim) _ _ es bs hx hy hcx hcy hb1 (by omega) (by omega)).mono ?_
        rintro e w5 ⟨q5, r5, qs, rs, rfl, hq5, hr5, hqv, hrv, hql, hrl, hb5⟩
        have HRV := Lib.hid hrv
        clear hqv hrv
        go_wp2_with fail
        refine (trim_any _ _ _ rs hr5).mono ?_
        rintro e w6 ⟨v6, rfl, h6, rfl⟩
        have hl6 := trimL_len rs
        have hc6 := can_trimL hr5.2
        have HV6 := Lib.hid (val_trimL rs)
        have HRD6 := Lib.hid h6.rd
        go_wp2_with fail
        go_roundw
        case rel => exact ⟨bs, trimL rs, hy.below hb5, h6, hcy, hc6, by rw [HV6.out, HRV.out, gcd_step]; exact HGG.out, by omega, by omega, hL.below hb5, hbr.trans (hb5.mono hbr.size)⟩
        case measure =>
          rw [HRD6.out, HRD.out, HV6.out, HRV.out]
          exact Nat.mod_lt _ HBP.out

set_option maxHeartbeats 2000000 in
theorem rgcd_any (w : World) (X : Nat → Prop) (v1 v2 : Value) (n1 n2 : Bool) (xs ys : List Nat) (h1 : IntR w X v1 n1 xs) (h2 : IntR w X v2 n2 ys) (hs1 : xs.length ≤ 10000000000) (hs2 : ys.length ≤ 10000000000) :
    Calls Tryz.prog 84 #[v1, v2] w fun e w' => ∃ v', e = .returned v' ∧ IntV w' (Old w) v' ((Nat.gcd (val xs) (val ys) : Nat) : Int) ∧ Below w.heap.size w w' := by
  obtain ⟨A, c, rfl, _, _, H1⟩ := h1.open_
  obtain ⟨B, d, rfl, _, _, H2⟩ := h2.open_
  have l1 := trimL_len xs
  have l2 := trimL_len ys
  have c1 := can_trimL H1.2
  have c2 := can_trimL H2.2
  have HV1 := Lib.hid (val_trimL xs)
  have HV2 := Lib.hid (val_trimL ys)
  generalize hG : Nat.gcd (val xs) (val ys) = G
  have HG := Lib.hid hG
  clear hG
  go_enter Tryz.func84, Tryz.ntmps84
  go_wp2_with fail
  have KS := boxes3 w #[.bool n1, .slice A xs.length c] #[.bool n2, .slice B ys.length d] #[.bool false, .slice none 0 0] 42 42 42
  have K1 := (H1.weak (Y := fun _ => False) (fun _ _ h => h.elim)).below (below3 w (.cells #[.bool n1, .slice A xs.length c] 42) (.cells #[.bool n2, .slice B ys.length d] 42) (.cells #[.bool false, .slice none 0 0] 42))
  have K2 := (H2.weak (Y := fun _ => False) (fun _ _ h => h.elim)).below (below3 w (.cells #[.bool n1, .slice A xs.length c] 42) (.cells #[.bool n2, .slice B ys.length d] 42) (.cells #[.bool false, .slice none 0 0] 42))
  obtain ⟨-, -, Lr, hB0, hsz0⟩ := locs3 (c1 := #[.bool n1, .slice A xs.length c]) (c2 := #[.bool n2, .slice B ys.length d]) (c3 := #[.bool false, .slice none 0 0]) (t1 := 42) (t2 := 42) (t3 := 42) (Below.refl _ (((w.alloc _).alloc _).alloc _))
  generalize (((w.alloc (.cells #[.bool n1, .slice A xs.length c] 42)).alloc (.cells #[.bool n2, .slice B ys.length d] 42)).alloc (.cells #[.bool false, .slice none 0 0] 42)) = w1 at *
  clear H1 H2 h1 h2
  go_region_held3 (fun w' => (w'.cell? ⟨w.heap.size, 0, none⟩ = some (.bool n1) ∧ w'.cell? ⟨w.heap.size, 1, none⟩ = some (.slice A xs.length c)) ∧ w'.cell? ⟨w.heap.size + 1, 0, none⟩ = some (.bool n2) ∧ w'.cell? ⟨w.heap.size + 1, 1, none⟩ = some (.slice B ys.length d))
    (first | exact cells_of (KS.out _ (k2.mono (by omega))) | exact cells_of (KS.out _ (k1.mono (by omega))) | exact cells_of (KS.out _ (Below.refl _ _).drew) | go_keep)
    (first
      | (go_at_call_of 76 (Value.slice A xs.length c); refine (rtrim_any _ (fun _ => False) (.slice A xs.length c) xs (K1.below (Below.refl _ _).drew) (by omega)).mono ?_; rintro e wa ⟨va, rfl, ha, hka⟩; have k1 := below_undrew hka)
      | (go_at_call_of 76 (Value.slice B ys.length d); refine (rtrim_any _ (fun _ => False) (.slice B ys.length d) ys (K2.below k1) (by omega)).mono ?_; rintro e wb ⟨vb, rfl, hb, hkb⟩; have k2 := k1.trans (hkb.mono k1.size); have ha2 := ha.below hkb))
  all_goals
    clear KS
    have Lr2 := Lr.below k2
    have hB2 := hB0.trans (k2.mono (by omega))
    clear Lr hB0
    go_wp2_with fail
    go_loopw [5, 6] (fun x y wr => ∃ (es bs : List Nat), Words wr (fun _ => False) x es ∧ Words wr (fun _ => False) y bs ∧ Can es ∧ Can bs ∧ Nat.gcd (val es) (val bs) = G ∧ es.length ≤ xs.length + ys.length ∧ bs.length ≤ xs.length + ys.length ∧ Loc wr (w.heap.size + 1 + 1) 42 #[.bool false, .slice none 0 0] ∧ Below w.heap.size w wr) (fun _ y wr => rd wr y)
    case atStart => exact ⟨_, _, ha2.weak (fun _ _ h => h.elim), hb.weak (fun _ _ h => h.elim), c1, c2, by rw [HV1.out, HV2.out, HG.out], by omega, by omega, Lr2, hB2⟩
    case round =>
      obtain ⟨es, bs, hx, hy, hcx, hcy, hg, hl1, hl2, hL, hbr⟩ := hrel
      have HGG := Lib.hid hg
      have HRD := Lib.hid hy.rd
      clear hg
      by_cases hb0 : bs.length = 0
      · obtain rfl := List.length_eq_zero_iff.1 hb0
        obtain ⟨A2, m2, rfl, _, _, H2⟩ := hy.open_
        rw [List.length_nil] at *
        clear hb0
        go_wp2_with fail
        refine (made_any _ (fun _ => False) false _ es hx (by omega)).mono ?_
        rintro e w5 ⟨v5, rfl, h5, hb5⟩
        have hgv := HGG.out
        rw [show val [] = 0 from rfl, Nat.gcd_zero_right] at hgv
        rw [sv_false, hgv] at h5
        obtain ⟨bs5, As5, n5, cs5, rfl, h5⟩ := h5.op
        have L5 := hL.below hb5
        have cc := L5.cell
        have cf := L5.frz
        have hsz5 := hbr.size
        have hB5 := hbr.trans (hb5.mono hbr.size)
        have hlL := hL.lt
        go_wp2_with fail
        refine bodyPost_ret (by simp [results, Tryz.results84, go_sem, cc, cf] <;> rfl) rfl ⟨_, rfl, IntV.stored (g := w.heap.size + 1 + 1) (Y := Old w) h5 (by simp only [Old]; omega) _ _ (by intro b _ hb; simp only [Old] at hb ⊢; omega), below_set2 hB5 (by omega) _ _⟩
      · obtain ⟨A2, m2, rfl, _, _, H2⟩ := hy.open_
        have hb1 : 0 < bs.length := by omega
        have hbp : 0 < val bs := hcy.pos (by intro e; subst e; simp at hb0)
        have HBP := Lib.hid hbp
        have hrl : (dig (val es % val bs)).length ≤ bs.length := dig_len_le (Nat.lt_trans (Nat.mod_lt _ hbp) (val_lt hcy.1))
        have HRL := Lib.hid hrl
        clear hbp hrl
        go_wp2_with fail
        refine (divWords_any _ (fun _ => False) _ _ es bs hx hy hcy hb1 (by omega)).mono ?_
        rintro e w5 ⟨q5, r5, rfl, hq5, hr5, hb5⟩
        have HRD6 := Lib.hid hr5.rd
        go_wp2_with fail
        go_roundw
        case rel => exact ⟨bs, _, hy.below hb5, hr5.weak (fun _ _ h => h.elim), hcy, can_dig _, by rw [val_dig, gcd_step]; exact HGG.out, by omega, by have := HRL.out; omega, hL.below hb5, hbr.trans (hb5.mono hbr.size)⟩
        case measure =>
          rw [HRD6.out, HRD.out, val_dig]
          exact Nat.mod_lt _ HBP.out
end Go.Proofs.YtpeglenapmkdfaaGreat

/- Fractions: how they lie; rational.over and rational.zero. -/
namespace Go.Proofs.YtpeglenapmkdfaaGreat
open Go.RowKit
attribute [local go_sem ↓] Go.wp_at_zero Go.wp_at_succ

/-- A fraction as it lies: two signs, two lists of words. -/
def RatR (w : World) (X : Nat → Prop) (v : Value) (n1 : Bool) (xs : List Nat) (n2 : Bool) (ys : List Nat) : Prop :=
  ∃ A c B d, v = .agg #[.bool n1, .slice A xs.length c, .bool n2, .slice B ys.length d] ∧ IntR w X (.agg #[.bool n1, .slice A xs.length c]) n1 xs ∧ IntR w X (.agg #[.bool n2, .slice B ys.length d]) n2 ys
/-- The canonical struct of a fraction. -/
def RatV (w : World) (X : Nat → Prop) (v : Value) (q : Rat) : Prop := RatR w X v (decide (q.num < 0)) (dig q.num.natAbs) (decide ((q.den : Int) < 0)) (dig (q.den : Int).natAbs)
/-- The value of a fraction as it lies: 0 where the denominator is 0. -/
def rv (n1 : Bool) (xs : List Nat) (n2 : Bool) (ys : List Nat) : Rat := Rat.divInt (sv n1 xs) (sv n2 ys)

theorem rv_canon (q : Rat) : rv (decide (q.num < 0)) (dig q.num.natAbs) (decide ((q.den : Int) < 0)) (dig (q.den : Int).natAbs) = q := by
  unfold rv; rw [sv_dig, sv_dig, Rat.num_divInt_den]

section
variable {X Y : Nat → Prop} {w w' : World} {v : Value} {n1 n2 : Bool} {xs ys : List Nat} {q : Rat}
theorem RatR.keep (h : RatR w X v n1 xs n2 ys) (hk : Keep X w w') : RatR w' X v n1 xs n2 ys := let ⟨A, c, B, d, e, h1, h2⟩ := h; ⟨A, c, B, d, e, h1.keep hk, h2.keep hk⟩
theorem RatR.weak (h : RatR w X v n1 xs n2 ys) (hY : ∀ b, b < w.heap.size → Y b → X b) : RatR w Y v n1 xs n2 ys := let ⟨A, c, B, d, e, h1, h2⟩ := h; ⟨A, c, B, d, e, h1.weak hY, h2.weak hY⟩
theorem RatR.below (h : RatR w X v n1 xs n2 ys) (hk : Below w.heap.size w w') : RatR w' X v n1 xs n2 ys := h.keep (.of_below hk)
theorem RatV.keep (h : RatV w X v q) (hk : Keep X w w') : RatV w' X v q := RatR.keep h hk
theorem RatV.weak (h : RatV w X v q) (hY : ∀ b, b < w.heap.size → Y b → X b) : RatV w Y v q := RatR.weak h hY
theorem RatV.below (h : RatV w X v q) (hk : Below w.heap.size w w') : RatV w' X v q := RatR.below h hk
/-- The shape, its parts letters. -/
theorem RatV.op (h : RatV w X v q) : ∃ (b : Bool) (A : Option Addr) (m c : Nat) (b' : Bool) (A' : Option Addr) (m' c' : Nat), v = .agg #[.bool b, .slice A m c, .bool b', .slice A' m' c'] ∧
    RatV w X (.agg #[.bool b, .slice A m c, .bool b', .slice A' m' c']) q ∧ IntV w X (.agg #[.bool b, .slice A m c]) q.num ∧ IntV w X (.agg #[.bool b', .slice A' m' c']) (q.den : Int) := by
  have h0 := h
  obtain ⟨A, c, B, d, rfl, h1, h2⟩ := h
  exact ⟨_, A, _, c, _, B, _, d, rfl, h0, h1, h2⟩
theorem RatV.of {a1 b1 : Bool} {a2 b2 : Value} (h : IntV w X (.agg #[.bool a1, a2]) q.num) (k : IntV w X (.agg #[.bool b1, b2]) (q.den : Int)) : RatV w X (.agg #[.bool a1, a2, .bool b1, b2]) q := by
  obtain ⟨A, c, e, _, _, h1⟩ := IntR.open_ h
  obtain ⟨B, d, e', _, _, h2⟩ := IntR.open_ k
  simp only [Value.agg.injEq, Array.mk.injEq, List.cons.injEq, Value.bool.injEq, and_true] at e e'
  obtain ⟨rfl, rfl⟩ := e
  obtain ⟨rfl, rfl⟩ := e'
  exact ⟨A, c, B, d, rfl, h, k⟩
theorem ratR_of {a1 b1 : Bool} {a2 b2 : Value} (h : IntR w X (.agg #[.bool a1, a2]) n1 xs) (k : IntR w X (.agg #[.bool b1, b2]) n2 ys) : RatR w X (.agg #[.bool a1, a2, .bool b1, b2]) n1 xs n2 ys := by
  obtain ⟨A, c, e, _, _, h1⟩ := IntR.open_ h
  obtain ⟨B, d, e', _, _, h2⟩ := IntR.open_ k
  simp only [Value.agg.injEq, Array.mk.injEq, List.cons.injEq, Value.bool.injEq, and_true] at e e'
  obtain ⟨rfl, rfl⟩ := e
  obtain ⟨rfl, rfl⟩ := e'
  exact ⟨A, c, B, d, rfl, h, k⟩
theorem RatR.to (h : RatR w X v n1 xs n2 ys)
    (k : Keep X w w' := by
      repeat (first
        | (with_reducible exact Keep.refl _ _) | (with_reducible refine Keep.drew ?_) | (with_reducible refine Keep.alloc ?_ _) | (with_reducible refine Keep.drewN ?_)
        | (with_reducible refine Keep.set ?_ ?_ _; rotate_left; (first | (right; simp only [World.size_alloc, size_set, size_drew, size_drewN]; omega) | (right; omega) | (left; simp only [Old, World.size_alloc, size_set, size_drew, size_drewN]; omega) | (left; dsimp only; omega)))
        | (with_reducible refine Keep.on ?_ (by assumption)))
      fail_if_success exfalso) : RatR w' (fun _ => False) v n1 xs n2 ys := (h.keep k).weak (fun _ _ h => h.elim)
theorem RatV.to (h : RatV w X v q)
    (k : Keep X w w' := by
      repeat (first
        | (with_reducible exact Keep.refl _ _) | (with_reducible refine Keep.drew ?_) | (with_reducible refine Keep.alloc ?_ _) | (with_reducible refine Keep.drewN ?_)
        | (with_reducible refine Keep.set ?_ ?_ _; rotate_left; (first | (right; simp only [World.size_alloc, size_set, size_drew, size_drewN]; omega) | (right; omega) | (left; simp only [Old, World.size_alloc, size_set, size_drew, size_drewN]; omega) | (left; dsimp only; omega)))
        | (with_reducible refine Keep.on ?_ (by assumption)))
      fail_if_success exfalso) : RatV w' (fun _ => False) v q := (h.keep k).weak (fun _ _ h => h.elim)
theorem RatV.out (h : RatV w X v q)
    (k : Keep (fun b => X b ∨ Y b) w w' := by
      repeat (first
        | (with_reducible exact Keep.refl _ _) | (with_reducible refine Keep.drew ?_) | (with_reducible refine Keep.alloc ?_ _) | (with_reducible refine Keep.drewN ?_)
        | (with_reducible refine Keep.set ?_ ?_ _; rotate_left; (first | (right; simp only [World.size_alloc, size_set, size_drew, size_drewN]; omega) | (right; omega) | (left; simp only [Old, World.size_alloc, size_set, size_drew, size_drewN]; omega) | (left; dsimp only; omega) | (left; left; simp only [Old, World.size_alloc, size_set, size_drew, size_drewN]; omega) | (left; right; simp only [Old, World.size_alloc, size_set, size_drew, size_drewN]; omega) | (left; right; dsimp only; omega)))
        | (with_reducible refine Keep.on ?_ (by assumption)))
      fail_if_success exfalso)
    (hY : ∀ b, b < w.heap.size → Y b → X b := by intro b hw hb; (try simp only [Old, World.size_alloc, size_set, size_drew, size_drewN] at hw hb ⊢); first | omega | (exfalso; omega)) : RatV w' Y v q := ((h.weak (Y := fun b => X b ∨ Y b) (fun b hb hxy => hxy.elim id (hY b hb))).keep k).weak (fun b _ h => Or.inr h)
end

set_option maxHeartbeats 1000000 in
theorem over_rat (w : World) (X : Nat → Prop) (v1 v2 : Value) (n1 n2 : Bool) (xs ys : List Nat) (h1 : IntR w X v1 n1 xs) (h2 : IntR w X v2 n2 ys) (hz : val ys ≠ 0) (hs1 : xs.length ≤ 100000000) (hs2 : ys.length ≤ 100000000) :
    Calls Tryz.prog 115 #[v1, v2] w fun e w' => ∃ v', e = .returned v' ∧ IntV w' (Old w) v' (qF (sv n1 xs) (sv n2 ys)) ∧ Below w.heap.size w w' := by
  obtain ⟨A, c, rfl, h1⟩ := h1.op
  obtain ⟨B, d, rfl, h2⟩ := h2.op
  go_enter Tryz.func115, Tryz.ntmps115
  go_wp2_with fail
  refine (divide_any _ (fun _ => False) _ _ n1 n2 xs ys h1.to h2.to hz hs1 hs2).mono ?_
  rintro e w1 ⟨q, r, rfl, hq, hr, hb1⟩
  obtain ⟨z1, z2, z3⟩ := sz3 hb1
  obtain ⟨bq, Aq, mq, cq, rfl, hq⟩ := hq.op
  obtain ⟨br, Ar, mr, cr, rfl, hr⟩ := hr.op
  obtain ⟨c5, f5, -⟩ := (made3 w _ _ #[.bool false, .slice none 0 0] 42).all (w' := w1)
  go_wp2_with fail
  refine bodyPost_ret (by simp [results, Tryz.results115, go_sem, c5, f5, z1, z2, z3] <;> rfl) rfl ⟨_, rfl, hq.out, bel⟩

set_option maxHeartbeats 1000000 in
theorem zero_rat (w : World) :
    Calls Tryz.prog 106 #[] w fun e w' => ∃ v', e = .returned v' ∧ RatV w' (Old w) v' 0 ∧ Below w.heap.size w w' := by
  go_enter Tryz.func106, Tryz.ntmps106
  go_wp2_with fail
  refine (of_any _ 0 (by decide) (by decide)).mono ?_
  rintro e w1 ⟨v1, rfl, h1, hb1⟩
  obtain ⟨b1, A1, m1, c1, rfl, h1⟩ := h1.op
  have z1 := sz1 hb1
  go_wp2_with fail
  refine (of_any _ 1 (by decide) (by decide)).mono ?_
  rintro e w2 ⟨v2, rfl, h2, hb2⟩
  obtain ⟨b2, A2, m2, c2, rfl, h2⟩ := h2.op
  have z2 := hb2.size
  obtain ⟨c5, f5, l5⟩ := (made1 w #[.bool false, .slice none 0 0, .bool false, .slice none 0 0] 44).all (w' := w2)
  go_wp2_with fail
  refine bodyPost_ret (by simp [results, Tryz.results106, go_sem, c5, f5, l5] <;> rfl) rfl ⟨_, rfl, RatV.of h1.out h2.out, bel⟩
end Go.Proofs.YtpeglenapmkdfaaGreat

/- Arguments opened: an api.Rat, an api.Frac, out of the form's reading. -/
namespace Go.Proofs.YtpeglenapmkdfaaGreat
open Go.ChangeShapes Go.WideShapes Go.ChangeAt Go.RowKit Go.Joins
open Go.ChangeMaps (open_string shut_string)

theorem cellsRat : Tryz.prog.cellsOf 44 = 4 := by kernel_rfl
theorem cellsBool : Tryz.prog.cellsOf 4 = 1 := by kernel_rfl
theorem cellsWords : Tryz.prog.cellsOf 40 = 1 := by kernel_rfl

set_option maxRecDepth 100000 in
theorem open_IntC {H : Type} {enc : TypeId × Value → H} {W : World} {base fuel : Nat} {c0 c1 : Value} {x : DataW H × List MemPlace}
    (h : DataW.trod enc Tryz.prog W base (fun _ => true) true fuel 42 [c0, c1] = some x) : ∃ b A c zs, IntR W (fun _ => False) (.agg #[c0, c1]) b zs ∧ c0 = .bool b ∧ c1 = .slice A zs.length c := by
  obtain ⟨xs, n, _, _, _, hlen, hg⟩ := DataW.trod_struct Tryz.underlying42 h
  match xs, hlen with
  | [y0, y1], _ =>
    have g0 : DataW.trod enc Tryz.prog W base (fun _ => true) true n 4 (([c0, c1].drop 0).take (Tryz.prog.cellsOf 4)) = [y0, y1][0]? := hg 0 _ rfl
    have g1 : DataW.trod enc Tryz.prog W base (fun _ => true) true n 40 (([c0, c1].drop 1).take (Tryz.prog.cellsOf 40)) = [y0, y1][1]? := hg 1 _ rfl
    rw [cellsBool] at g0
    rw [cellsWords] at g1
    have h0 : DataW.trod enc Tryz.prog W base (fun _ => true) true n 4 [c0] = some y0 := g0
    have h1 : DataW.trod enc Tryz.prog W base (fun _ => true) true n 40 [c1] = some y1 := g1
    obtain ⟨b, e, _⟩ := DataW.trod_bool Tryz.underlying4 h0
    simp at e
    subst e
    obtain ⟨zs, hz⟩ := open_Words h1
    obtain ⟨A, c, rfl, _⟩ := hz.open_
    exact ⟨b, A, c, zs, ⟨_, rfl, hz⟩, rfl, rfl⟩

set_option maxRecDepth 100000 in
theorem open_Rat {H : Type} {enc : TypeId × Value → H} {W : World} {base : Nat} {r : Reach} {b0 : Nat} {v : Value} {d : DataW H} {p : List MemPlace}
    (hv : Value.okWide Tryz.prog W r b0 44 v) (h : DataW.Trod enc Tryz.prog W base (fun _ => true) true 44 v d p) : ∃ n1 xs n2 ys, RatR W (fun _ => False) v n1 xs n2 ys := by
  obtain ⟨cs, rfl, hsz⟩ := okWide_struct Tryz.underlying44 hv
  obtain ⟨l⟩ := cs
  match l, hsz.trans cellsRat with
  | [c0, c1, c2, c3], _ =>
    obtain ⟨fuel, hf⟩ := h
    obtain ⟨xs, n, _, _, _, hlen, hg⟩ := DataW.trod_struct Tryz.underlying44 hf
    match xs, hlen with
    | [y0, y1], _ =>
      have g0 : DataW.trod enc Tryz.prog W base (fun _ => true) true n 42 (([c0, c1, c2, c3].drop 0).take (Tryz.prog.cellsOf 42)) = [y0, y1][0]? := hg 0 _ rfl
      have g1 : DataW.trod enc Tryz.prog W base (fun _ => true) true n 42 (([c0, c1, c2, c3].drop 2).take (Tryz.prog.cellsOf 42)) = [y0, y1][1]? := hg 1 _ rfl
      rw [cellsInt] at g0 g1
      have h0 : DataW.trod enc Tryz.prog W base (fun _ => true) true n 42 [c0, c1] = some y0 := g0
      have h1 : DataW.trod enc Tryz.prog W base (fun _ => true) true n 42 [c2, c3] = some y1 := g1
      obtain ⟨b, A, c, zs, i1, rfl, rfl⟩ := open_IntC h0
      obtain ⟨b', A', c', us, i2, rfl, rfl⟩ := open_IntC h1
      exact ⟨b, zs, b', us, A, c, A', c', rfl, i1, i2⟩
end Go.Proofs.YtpeglenapmkdfaaGreat

/- Arguments opened: a list of fractions. -/
namespace Go.Proofs.YtpeglenapmkdfaaGreat
open Go.ChangeShapes Go.WideShapes Go.ChangeAt Go.RowKit Go.Joins

theorem list_of {α : Type} (P : Nat → α → Prop) : ∀ n, (∀ i, i < n → ∃ e, P i e) → ∃ l : List α, l.length = n ∧ ∀ i e, l[i]? = some e → P i e
  | 0, _ => ⟨[], rfl, fun i e h => by simp at h⟩
  | n + 1, h => by
    obtain ⟨l, hl, hp⟩ := list_of P n (fun i hi => h i (by omega))
    obtain ⟨e, he⟩ := h n (by omega)
    refine ⟨l ++ [e], by simp [hl], fun i x hx => ?_⟩
    by_cases hi : i < n
    · rw [List.getElem?_append_left (by omega)] at hx
      exact hp i x hx
    · have hlt := (List.getElem?_eq_some_iff.1 hx).1
      simp at hlt
      obtain rfl : i = n := by omega
      rw [List.getElem?_append_right (by omega), hl] at hx
      simp at hx
      subst hx
      exact he

/-- A raw fraction's fields: signs and words. -/
structure RF where
  n1 : Bool
  xs : List Nat
  n2 : Bool
  ys : List Nat
/-- The element at an address: its four cells, and the fraction. -/
def RatAt (w : World) (X : Nat → Prop) (a : Addr) (e : RF) : Prop :=
  ∃ C c D d, w.cell? a = some (.bool e.n1) ∧ w.cell? (a.add 1) = some (.slice C e.xs.length c) ∧ w.cell? (a.add 2) = some (.bool e.n2) ∧ w.cell? (a.add 3) = some (.slice D e.ys.length d) ∧
    RatR w X (.agg #[.bool e.n1, .slice C e.xs.length c, .bool e.n2, .slice D e.ys.length d]) e.n1 e.xs e.n2 e.ys
/-- A list of raw fractions. -/
def Rats (w : World) (X : Nat → Prop) (v : Value) (l : List RF) : Prop :=
  ∃ A cap, v = .slice A l.length cap ∧ l.length ≤ cap ∧ cap ≤ maxLen ∧ (l.length ≠ 0 → ∃ a, A = some a ∧ a.block < w.heap.size ∧ ∀ i e, l[i]? = some e → RatAt w X (a.add (i * 4)) e)

set_option maxRecDepth 100000 in
theorem open_RatC {H : Type} {enc : TypeId × Value → H} {W : World} {base fuel : Nat} {c0 c1 c2 c3 : Value} {x : DataW H × List MemPlace}
    (h : DataW.trod enc Tryz.prog W base (fun _ => true) true fuel 44 [c0, c1, c2, c3] = some x) :
    ∃ (e : RF) (A : Option Addr) (c : Nat) (B : Option Addr) (d : Nat), c0 = .bool e.n1 ∧ c1 = .slice A e.xs.length c ∧ c2 = .bool e.n2 ∧ c3 = .slice B e.ys.length d ∧ RatR W (fun _ => False) (.agg #[c0, c1, c2, c3]) e.n1 e.xs e.n2 e.ys := by
  obtain ⟨xs, n, _, _, _, hlen, hg⟩ := DataW.trod_struct Tryz.underlying44 h
  match xs, hlen with
  | [y0, y1], _ =>
    have g0 : DataW.trod enc Tryz.prog W base (fun _ => true) true n 42 (([c0, c1, c2, c3].drop 0).take (Tryz.prog.cellsOf 42)) = [y0, y1][0]? := hg 0 _ rfl
    have g1 : DataW.trod enc Tryz.prog W base (fun _ => true) true n 42 (([c0, c1, c2, c3].drop 2).take (Tryz.prog.cellsOf 42)) = [y0, y1][1]? := hg 1 _ rfl
    rw [cellsInt] at g0 g1
    have h0 : DataW.trod enc Tryz.prog W base (fun _ => true) true n 42 [c0, c1] = some y0 := g0
    have h1 : DataW.trod enc Tryz.prog W base (fun _ => true) true n 42 [c2, c3] = some y1 := g1
    obtain ⟨b, A, c, zs, i1, rfl, rfl⟩ := open_IntC h0
    obtain ⟨b', A', c', us, i2, rfl, rfl⟩ := open_IntC h1
    exact ⟨⟨b, zs, b', us⟩, A, c, A', c', rfl, rfl, rfl, rfl, A, c, A', c', rfl, i1, i2⟩

set_option maxRecDepth 100000 in
theorem open_Rats {H : Type} {enc : TypeId × Value → H} {W : World} {base : Nat} {fuel : Nat} {v : Value} {x : DataW H × List MemPlace}
    (h : DataW.trod enc Tryz.prog W base (fun _ => true) true fuel 23 [v] = some x) : ∃ l, Rats W (fun _ => False) v l := by
  rcases DataW.trod_slice Tryz.underlying23 h with ⟨hcs, _⟩ | ⟨a, len, cap, elems, rest, n, _, hcs, _, hb, hl, hm, hlen, hel, _⟩
  · simp at hcs
    subst hcs
    exact ⟨[], none, 0, rfl, Nat.le_refl _, Nat.zero_le _, fun h => absurd rfl h⟩
  · simp at hcs
    subst hcs
    have key : ∀ i, i < len → ∃ e, RatAt W (fun _ => False) (a.add (i * 4)) e ∧ a.block < W.heap.size := fun i hi => by
      have hq := hel i hi
      rw [cellsRat, List.getElem?_eq_getElem (l := elems) (i := i) (by omega), Option.bind_eq_some_iff] at hq
      obtain ⟨cs, hcs, ht⟩ := hq
      obtain ⟨_, hn, hc⟩ := World.cells?_some hcs
      match cs, hn with
      | [c0, c1, c2, c3], _ =>
        obtain ⟨e, A, c, B, d, e0, e1, e2, e3, hr⟩ := open_RatC ht
        have hbl0 := World.cells?_block hcs (show 0 < 4 by decide)
        have hbl : a.block < W.heap.size := by
          have e : (a.add (i * 4)).block = a.block := by unfold Addr.add; split <;> rfl
          rw [e] at hbl0; exact hbl0
        refine ⟨e, ⟨A, c, B, d, ?_, ?_, ?_, ?_, ?_⟩, hbl⟩
        · rw [← e0]; exact hc 0 (by decide)
        · rw [← e1]; exact hc 1 (by decide)
        · rw [← e2]; exact hc 2 (by decide)
        · rw [← e3]; exact hc 3 (by decide)
        · rw [← e0, ← e1, ← e2, ← e3]; exact hr
    obtain ⟨l, hl', hp⟩ := list_of _ len (fun i hi => key i hi)
    subst hl'
    refine ⟨l, some a, cap, rfl, hl, hm, fun hz => ⟨a, rfl, ?_, fun i e he => (hp i e he).1⟩⟩
    obtain ⟨e, he⟩ := key 0 (by omega)
    exact he.2
set_option maxRecDepth 100000 in
theorem open_RatsV {H : Type} {enc : TypeId × Value → H} {W : World} {base : Nat} {r : Reach} {b0 : Nat} {v : Value} {d : DataW H} {p : List MemPlace}
    (hv : Value.okWide Tryz.prog W r b0 23 v) (h : DataW.Trod enc Tryz.prog W base (fun _ => true) true 23 v d p) : ∃ l, Rats W (fun _ => False) v l := by
  obtain ⟨a, len, cap, rfl⟩ := okWide_slice Tryz.underlying23 hv
  obtain ⟨fuel, hf⟩ := h
  exact open_Rats hf
end Go.Proofs.YtpeglenapmkdfaaGreat

