/- Gcd, the program's and the reference's. -/
import Derived.Test.YtlbgnndjacagkaaRows
import Derived.Test.YtlbgnndjacagkaaOver
import Derived.Test.YtlbgnndjacagkaaRef4
import Derived.Test.YtlbgnndjacagkaaApi9
import Derived.Deep.RegionHeld3
import Derived.Deep.DrawnRows
namespace Go.Proofs.Ytlbgnndjacagkaa
open Go.RowKit
attribute [local go_sem ↓] Go.wp_at_zero Go.wp_at_succ

/-- The number that a slice of words reads as. -/
def rd (w : World) : Value → Nat
  | .slice (some a) n _ => val ((List.range n).map fun i => match w.cell? (a.add i) with | some (.int _ x) => x.toNat | _ => 0)
  | _ => 0
theorem Words.rd {w : World} {X : Nat → Prop} {v : Value} {xs : List Nat} (h : Words w X v xs) : rd w v = val xs := by
  obtain ⟨A, c, rfl, _, _, H⟩ := h.open_
  rcases A with _ | a
  · have h0 : xs = [] := by
      rcases xs with _ | ⟨y, ys⟩
      · rfl
      · obtain ⟨_, e, _⟩ := H.at_ (k := 0) (by simp)
        cases e
    subst h0
    rfl
  · show val _ = _
    congr 1
    apply List.ext_getElem
    · simp
    · intro i h1 h2
      obtain ⟨a', e, _, _, hc⟩ := H.at_ (k := i) h2
      injection e with e
      subst e
      simp [hc]
theorem gcd_step (a b : Nat) : Nat.gcd b (a % b) = Nat.gcd a b := by
  rw [Nat.gcd_comm b, ← Nat.gcd_rec, Nat.gcd_comm]

set_option maxHeartbeats 2000000 in
theorem gcd_any (w : World) (X : Nat → Prop) (v1 v2 : Value) (n1 n2 : Bool) (xs ys : List Nat) (h1 : IntR w X v1 n1 xs) (h2 : IntR w X v2 n2 ys) (hs1 : xs.length ≤ 100000000000) (hs2 : ys.length ≤ 100000000000) :
    Calls Try.prog 43 #[v1, v2] w fun e w' => ∃ v', e = .returned v' ∧ IntV w' (Old w) v' ((Nat.gcd (val xs) (val ys) : Nat) : Int) ∧ Below w.heap.size w w' := by
  obtain ⟨A, c, rfl, _, _, H1⟩ := h1.open_
  obtain ⟨B, d, rfl, _, _, H2⟩ := h2.open_
  have l1 := trimL_len xs
  have l2 := trimL_len ys
  have c1 := can_trimL H1.2
  have c2 := can_trimL H2.2
  have HV1 := Lib.hid (val_trimL xs)
  have HV2 := Lib.hid (val_trimL ys)
  generalize hG : Nat.gcd (val xs) (val ys) = G
  have HG := Lib.hid hG
  clear hG
  go_enter Try.func43, Try.ntmps43
  go_wp2_with fail
  have KS := boxes3 w #[.bool n1, .slice A xs.length c] #[.bool n2, .slice B ys.length d] #[.bool false, .slice none 0 0] 24 24 24
  have K1 := (H1.weak (Y := fun _ => False) (fun _ _ h => h.elim)).below (below3 w (.cells #[.bool n1, .slice A xs.length c] 24) (.cells #[.bool n2, .slice B ys.length d] 24) (.cells #[.bool false, .slice none 0 0] 24))
  have K2 := (H2.weak (Y := fun _ => False) (fun _ _ h => h.elim)).below (below3 w (.cells #[.bool n1, .slice A xs.length c] 24) (.cells #[.bool n2, .slice B ys.length d] 24) (.cells #[.bool false, .slice none 0 0] 24))
  obtain ⟨-, -, Lr, hB0, hsz0⟩ := locs3 (c1 := #[.bool n1, .slice A xs.length c]) (c2 := #[.bool n2, .slice B ys.length d]) (c3 := #[.bool false, .slice none 0 0]) (t1 := 24) (t2 := 24) (t3 := 24) (Below.refl _ (((w.alloc _).alloc _).alloc _))
  generalize (((w.alloc (.cells #[.bool n1, .slice A xs.length c] 24)).alloc (.cells #[.bool n2, .slice B ys.length d] 24)).alloc (.cells #[.bool false, .slice none 0 0] 24)) = w1 at *
  clear H1 H2 h1 h2
  go_region_held3 (fun w' => (w'.cell? ⟨w.heap.size, 0, none⟩ = some (.bool n1) ∧ w'.cell? ⟨w.heap.size, 1, none⟩ = some (.slice A xs.length c)) ∧ w'.cell? ⟨w.heap.size + 1, 0, none⟩ = some (.bool n2) ∧ w'.cell? ⟨w.heap.size + 1, 1, none⟩ = some (.slice B ys.length d))
    (first | exact cells_of (KS.out _ (Below.refl _ _).drew) | go_keep)
    (first
      | (go_at_call_of 48 (Value.slice A xs.length c); refine (trim_any _ (fun _ => False) (.slice A xs.length c) xs (K1.below (Below.refl _ _).drew)).mono ?_; rintro e wa ⟨va, rfl, ha, rfl⟩)
      | (go_at_call_of 48 (Value.slice B ys.length d); refine (trim_any _ (fun _ => False) (.slice B ys.length d) ys (K2.below (Below.refl _ _).drew)).mono ?_; rintro e wb ⟨vb, rfl, hb, rfl⟩))
  all_goals
    clear KS
    go_wp2_with fail
    go_loopw [5, 6] (fun x y wr => ∃ (es bs : List Nat), Words wr (fun _ => False) x es ∧ Words wr (fun _ => False) y bs ∧ Can es ∧ Can bs ∧ Nat.gcd (val es) (val bs) = G ∧ es.length ≤ xs.length + ys.length ∧ bs.length ≤ xs.length + ys.length ∧ Loc wr (w.heap.size + 1 + 1) 24 #[.bool false, .slice none 0 0] ∧ Below w.heap.size w wr) (fun _ y wr => rd wr y)
    case atStart => exact ⟨_, _, ha.drew, hb.drew, c1, c2, by rw [HV1.out, HV2.out, HG.out], by omega, by omega, Lr.drew, hB0.drew⟩
    case round =>
      obtain ⟨es, bs, hx, hy, hcx, hcy, hg, hl1, hl2, hL, hbr⟩ := hrel
      have HGG := Lib.hid hg
      have HRD := Lib.hid hy.rd
      clear hg
      by_cases hb0 : bs.length = 0
      · obtain rfl := List.length_eq_zero_iff.1 hb0
        obtain ⟨A2, m2, rfl, _, _, H2⟩ := hy.open_
        rw [List.length_nil] at *
        clear hb0
        go_wp2_with fail
        refine (signed_any _ (fun _ => False) false _ es hx (by omega)).mono ?_
        rintro e w5 ⟨v5, rfl, h5, hb5⟩
        have hgv := HGG.out
        rw [show val [] = 0 from rfl, Nat.gcd_zero_right] at hgv
        rw [sv_false, hgv] at h5
        obtain ⟨bs5, As5, n5, cs5, rfl, h5⟩ := h5.op
        have L5 := hL.below hb5
        have cc := L5.cell
        have cf := L5.frz
        have hsz5 := hbr.size
        have hB5 := hbr.trans (hb5.mono hbr.size)
        have hlL := hL.lt
        go_wp2_with fail
        refine bodyPost_ret (by simp [results, Try.results43, go_sem, cc, cf] <;> rfl) rfl ⟨_, rfl, IntV.stored (g := w.heap.size + 1 + 1) (Y := Old w) h5 (by simp only [Old]; omega) _ _ (by intro b _ hb; simp only [Old] at hb ⊢; omega), below_set2 hB5 (by omega) _ _⟩
      · obtain ⟨A2, m2, rfl, _, _, H2⟩ := hy.open_
        have hb1 : 0 < bs.length := by omega
        have hbp : 0 < val bs := hcy.pos (by intro e; subst e; simp at hb0)
        have HBP := Lib.hid hbp
        clear hbp
        go_wp2_with fail
        refine (over_any _ (fun _ => False) (fun _ h => h.elim) _ _ es bs hx hy hcx hcy hb1 (by omega) (by omega)).mono ?_
        rintro e w5 ⟨q5, r5, qs, rs, rfl, hq5, hr5, hqv, hrv, hql, hrl, hb5⟩
        have HRV := Lib.hid hrv
        clear hqv hrv
        go_wp2_with fail
        refine (trim_any _ _ _ rs hr5).mono ?_
        rintro e w6 ⟨v6, rfl, h6, rfl⟩
        have hl6 := trimL_len rs
        have hc6 := can_trimL hr5.2
        have HV6 := Lib.hid (val_trimL rs)
        have HRD6 := Lib.hid h6.rd
        go_wp2_with fail
        go_roundw
        case rel => exact ⟨bs, trimL rs, hy.below hb5, h6, hcy, hc6, by rw [HV6.out, HRV.out, gcd_step]; exact HGG.out, by omega, by omega, hL.below hb5, hbr.trans (hb5.mono hbr.size)⟩
        case measure =>
          rw [HRD6.out, HRD.out, HV6.out, HRV.out]
          exact Nat.mod_lt _ HBP.out

set_option maxHeartbeats 2000000 in
theorem rgcd_any (w : World) (X : Nat → Prop) (v1 v2 : Value) (n1 n2 : Bool) (xs ys : List Nat) (h1 : IntR w X v1 n1 xs) (h2 : IntR w X v2 n2 ys) (hs1 : xs.length ≤ 10000000000) (hs2 : ys.length ≤ 10000000000) :
    Calls Try.prog 44 #[v1, v2] w fun e w' => ∃ v', e = .returned v' ∧ IntV w' (Old w) v' ((Nat.gcd (val xs) (val ys) : Nat) : Int) ∧ Below w.heap.size w w' := by
  obtain ⟨A, c, rfl, _, _, H1⟩ := h1.open_
  obtain ⟨B, d, rfl, _, _, H2⟩ := h2.open_
  have l1 := trimL_len xs
  have l2 := trimL_len ys
  have c1 := can_trimL H1.2
  have c2 := can_trimL H2.2
  have HV1 := Lib.hid (val_trimL xs)
  have HV2 := Lib.hid (val_trimL ys)
  generalize hG : Nat.gcd (val xs) (val ys) = G
  have HG := Lib.hid hG
  clear hG
  go_enter Try.func44, Try.ntmps44
  go_wp2_with fail
  have KS := boxes3 w #[.bool n1, .slice A xs.length c] #[.bool n2, .slice B ys.length d] #[.bool false, .slice none 0 0] 24 24 24
  have K1 := (H1.weak (Y := fun _ => False) (fun _ _ h => h.elim)).below (below3 w (.cells #[.bool n1, .slice A xs.length c] 24) (.cells #[.bool n2, .slice B ys.length d] 24) (.cells #[.bool false, .slice none 0 0] 24))
  have K2 := (H2.weak (Y := fun _ => False) (fun _ _ h => h.elim)).below (below3 w (.cells #[.bool n1, .slice A xs.length c] 24) (.cells #[.bool n2, .slice B ys.length d] 24) (.cells #[.bool false, .slice none 0 0] 24))
  obtain ⟨-, -, Lr, hB0, hsz0⟩ := locs3 (c1 := #[.bool n1, .slice A xs.length c]) (c2 := #[.bool n2, .slice B ys.length d]) (c3 := #[.bool false, .slice none 0 0]) (t1 := 24) (t2 := 24) (t3 := 24) (Below.refl _ (((w.alloc _).alloc _).alloc _))
  generalize (((w.alloc (.cells #[.bool n1, .slice A xs.length c] 24)).alloc (.cells #[.bool n2, .slice B ys.length d] 24)).alloc (.cells #[.bool false, .slice none 0 0] 24)) = w1 at *
  clear H1 H2 h1 h2
  go_region_held3 (fun w' => (w'.cell? ⟨w.heap.size, 0, none⟩ = some (.bool n1) ∧ w'.cell? ⟨w.heap.size, 1, none⟩ = some (.slice A xs.length c)) ∧ w'.cell? ⟨w.heap.size + 1, 0, none⟩ = some (.bool n2) ∧ w'.cell? ⟨w.heap.size + 1, 1, none⟩ = some (.slice B ys.length d))
    (first | exact cells_of (KS.out _ (k2.mono (by omega))) | exact cells_of (KS.out _ (k1.mono (by omega))) | exact cells_of (KS.out _ (Below.refl _ _).drew) | go_keep)
    (first
      | (go_at_call_of 51 (Value.slice A xs.length c); refine (rtrim_any _ (fun _ => False) (.slice A xs.length c) xs (K1.below (Below.refl _ _).drew) (by omega)).mono ?_; rintro e wa ⟨va, rfl, ha, hka⟩; have k1 := below_undrew hka)
      | (go_at_call_of 51 (Value.slice B ys.length d); refine (rtrim_any _ (fun _ => False) (.slice B ys.length d) ys (K2.below k1) (by omega)).mono ?_; rintro e wb ⟨vb, rfl, hb, hkb⟩; have k2 := k1.trans (hkb.mono k1.size); have ha2 := ha.below hkb))
  all_goals
    clear KS
    have Lr2 := Lr.below k2
    have hB2 := hB0.trans (k2.mono (by omega))
    clear Lr hB0
    go_wp2_with fail
    go_loopw [5, 6] (fun x y wr => ∃ (es bs : List Nat), Words wr (fun _ => False) x es ∧ Words wr (fun _ => False) y bs ∧ Can es ∧ Can bs ∧ Nat.gcd (val es) (val bs) = G ∧ es.length ≤ xs.length + ys.length ∧ bs.length ≤ xs.length + ys.length ∧ Loc wr (w.heap.size + 1 + 1) 24 #[.bool false, .slice none 0 0] ∧ Below w.heap.size w wr) (fun _ y wr => rd wr y)
    case atStart => exact ⟨_, _, ha2.weak (fun _ _ h => h.elim), hb.weak (fun _ _ h => h.elim), c1, c2, by rw [HV1.out, HV2.out, HG.out], by omega, by omega, Lr2, hB2⟩
    case round =>
      obtain ⟨es, bs, hx, hy, hcx, hcy, hg, hl1, hl2, hL, hbr⟩ := hrel
      have HGG := Lib.hid hg
      have HRD := Lib.hid hy.rd
      clear hg
      by_cases hb0 : bs.length = 0
      · obtain rfl := List.length_eq_zero_iff.1 hb0
        obtain ⟨A2, m2, rfl, _, _, H2⟩ := hy.open_
        rw [List.length_nil] at *
        clear hb0
        go_wp2_with fail
        refine (made_any _ (fun _ => False) false _ es hx (by omega)).mono ?_
        rintro e w5 ⟨v5, rfl, h5, hb5⟩
        have hgv := HGG.out
        rw [show val [] = 0 from rfl, Nat.gcd_zero_right] at hgv
        rw [sv_false, hgv] at h5
        obtain ⟨bs5, As5, n5, cs5, rfl, h5⟩ := h5.op
        have L5 := hL.below hb5
        have cc := L5.cell
        have cf := L5.frz
        have hsz5 := hbr.size
        have hB5 := hbr.trans (hb5.mono hbr.size)
        have hlL := hL.lt
        go_wp2_with fail
        refine bodyPost_ret (by simp [results, Try.results44, go_sem, cc, cf] <;> rfl) rfl ⟨_, rfl, IntV.stored (g := w.heap.size + 1 + 1) (Y := Old w) h5 (by simp only [Old]; omega) _ _ (by intro b _ hb; simp only [Old] at hb ⊢; omega), below_set2 hB5 (by omega) _ _⟩
      · obtain ⟨A2, m2, rfl, _, _, H2⟩ := hy.open_
        have hb1 : 0 < bs.length := by omega
        have hbp : 0 < val bs := hcy.pos (by intro e; subst e; simp at hb0)
        have HBP := Lib.hid hbp
        have hrl : (dig (val es % val bs)).length ≤ bs.length := dig_len_le (Nat.lt_trans (Nat.mod_lt _ hbp) (val_lt hcy.1))
        have HRL := Lib.hid hrl
        clear hbp hrl
        go_wp2_with fail
        refine (divWords_any _ (fun _ => False) _ _ es bs hx hy hcy hb1 (by omega)).mono ?_
        rintro e w5 ⟨q5, r5, rfl, hq5, hr5, hb5⟩
        have HRD6 := Lib.hid hr5.rd
        go_wp2_with fail
        go_roundw
        case rel => exact ⟨bs, _, hy.below hb5, hr5.weak (fun _ _ h => h.elim), hcy, can_dig _, by rw [val_dig, gcd_step]; exact HGG.out, by omega, by have := HRL.out; omega, hL.below hb5, hbr.trans (hb5.mono hbr.size)⟩
        case measure =>
          rw [HRD6.out, HRD.out, val_dig]
          exact Nat.mod_lt _ HBP.out
end Go.Proofs.Ytlbgnndjacagkaa
