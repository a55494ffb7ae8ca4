/- Contracts of the functions that the statements reach, part 2. -/
import Derived.Test.YtooheapikhdllaaRows
import Derived.Deep.DeepCutAuto
import Derived.Deep.CutBlock
import Derived.Lib.BitFns
import Derived.Lib.Walk
import Derived.Deep.QuietTactic
import Derived.BigQuiet
import Derived.Deep.RegionHeld3
import Derived.Deep.DrawnRows
import Derived.Test.YtooheapikhdllaaM1
set_option linter.unusedSimpArgs false
set_option linter.unusedVariables false

/- digit: the next word of a quotient, and the divisor times it taken away. -/
namespace Go.Proofs.Ytooheapikhdllaa
open Go.RowKit

/-- The words from j on, k of them. -/
def seg (us : List Nat) (j k : Nat) : Nat := val ((us.drop j).take k)
theorem seg_succ (us : List Nat) (j k : Nat) (h : j + k < us.length) : seg us j (k + 1) = seg us j k + 4294967296 ^ k * us[j + k] := by
  unfold seg
  rw [val_take_succ _ k (by rw [List.length_drop]; omega), List.getElem_drop]
theorem seg_set (us : List Nat) (j k y : Nat) (h : j + k < us.length) : seg (us.set (j + k) y) j (k + 1) = seg us j k + 4294967296 ^ k * y := by
  unfold seg
  have e : (us.set (j + k) y).drop j = (us.drop j).set k y := by
    rw [List.drop_set, if_neg (by omega)]
    congr 1; omega
  rw [e, val_take_set _ k y (by rw [List.length_drop]; omega)]
theorem seg_zero (us : List Nat) (j : Nat) : seg us j 0 = 0 := by simp [seg]
theorem seg_lt {us : List Nat} (h : Ws us) (j k : Nat) : seg us j k < 4294967296 ^ k := by
  unfold seg
  refine Nat.lt_of_lt_of_le (val_lt ((h.drop j).take k)) (Nat.pow_le_pow_right (by omega) ?_)
  rw [List.length_take]; omega

theorem seg_split {us ys : List Nat} {j p : Nat} (hu : Ws us) (hy : Ws ys) (hl : ys.length = p + 2) (hj : j + (p + 2) < us.length) (ht : 2147483648 ≤ ys[p + 1]) (hlt : seg us j (p + 2 + 1) < 4294967296 * val ys) :
    Split (4294967296 ^ p) (val ys) (seg us j (p + 2 + 1)) (val (ys.take p)) ys[p] ys[p + 1] (seg us j p) us[j + p] us[j + (p + 1)] us[j + (p + 2)] := by
  refine ⟨Nat.pow_pos (by omega), ?_, ?_, ?_, seg_lt hu j p, hy.get _, hu.get _, hu.get _, ht, hy.get _, hlt⟩
  · have e : val ys = val (ys.take (p + 1 + 1)) := by rw [List.take_of_length_le (by omega)]
    rw [e, val_take_succ ys (p + 1) (by omega), val_take_succ ys p (by omega), Nat.pow_succ, Nat.mul_add, Nat.mul_assoc]
    omega
  · rw [seg_succ us j (p + 2) hj, seg_succ us j (p + 1) (by omega), seg_succ us j p (by omega)]
    simp only [Nat.pow_succ, Nat.mul_add, Nat.mul_assoc]
    omega
  · have h := val_lt (hy.take p)
    rw [List.length_take, (by omega : min p ys.length = p)] at h
    exact h

theorem seg_keep {us vs : List Nat} {j k : Nat} (h : ∀ i, j ≤ i → i < j + k → vs[i]? = us[i]?) : seg vs j k = seg us j k := by
  unfold seg
  congr 1
  apply List.ext_getElem?
  intro i
  rw [List.getElem?_take, List.getElem?_take]
  split
  · rw [List.getElem?_drop, List.getElem?_drop]
    exact h _ (by omega) (by omega)
  · rfl
theorem addb_end {nw T V X e s : Nat} (h : s + T * e = nw + V) (h2 : nw + V = T + X) (hs : s < T) (hx : X < T) : s = X := by
  rcases Nat.lt_or_ge e 1 with h0 | h0
  · obtain rfl : e = 0 := by omega
    rw [Nat.mul_zero] at h
    omega
  · rcases Nat.lt_or_ge 1 e with h1 | h1
    · have : T * 2 ≤ T * e := Nat.mul_le_mul_left _ h1
      omega
    · obtain rfl : e = 1 := by omega
      rw [Nat.mul_one] at h
      omega

set_option maxRecDepth 20000 in
set_option maxHeartbeats 4000000 in
theorem digit_any (w : World) (g j p cap : Nat) (us ys : List Nat) (vv : Value) (hr : Row w g us) (hu : Ws us) (hv : Words w (fun b => b = g) vv ys) (hn : ys.length = p + 2) (hj : j + (p + 2) < us.length) (hlen : us.length ≤ 10000000000000)
    (htop : 2147483648 ≤ ys[p + 1]) (hlt : seg us j (p + 2 + 1) < 4294967296 * val ys) :
    Calls Try.prog 116 #[.slice (some ⟨g, j, none⟩) (p + 2 + 1) cap, vv] w fun e w' => ∃ us', e = .returned (.int .u32 ((seg us j (p + 2 + 1) / val ys : Nat) : Int)) ∧ Row w' g us' ∧ Ws us' ∧ us'.length = us.length ∧ (∀ i, i < j ∨ j + (p + 2) < i → us'[i]? = us[i]?) ∧ seg us' j (p + 2 + 1) = seg us j (p + 2 + 1) % val ys ∧ w.grownBy w' (some g) := by
  obtain ⟨B, d, rfl, hd, _, HB⟩ := hv.open_
  have S := seg_split hu hv.2 hn hj htop hlt
  have HS := Lib.hid S
  obtain ⟨hG1, hG2⟩ := S.first
  have HG2 := Lib.hid hG2
  have HG1 := Lib.hid hG1
  clear hG1 hG2
  have b0 := S.hu1
  have b1 := hu.get hj
  have b2 := S.hu2
  have b3 := S.hvt
  have b4 := S.hvt2
  have b5 := S.hv2
  clear S
  have c0 := hr.cell (k := j + (p + 2)) hj
  have c1 := hr.cell (k := j + (p + 1)) (by omega)
  have c2 := hr.cell (k := j + p) (by omega)
  obtain ⟨a, rfl, _, _, d1⟩ := HB.at_ (k := p + 1) (by omega)
  obtain ⟨a', ha', _, _, d2⟩ := HB.at_ (k := p) (by omega)
  injection ha' with ha'
  subst ha'
  generalize hu0 : us[j + (p + 2)] = u0 at *
  generalize hu1 : us[j + (p + 1)] = u1 at *
  generalize hu2 : us[j + p] = u2 at *
  generalize hvt : ys[p + 1] = vt at *
  generalize hv2 : ys[p] = v2 at *
  have HU0 := Lib.hid hu0
  have HU2 := Lib.hid hu2
  have HVT := Lib.hid hvt
  have HV2 := Lib.hid hv2
  clear hu0 hu1 hu2 hvt hv2
  have hxl := HB.lt_max
  rw [hn] at hd HB hxl
  clear hv
  rw [hn]
  have HN := Lib.hid hn
  obtain ⟨top, htp⟩ : ∃ top, top = u0 * 4294967296 + u1 := ⟨_, rfl⟩
  have hjoin := join_u64 u0 u1 b1 b0
  rw [← htp] at hjoin
  have HTP := Lib.hid htp
  have e1 : IntKind.u64.wrap ((u0 : Int) * 4294967296) = (u0 : Int) * 4294967296 := by rw [IntKind.wrap_u64]; omega
  clear htp
  have hqlt := HS.out.q_lt
  generalize hQ : seg us j (p + 2 + 1) / val ys = Q at *
  have HQ := Lib.hid hQ
  clear hQ
  have i0 : (0 : Int) ≤ (p : Int) := by omega
  have i1 : (p : Int) ≤ 10000000000000 := by omega
  have i3 : (p : Int) + 1 < (p : Int) + 2 := by omega
  have i4 : (0 : Int) ≤ (p : Int) + 1 := by omega
  have i5 : (p : Int) < (p : Int) + 2 := by omega
  have w1 : IntKind.i64.wrap ((p : Int) + 2 - 1) = (p : Int) + 1 := by rw [IntKind.wrap_i64]; omega
  have w2 : IntKind.i64.wrap ((p : Int) + 2 - 2) = (p : Int) := by rw [IntKind.wrap_i64]; omega
  have w3 : IntKind.i64.wrap ((p : Int) + 1) = (p : Int) + 1 := by rw [IntKind.wrap_i64]; omega
  have w4 : IntKind.i64.wrap (p : Int) = (p : Int) := by rw [IntKind.wrap_i64]; omega
  have w5 : (p : Int) + 2 - 1 = (p : Int) + 1 := by omega
  have w6 : (p : Int) + 2 - 2 = (p : Int) := by omega
  have d1 : w.cell? ⟨a.block, a.off + (p + 1), none⟩ = some (.int .u32 ((vt : Nat) : Int)) := by have h := d1; simp only [Addr.add] at h; simpa using h
  go_enter Try.func116, Try.ntmps116
  go_wp2_with fail
  go_quiet (fail)
  obtain ⟨G0, hG0⟩ : ∃ G, top / vt = G := ⟨_, rfl⟩
  obtain ⟨R0, hR0⟩ : ∃ R, top % vt = R := ⟨_, rfl⟩
  have e2 : ((top : Nat) : Int) / ((vt : Nat) : Int) = ((G0 : Nat) : Int) := by rw [← hG0]; exact (Int.natCast_ediv top vt).symm
  have e3 : ((top : Nat) : Int) % ((vt : Nat) : Int) = ((R0 : Nat) : Int) := by rw [← hR0]; exact (Int.natCast_emod top vt).symm
  have hv0 : ((vt : Int) != 0) = true := by rw [bne_iff_ne]; omega
  have hv1 : ((vt : Int) == 0) = false := by rw [beq_eq_false_iff_ne]; omega
  have hg0 : G0 * vt + R0 = u1 + 4294967296 * u0 := by
    have h := Nat.div_add_mod top vt
    rw [hG0, hR0, Nat.mul_comm] at h
    have := HTP.out
    omega
  have htt : top = u1 + 4294967296 * u0 := by have := HTP.out; omega
  have hb0 := HG1.out
  have hq0 := HG2.out
  rw [← htt, hG0] at hb0 hq0
  have hr0 : R0 < vt := by rw [← hR0]; exact Nat.mod_lt _ (by omega)
  have hwg : IntKind.u64.wrap ((G0 : Nat) : Int) = ((G0 : Nat) : Int) := by rw [IntKind.wrap_u64]; omega
  have HG0 := Lib.hid hg0
  clear hG0 hR0 hg0 htt
  go_wp2_with fail
  go_quiet (fail)
  go_upto_block 0 with fail
  go_cut [7, 8] (fun x _ W => ∃ G : Nat, x = .int .u64 (G : Nat) ∧ G < 4294967296 ∧ Q ≤ G ∧ G ≤ Q + 1 ∧ Row W g us ∧ w.grownBy W (some g))
  case first =>
    go_wp2_with fail
    go_loopw [7, 8] (fun x y wr => ∃ G R : Nat, x = .int .u64 (G : Nat) ∧ y = .int .u64 (R : Nat) ∧ G * vt + R = u1 + 4294967296 * u0 ∧ R < 4294967296 ∧ Q ≤ G ∧ G ≤ 4294967298 ∧ Row wr g us ∧ w.grownBy wr (some g)) (fun x _ _ => (intOf x).toNat)
    case atStart => exact ⟨G0, R0, rfl, int_eq e3, HG0.out, by omega, hq0, hb0, (hr.drewN _).drewN _, grown_drewN (grown_drewN (grown_refl _ _) _) _⟩
    case round =>
      obtain ⟨G, R, rfl, rfl, hGR, hR, hQG, hGB, hrr, hgr⟩ := hrel
      clear d1 d2 c0 c1 c2 e2 e3 hwg hq0 hb0 hr0 hv0 hv1
      have HGR := Lib.hid hGR
      clear hGR
      have HBr := HB.keep (keep_grown hgr rfl)
      obtain ⟨a1, ha1, _, _, d1⟩ := HBr.at_ (k := p + 1) (by rw [HN.out]; omega)
      obtain ⟨a2, ha2, _, _, d2⟩ := HBr.at_ (k := p) (by rw [HN.out]; omega)
      injection ha1 with ha1
      injection ha2 with ha2
      subst ha1 ha2
      rw [HVT.out] at d1
      rw [HV2.out] at d2
      have d1 : wr.cell? ⟨a.block, a.off + (p + 1), none⟩ = some (.int .u32 ((vt : Nat) : Int)) := by have h := d1; simp only [Addr.add] at h; simpa using h
      have c2 := hrr.cell (k := j + p) (by omega)
      rw [HU2.out] at c2
      by_cases hge : 4294967296 ≤ G
      · have hless := HS.out.less HGR.out (Or.inl hge)
        rw [HQ.out] at hless
        have hge' : (4294967296 : Int) ≤ (G : Int) := by omega
        clear hge
        obtain ⟨G1, hG1⟩ : ∃ G1, G = G1 + 1 := ⟨G - 1, by omega⟩
        have g1 : IntKind.u64.wrap ((G : Int) - 1) = (G1 : Int) := by rw [IntKind.wrap_u64]; omega
        have g2 : (G : Int) - 1 = (G1 : Int) := by omega
        have g3 : IntKind.u64.wrap ((R : Int) + (vt : Int)) = (R : Int) + (vt : Int) := by rw [IntKind.wrap_u64]; omega
        have hgr1 : G1 * vt + (R + vt) = u1 + 4294967296 * u0 := by have h := HGR.out; rw [hG1, Nat.add_mul, Nat.one_mul] at h; omega
        have HGR1 := Lib.hid hgr1
        have HGG := Lib.hid hG1
        clear hgr1 HGR hG1
        have c2' := c2
        by_cases hbk : 4294967296 ≤ R + vt
        · have hbk' : (4294967296 : Int) ≤ (R : Int) + (vt : Int) := by omega
          obtain ⟨hb1, hb2⟩ := HS.out.broke HGR1.out hbk
          have hnear := HS.out.near HGR1.out hb1 hb2
          rw [HQ.out] at hnear
          have HNE := Lib.hid hnear
          clear hb2 hnear hbk
          go_wp2_with fail
          go_quiet (fail)
          go_wp2_with fail
          go_meet
          exact ⟨G1, by first | rfl | go_num, hb1, by have := HGG.out; omega, HNE.out, hrr.drewN _, grown_drewN hgr _⟩
        · have hbk' : decide ((4294967296 : Int) ≤ (R : Int) + (vt : Int)) = false := by rw [decide_eq_false_iff_not]; omega
          clear hbk
          go_wp2_with fail
          go_quiet (fail)
          go_wp2_with fail
          go_roundw
          case rel => exact ⟨G1, R + vt, by first | rfl | go_num, by first | rfl | go_num, HGR1.out, by have := of_decide_eq_false hbk'; omega, by have := HGG.out; omega, by have := HGG.out; omega, hrr.drewN _, grown_drewN hgr _⟩
          case measure => have := HGG.out; simp only [intOf]; omega
      · have hge' : decide ((4294967296 : Int) ≤ (G : Int)) = false := by rw [decide_eq_false_iff_not]; omega
        obtain ⟨M, hM⟩ : ∃ M, M = G * v2 := ⟨_, rfl⟩
        have m0 : M ≤ 4294967295 * 4294967295 := by rw [hM]; exact Nat.mul_le_mul (by omega) (by omega)
        have m1 : ((G : Nat) : Int) * ((v2 : Nat) : Int) = ((M : Nat) : Int) := by rw [hM]; push_cast; rfl
        have m2 : IntKind.u64.wrap ((M : Nat) : Int) = ((M : Nat) : Int) := by rw [IntKind.wrap_u64]; omega
        have m3 : IntKind.u64.wrap ((R : Int) * 4294967296) = (R : Int) * 4294967296 := by rw [IntKind.wrap_u64]; omega
        obtain ⟨T, hT⟩ : ∃ T, T = R * 4294967296 + u2 := ⟨_, rfl⟩
        have m4 := join_u64 R u2 hR b2
        rw [← hT] at m4
        by_cases hgt : T < M
        · have hless := HS.out.less HGR.out (Or.inr (by rw [← hT, ← hM]; exact hgt))
          rw [HQ.out] at hless
          have hgt' : (T : Int) < (M : Int) := by omega
          clear hM hT hgt m0 hge
          obtain ⟨G1, hG1⟩ : ∃ G1, G = G1 + 1 := ⟨G - 1, by omega⟩
          have g1 : IntKind.u64.wrap ((G : Int) - 1) = (G1 : Int) := by rw [IntKind.wrap_u64]; omega
          have g2 : (G : Int) - 1 = (G1 : Int) := by omega
          have g3 : IntKind.u64.wrap ((R : Int) + (vt : Int)) = (R : Int) + (vt : Int) := by rw [IntKind.wrap_u64]; omega
          have hgr1 : G1 * vt + (R + vt) = u1 + 4294967296 * u0 := by have h := HGR.out; rw [hG1, Nat.add_mul, Nat.one_mul] at h; omega
          have HGR1 := Lib.hid hgr1
          have HGG := Lib.hid hG1
          clear hgr1 HGR hG1
          have c2' := c2
          by_cases hbk : 4294967296 ≤ R + vt
          · have hbk' : (4294967296 : Int) ≤ (R : Int) + (vt : Int) := by omega
            obtain ⟨hb1, hb2⟩ := HS.out.broke HGR1.out hbk
            have hnear := HS.out.near HGR1.out hb1 hb2
            rw [HQ.out] at hnear
            have HNE := Lib.hid hnear
            clear hb2 hnear hbk
            go_wp2_with fail
            go_quiet (fail)
            go_wp2_with fail
            go_meet
            exact ⟨G1, by first | rfl | go_num, hb1, by have := HGG.out; omega, HNE.out, hrr.drewN _, grown_drewN hgr _⟩
          · have hbk' : decide ((4294967296 : Int) ≤ (R : Int) + (vt : Int)) = false := by rw [decide_eq_false_iff_not]; omega
            clear hbk
            go_wp2_with fail
            go_quiet (fail)
            go_wp2_with fail
            go_roundw
            case rel => exact ⟨G1, R + vt, by first | rfl | go_num, by first | rfl | go_num, HGR1.out, by have := of_decide_eq_false hbk'; omega, by have := HGG.out; omega, by have := HGG.out; omega, hrr.drewN _, grown_drewN hgr _⟩
            case measure => have := HGG.out; simp only [intOf]; omega
        · have hnear := HS.out.near HGR.out (by omega) (by rw [← hT, ← hM]; omega)
          rw [HQ.out] at hnear
          have HNE := Lib.hid hnear
          have hgt' : ¬ (T : Int) < (M : Int) := by omega
          have hG32 : G < 4294967296 := by omega
          clear hM hT hgt m0 hnear hge
          go_wp2_with fail
          go_quiet (fail)
          go_wp2_with fail
          go_meet
          exact ⟨G, rfl, by omega, hQG, HNE.out, hrr.drewN _, grown_drewN hgr _⟩
  case rest =>
    obtain ⟨G, rfl, hG32, hQG, hGQ, hrc, hgc⟩ := hcut
    clear d1 d2 c0 c1 c2 e2 e3 hwg hq0 hb0 hr0 hv0 hv1 hjoin e1
    go_wp2_with fail
    have HGQ := Lib.hid hGQ
    clear hGQ
    go_loopw [9, 10, 83] (fun x b i wr => ∃ (k cy bo : Nat) (vs : List Nat), k ≤ p + 2 ∧ i = .int .i64 (k : Nat) ∧ x = .int .u64 (cy : Nat) ∧ b = .int .u32 (bo : Nat) ∧ cy < 4294967296 ∧ bo ≤ 1 ∧ vs.length = us.length ∧ Ws vs ∧ Row wr g vs ∧ w.grownBy wr (some g) ∧
      (∀ i, i < j ∨ j + k ≤ i → vs[i]? = us[i]?) ∧ seg vs j k + G * val (ys.take k) = seg us j k + 4294967296 ^ k * (cy + bo)) (fun _ _ i _ => p + 2 - (intOf i).toNat)
    case atStart => exact ⟨0, 0, 0, us, by omega, rfl, rfl, rfl, by omega, by omega, rfl, hu, hrc, hgc, fun _ _ => rfl, by simp [seg_zero, val]⟩
    case round =>
      obtain ⟨k, cy, bo, vs, hk, rfl, rfl, rfl, hcy, hbo, hvl, hvs, hrr, hgr, hsame, hinv⟩ := hrel
      have HSAME := Lib.hid hsame
      have HINV := Lib.hid hinv
      have HVL := Lib.hid hvl
      clear hsame hinv hrc
      have HBr := HB.keep (keep_grown hgr rfl)
      by_cases hlt : k < p + 2
      · have hjk : j + k < vs.length := by omega
        have hju : j + k < us.length := by omega
        have hev : vs[j + k] = us[j + k] := by
          have h := HSAME.out (j + k) (Or.inr (Nat.le_refl _))
          rw [List.getElem?_eq_getElem hjk, List.getElem?_eq_getElem hju] at h
          injection h
        obtain ⟨a', ha', _, _, d1⟩ := HBr.at_ (k := k) (by omega)
        injection ha' with ha'
        subst ha'
        have hy32 := HBr.lt (i := k) (by omega)
        have cu := hrr.cell hjk
        have fu := hrr.frz (j + k)
        have hu32 := hvs.get hjk
        obtain ⟨y, hy⟩ : ∃ y, ys[k] = y := ⟨_, rfl⟩
        obtain ⟨u, hu'⟩ : ∃ u, vs[j + k] = u := ⟨_, rfl⟩
        rw [hy] at d1 hy32
        rw [hu'] at cu hu32 hev
        obtain ⟨m, hm⟩ : ∃ m, m = G * y := ⟨_, rfl⟩
        have m0 : m ≤ 4294967295 * 4294967295 := by rw [hm]; exact Nat.mul_le_mul (by omega) (by omega)
        have m1 : ((G : Nat) : Int) * ((y : Nat) : Int) = ((m : Nat) : Int) := by rw [hm]; push_cast; rfl
        have m2 : IntKind.u64.wrap ((m : Nat) : Int) = ((m : Nat) : Int) := by rw [IntKind.wrap_u64]; omega
        obtain ⟨P, hP⟩ : ∃ P, P = cy + m := ⟨_, rfl⟩
        have m3 : ((cy : Nat) : Int) + ((m : Nat) : Int) = ((P : Nat) : Int) := by omega
        have m4 : IntKind.u64.wrap ((P : Nat) : Int) = ((P : Nat) : Int) := by rw [IntKind.wrap_u64]; omega
        obtain ⟨lo, hlo⟩ : ∃ lo, lo = P % 4294967296 := ⟨_, rfl⟩
        obtain ⟨hi, hhi⟩ : ∃ hi, hi = P / 4294967296 := ⟨_, rfl⟩
        have m5 : ((P : Nat) : Int) % 4294967296 = ((lo : Nat) : Int) := by omega
        have m6 : ((P : Nat) : Int) / 4294967296 = ((hi : Nat) : Int) := by omega
        have hlo32 : lo < 4294967296 := by omega
        have hhi32 : hi < 4294967296 := by omega
        have hdb := dif_bor u lo bo hu32 hlo32 hbo
        rw [hlo] at hdb
        have hst := msub_step (seg vs j k) (seg us j k) (val (ys.take k)) (4294967296 ^ k) G cy bo u y (dif u lo bo) P hi (bor u lo bo) HINV.out (by rw [hP, hm]) hhi (by rw [hlo]; exact hdb)
        have hsub := sub32_any wr u lo bo hu32 hlo32 hbo
        have hset := hrr.set (j + k) (dif u lo bo)
        have hwset := hvs.set (j + k) _ (dif_lt u lo bo)
        have hbo2 := bor_le u lo bo
        have HST := Lib.hid hst
        have HEV := Lib.hid hev
        have HY := Lib.hid hy
        clear hdb hst hm hP hlo hhi hev hu' hy m0 hrr hvs
        go_wp2_with fail
        refine hsub.mono ?_
        rintro e w5 ⟨rfl, rfl⟩
        go_wp2_with fail
        go_roundw
        case rel =>
          refine ⟨k + 1, hi, bor u lo bo, vs.set (j + k) (dif u lo bo), by omega, by go_num, rfl, rfl, hhi32, hbo2, by simpa using HVL.out, hwset, hset, grown_set hgr _ _, fun i hi => ?_, ?_⟩
          · rw [List.getElem?_set_ne (by omega)]
            exact HSAME.out i (by omega)
          · rw [seg_set vs j k _ hjk, val_take_succ ys k (by omega), seg_succ us j k hju, HY.out, ← HEV.out, Nat.pow_succ]
            exact HST.out
        case measure => simp only [intOf]; omega
      · obtain rfl : k = p + 2 := by omega
        have hjk : j + (p + 2) < vs.length := by omega
        have hev : vs[j + (p + 2)] = u0 := by
          have h := HSAME.out (j + (p + 2)) (Or.inr (Nat.le_refl _))
          rw [List.getElem?_eq_getElem hjk, List.getElem?_eq_getElem hj] at h
          injection h with h
          rw [h, HU0.out]
        have cu := hrr.cell hjk
        have fu := hrr.frz (j + (p + 2))
        rw [hev] at cu
        have hsub := sub32_any wr u0 cy bo b1 hcy hbo
        have hdb := dif_bor u0 cy bo b1 hcy hbo
        have hset := hrr.set (j + (p + 2)) (dif u0 cy bo)
        have hwset := hvs.set (j + (p + 2)) _ (dif_lt u0 cy bo)
        have hseg := seg_set vs j (p + 2) (dif u0 cy bo) hjk
        have hbq := bor_le u0 cy bo
        have n1 : ((cy : Nat) : Int) % 4294967296 = ((cy : Nat) : Int) := by omega
        have hinv := HINV.out
        rw [List.take_of_length_le (by omega)] at hinv
        have hnw : seg (vs.set (j + (p + 2)) (dif u0 cy bo)) j (p + 2 + 1) + G * val ys = seg us j (p + 2 + 1) + 4294967296 ^ (p + 2 + 1) * bor u0 cy bo := by
          rw [hseg, seg_succ us j (p + 2) hj, HU0.out, Nat.pow_succ 4294967296 (p + 2), Nat.mul_assoc]
          have e : 4294967296 ^ (p + 2) * (dif u0 cy bo + cy + bo) = 4294967296 ^ (p + 2) * (u0 + 4294967296 * bor u0 cy bo) := by rw [hdb]
          simp only [Nat.mul_add] at e hinv ⊢
          omega
        have hUV : seg us j (p + 2 + 1) % val ys < 4294967296 ^ (p + 2 + 1) := Nat.lt_of_le_of_lt (Nat.mod_le _ _) (seg_lt hu _ _)
        obtain ⟨hend0, hend1⟩ := msub_end hnw (seg_lt hwset _ _) hbq HS.out.posV (by rw [HQ.out]; exact hQG) (by rw [HQ.out]; exact HGQ.out) hUV
        rw [HQ.out] at hend0 hend1
        have hlen2 : (vs.set (j + (p + 2)) (dif u0 cy bo)).length = us.length := by simpa using HVL.out
        have hsame2 : ∀ i, i < j ∨ j + (p + 2) < i → (vs.set (j + (p + 2)) (dif u0 cy bo))[i]? = us[i]? := fun i hi => by
          rw [List.getElem?_set_ne (by omega)]
          exact HSAME.out i (by omega)
        have HE0 := Lib.hid hend0
        have HE1 := Lib.hid hend1
        have HSA2 := Lib.hid hsame2
        have HL2 := Lib.hid hlen2
        have hgr2 := grown_set hgr (j + (p + 2)) (.int .u32 ((dif u0 cy bo : Nat) : Int))
        clear hend0 hend1 hsame2 hlen2 hdb hnw hinv hseg hev hrr hvs hUV
        generalize hvs2 : vs.set (j + (p + 2)) (dif u0 cy bo) = vs2 at *
        clear hvs2
        generalize hdd : dif u0 cy bo = dd at *
        generalize hbb : bor u0 cy bo = bq at *
        clear hdd hbb
        go_wp2_with fail
        refine hsub.mono ?_
        rintro e w5 ⟨rfl, rfl⟩
        rcases (by omega : bq = 0 ∨ bq = 1) with rfl | rfl
        · obtain ⟨hgq, hsg⟩ := HE0.out rfl
          have n2 : ((G : Nat) : Int) % 4294967296 = ((G : Nat) : Int) := by omega
          have HGQ2 := Lib.hid hgq
          have HSG := Lib.hid hsg
          clear hgq hsg
          go_wp2_with fail
          go_ret
          exact ⟨vs2, by rw [HGQ2.out]; rfl, hset, hwset, HL2.out, HSA2.out, HSG.out, hgr2⟩
        · obtain ⟨hgq, hsg⟩ := HE1.out rfl
          have n2 : IntKind.u64.wrap ((G : Int) - 1) = ((Q : Nat) : Int) := by rw [IntKind.wrap_u64]; omega
          have n3 : (G : Int) - 1 = ((Q : Nat) : Int) := by omega
          have n4 : ((Q : Nat) : Int) % 4294967296 = ((Q : Nat) : Int) := by omega
          have HSG := Lib.hid hsg
          clear hgq hsg hsub
          go_wp2_with fail
          go_loopw [13, 131] (fun x i wr => ∃ (k c : Nat) (vs : List Nat), k ≤ p + 2 ∧ i = .int .i64 (k : Nat) ∧ x = .int .u32 (c : Nat) ∧ c ≤ 1 ∧ vs.length = us.length ∧ Ws vs ∧ Row wr g vs ∧ w.grownBy wr (some g) ∧
            (∀ i, i < j ∨ j + k ≤ i → vs[i]? = vs2[i]?) ∧ seg vs j k + 4294967296 ^ k * c = seg vs2 j k + val (ys.take k)) (fun _ i _ => p + 2 - (intOf i).toNat)
          case atStart => exact ⟨0, 0, vs2, by omega, rfl, rfl, by omega, HL2.out, hwset, hset, hgr2, fun _ _ => rfl, by simp [seg_zero, val]⟩
          case round =>
            obtain ⟨k, cc, vs3, hk3, rfl, rfl, hc3, hvl3, hws3, hr3, hg3, hsame3, hinv3⟩ := hrel
            have HSAME3 := Lib.hid hsame3
            have HINV3 := Lib.hid hinv3
            have HVL3 := Lib.hid hvl3
            have hl2 := HL2.out
            have HB3 := HB.keep (keep_grown hg3 rfl)
            clear hsame3 hinv3 hset fu cu d1
            by_cases hlt : k < p + 2
            · have hjk3 : j + k < vs3.length := by omega
              have hju3 : j + k < vs2.length := by omega
              have hev : vs3[j + k] = vs2[j + k] := by
                have h := HSAME3.out (j + k) (Or.inr (Nat.le_refl _))
                rw [List.getElem?_eq_getElem hjk3, List.getElem?_eq_getElem hju3] at h
                injection h
              obtain ⟨a', ha', _, _, d1⟩ := HB3.at_ (k := k) (by omega)
              injection ha' with ha'
              subst ha'
              have hy32 := HB3.lt (i := k) (by omega)
              have cu := hr3.cell hjk3
              have fu := hr3.frz (j + k)
              have hu32 := hws3.get hjk3
              obtain ⟨y, hy⟩ : ∃ y, ys[k] = y := ⟨_, rfl⟩
              obtain ⟨u, hu'⟩ : ∃ u, vs3[j + k] = u := ⟨_, rfl⟩
              rw [hy] at d1 hy32
              rw [hu'] at cu hu32 hev
              have hst := addb_step (seg vs3 j k) (seg vs2 j k) (val (ys.take k)) (4294967296 ^ k) cc u y HINV3.out
              have hadd := add32_any wr u y cc hu32 hy32 hc3
              have hset := hr3.set (j + k) ((u + y + cc) % 4294967296)
              have hwset := hws3.set (j + k) ((u + y + cc) % 4294967296) (Nat.mod_lt _ (by omega))
              have hc4 : (u + y + cc) / 4294967296 ≤ 1 := by omega
              have HST := Lib.hid hst
              have HEV := Lib.hid hev
              have HY := Lib.hid hy
              clear hst hev hu' hy hr3 hws3
              generalize hr : (u + y + cc) % 4294967296 = r at *
              generalize hc' : (u + y + cc) / 4294967296 = c' at *
              clear hr hc'
              go_wp2_with fail
              refine hadd.mono ?_
              rintro e w5 ⟨rfl, rfl⟩
              go_wp2_with fail
              go_roundw
              case rel =>
                refine ⟨k + 1, c', vs3.set (j + k) r, by omega, by go_num, rfl, hc4, by simpa using HVL3.out, hwset, hset, grown_set hg3 _ _, fun i hi => ?_, ?_⟩
                · rw [List.getElem?_set_ne (by omega)]
                  exact HSAME3.out i (by omega)
                · rw [seg_set vs3 j k _ hjk3, val_take_succ ys k (by omega), seg_succ vs2 j k hju3, HY.out, ← HEV.out, Nat.pow_succ]
                  exact HST.out
              case measure => simp only [intOf]; omega
            · obtain rfl : k = p + 2 := by omega
              have hjk3 : j + (p + 2) < vs3.length := by omega
              have hju3 : j + (p + 2) < vs2.length := by omega
              have hev : vs3[j + (p + 2)] = vs2[j + (p + 2)] := by
                have h := HSAME3.out (j + (p + 2)) (Or.inr (Nat.le_refl _))
                rw [List.getElem?_eq_getElem hjk3, List.getElem?_eq_getElem hju3] at h
                injection h
              have cu := hr3.cell hjk3
              have fu := hr3.frz (j + (p + 2))
              have hu32 := hws3.get hjk3
              obtain ⟨u, hu'⟩ : ∃ u, vs3[j + (p + 2)] = u := ⟨_, rfl⟩
              rw [hu'] at cu hu32 hev
              have hinv := HINV3.out
              rw [List.take_of_length_le (by omega)] at hinv
              have hset := hr3.set (j + (p + 2)) ((u + cc) % 4294967296)
              have hwset2 := hws3.set (j + (p + 2)) ((u + cc) % 4294967296) (Nat.mod_lt _ (by omega))
              have hseg := seg_set vs3 j (p + 2) ((u + cc) % 4294967296) hjk3
              have hfin : seg (vs3.set (j + (p + 2)) ((u + cc) % 4294967296)) j (p + 2 + 1) = seg us j (p + 2 + 1) % val ys := by
                refine addb_end (e := (u + cc) / 4294967296) ?_ HSG.out (seg_lt hwset2 _ _) (Nat.lt_of_le_of_lt (Nat.mod_le _ _) (seg_lt hu _ _))
                rw [hseg, seg_succ vs2 j (p + 2) hju3, ← hev, Nat.pow_succ 4294967296 (p + 2), Nat.mul_assoc]
                have e : 4294967296 ^ (p + 2) * (4294967296 * ((u + cc) / 4294967296) + (u + cc) % 4294967296) = 4294967296 ^ (p + 2) * (u + cc) := by rw [Nat.div_add_mod]
                simp only [Nat.mul_add] at e hinv ⊢
                omega
              have HFIN := Lib.hid hfin
              have hlen4 : (vs3.set (j + (p + 2)) ((u + cc) % 4294967296)).length = us.length := by simpa using HVL3.out
              have HL4 := Lib.hid hlen4
              have n5 : (((u : Nat) : Int) + ((cc : Nat) : Int)) % 4294967296 = (((u + cc) % 4294967296 : Nat) : Int) := by omega
              have n6 : IntKind.u32.wrap (((u : Nat) : Int) + ((cc : Nat) : Int)) = (((u + cc) % 4294967296 : Nat) : Int) := by rw [IntKind.wrap_u32]; omega
              clear hev hinv hseg hfin hlen4 hu' hr3 hws3
              generalize hr : (u + cc) % 4294967296 = r at *
              clear hr
              go_wp2_with fail
              go_ret
              refine ⟨_, rfl, hset, hwset2, HL4.out, fun i hi => ?_, HFIN.out, grown_set hg3 _ _⟩
              rw [List.getElem?_set_ne (by omega), HSAME3.out i (by omega)]
              exact HSA2.out i hi
end Go.Proofs.Ytooheapikhdllaa

/- math/bits: Len32 and LeadingZeros32. -/
namespace Go.Proofs.Ytooheapikhdllaa
open Go.RowKit

theorem tab_size : Lib.len8tab.size = 256 := by decide +kernel
theorem tab_fin : ∀ i : Fin 256, (Lib.len8tab[i.val]'(by rw [tab_size]; exact i.isLt)).toNat = Lib.bitLen i.val := by decide +kernel
theorem tab_len (b : Int) (h0 : 0 ≤ b) (h1 : b < 256) (h : b.toNat < Lib.len8tab.size) : wrap64 ((Lib.len8tab[b.toNat]'h).toNat : Int) = (Lib.bitLen b.toNat : Int) ∧ Lib.bitLen b.toNat ≤ 8 := by
  have e := tab_fin ⟨b.toNat, by omega⟩
  have l := Lib.bitLen_le8' b h0 (by omega)
  simp only at e
  rw [e]
  exact ⟨IntWalk.wrap64_in _ (by omega), l⟩

set_option maxRecDepth 100000 in
set_option maxHeartbeats 1000000 in
theorem len32_any (w : World) (x : Int) (h0 : 0 ≤ x) (h1 : x ≤ 4294967295) :
    Calls Try.prog 103 #[.int .u32 x] w fun e w' => e = .returned (.int .i64 (Lib.bitLen x.toNat)) ∧ w = w' := by
  have hs := tab_size
  have s24 := fun h => Lib.bitLen_shift24 x.toNat h (by omega)
  have s16 := fun h => Lib.bitLen_shift16 x.toNat h (by omega)
  have s8 := fun h => Lib.bitLen_shift8 x.toNat h (by omega)
  have S24 := Lib.hid s24
  have S16 := Lib.hid s16
  have S8 := Lib.hid s8
  clear s24 s16 s8
  go_enter Try.func103, Try.ntmps103
  go_wp2
  all_goals (go_ret; refine ⟨congrArg Ending.returned (congrArg (Value.int IntKind.i64) ?_), rfl⟩)
  · have e : (x / 65536 / 256).toNat = x.toNat / 16777216 := by omega
    have l := tab_len (x / 65536 / 256) (by omega) (by omega) (by rw [tab_size]; omega)
    rw [l.1, IntWalk.wrap64_in _ (by omega), S24.out (by omega), e]
    omega
  · have e : (x / 65536).toNat = x.toNat / 65536 := by omega
    have l := tab_len (x / 65536) (by omega) (by omega) (by rw [tab_size]; omega)
    rw [l.1, IntWalk.wrap64_in _ (by omega), S16.out (by omega), e]
    omega
  · have e : (x / 256).toNat = x.toNat / 256 := by omega
    have l := tab_len (x / 256) (by omega) (by omega) (by rw [tab_size]; omega)
    rw [l.1, IntWalk.wrap64_in _ (by omega), S8.out (by omega), e]
    omega
  · have l := tab_len x (by omega) (by omega) (by rw [tab_size]; omega)
    rw [l.1, IntWalk.wrap64_in _ (by omega)]

set_option maxHeartbeats 1000000 in
theorem lead32_any (w : World) (x : Int) (h0 : 0 ≤ x) (h1 : x ≤ 4294967295) :
    Calls Try.prog 114 #[.int .u32 x] w fun e w' => e = .returned (.int .i64 ((32 - Lib.bitLen x.toNat : Nat) : Int)) ∧ w = w' := by
  have hb := Lib.bitLen_le x.toNat 32 (by omega) (by omega)
  go_enter Try.func114, Try.ntmps114
  go_wp2_with (go_at_call 103; refine (len32_any _ x h0 h1).mono ?_; rintro e w' ⟨rfl, rfl⟩)
  go_ret
  exact ⟨ret_eq (int_eq (by omega)), rfl⟩
end Go.Proofs.Ytooheapikhdllaa

/- Long division: the plain law. -/
namespace Go.Proofs.Ytooheapikhdllaa
open Go.RowKit

theorem bitLen_bounds (x : Nat) (h0 : 0 < x) (h : x < 2 ^ 64) : 1 ≤ Lib.bitLen x ∧ 2 ^ (Lib.bitLen x - 1) ≤ x ∧ x < 2 ^ Lib.bitLen x := by
  induction x using Nat.strongRecOn with
  | _ x ih =>
    have e := Lib.bitLen_half x (by omega) h
    by_cases h2 : x / 2 = 0
    · obtain rfl : x = 1 := by omega
      have : Lib.bitLen 1 = 1 := by decide +kernel
      rw [this]; decide
    · obtain ⟨i1, i2, i3⟩ := ih (x / 2) (by omega) (by omega) (by omega)
      rw [e]
      generalize Lib.bitLen (x / 2) = L at *
      obtain ⟨l, rfl⟩ : ∃ l, L = l + 1 := ⟨L - 1, by omega⟩
      rw [(by omega : 1 + (l + 1) = l + 1 + 1), Nat.add_sub_cancel]
      rw [Nat.add_sub_cancel] at i2
      rw [Nat.pow_succ] at i3 ⊢
      rw [Nat.pow_succ]
      omega
theorem norm_word (x : Nat) (h0 : 0 < x) (h : x < 4294967296) : 32 - Lib.bitLen x < 32 ∧ 2147483648 ≤ x * 2 ^ (32 - Lib.bitLen x) ∧ (x + 1) * 2 ^ (32 - Lib.bitLen x) ≤ 4294967296 := by
  obtain ⟨h1, h2, h3⟩ := bitLen_bounds x h0 (by omega)
  have h4 := Lib.bitLen_le x 32 (by omega) (by omega)
  generalize Lib.bitLen x = L at *
  refine ⟨by omega, ?_, ?_⟩
  · have e : 2 ^ (L - 1) * 2 ^ (32 - L) = 2147483648 := by rw [← Nat.pow_add, (by omega : L - 1 + (32 - L) = 31)]
    rw [← e]
    exact Nat.mul_le_mul_right _ h2
  · have e : 2 ^ L * 2 ^ (32 - L) = 4294967296 := by rw [← Nat.pow_add, (by omega : L + (32 - L) = 32)]
    rw [← e]
    exact Nat.mul_le_mul_right _ h3
theorem val_cut (zs : List Nat) (n : Nat) (h : val zs < 4294967296 ^ n) : val (zs.take n) = val zs ∧ val (zs.drop n) = 0 := by
  have e := val_take_drop zs n
  by_cases hl : zs.length ≤ n
  · rw [List.take_of_length_le hl, List.drop_of_length_le hl]; exact ⟨rfl, rfl⟩
  · rw [List.length_take, Nat.min_eq_left (by omega)] at e
    rcases Nat.eq_zero_or_pos (val (zs.drop n)) with h0 | h0
    · rw [h0, Nat.mul_zero] at e
      exact ⟨by omega, h0⟩
    · have : 4294967296 ^ n * 1 ≤ 4294967296 ^ n * val (zs.drop n) := Nat.mul_le_mul_left _ h0
      omega
/-- The divisor, shifted. -/
theorem norm_div (ys vs : List Nat) (p s : Nat) (hy : Ws ys) (hv : Ws vs) (hl : ys.length = p + 2) (hvl : vs.length = p + 2 + 1) (h0 : 0 < ys[p + 1]) (hs : s = 32 - Lib.bitLen ys[p + 1]) (hval : val vs = val ys * 2 ^ s) :
    val (vs.take (p + 2)) = val ys * 2 ^ s ∧ val ys * 2 ^ s < 4294967296 ^ (p + 2) ∧ 4294967296 ^ (p + 1) * 2147483648 ≤ val ys * 2 ^ s ∧ (vs.take (p + 2)).length = p + 2 ∧ ∀ h : p + 1 < (vs.take (p + 2)).length, 2147483648 ≤ (vs.take (p + 2))[p + 1] := by
  obtain ⟨n1, n2, n3⟩ := norm_word ys[p + 1] h0 (hy.get _)
  rw [← hs] at n2 n3
  have e : val ys = val (ys.take (p + 1)) + 4294967296 ^ (p + 1) * ys[p + 1] := by
    rw [← val_take_succ ys (p + 1) (by omega), List.take_of_length_le (by omega)]
  have hlo := val_lt (hy.take (p + 1))
  rw [List.length_take, Nat.min_eq_left (by omega)] at hlo
  have hV1 : val ys * 2 ^ s < 4294967296 ^ (p + 2) := by
    have h1 : val ys < 4294967296 ^ (p + 1) * (ys[p + 1] + 1) := by rw [Nat.mul_add]; omega
    have h2 : val ys * 2 ^ s < 4294967296 ^ (p + 1) * (ys[p + 1] + 1) * 2 ^ s := Nat.mul_lt_mul_of_pos_right h1 (Nat.pow_pos (by omega))
    have h3 : 4294967296 ^ (p + 1) * ((ys[p + 1] + 1) * 2 ^ s) ≤ 4294967296 ^ (p + 1) * 4294967296 := Nat.mul_le_mul_left _ n3
    rw [Nat.mul_assoc] at h2
    rw [Nat.pow_succ 4294967296 (p + 1)]
    omega
  have hV2 : 4294967296 ^ (p + 1) * 2147483648 ≤ val ys * 2 ^ s := by
    have h1 : 4294967296 ^ (p + 1) * ys[p + 1] ≤ val ys := by omega
    have h2 := Nat.mul_le_mul_right (2 ^ s) h1
    have h3 : 4294967296 ^ (p + 1) * 2147483648 ≤ 4294967296 ^ (p + 1) * (ys[p + 1] * 2 ^ s) := Nat.mul_le_mul_left _ n2
    rw [Nat.mul_assoc] at h2
    omega
  obtain ⟨c1, _⟩ := val_cut vs (p + 2) (by rw [hval]; exact hV1)
  have hl2 : (vs.take (p + 2)).length = p + 2 := by rw [List.length_take]; omega
  refine ⟨by rw [c1, hval], hV1, hV2, hl2, fun h => ?_⟩
  have e2 : val (vs.take (p + 2)) = val ((vs.take (p + 2)).take (p + 1)) + 4294967296 ^ (p + 1) * (vs.take (p + 2))[p + 1] := by
    have h5 := List.take_of_length_le (show (vs.take (p + 2)).length ≤ p + 1 + 1 by omega)
    rw [← val_take_succ (vs.take (p + 2)) (p + 1) h, h5]
  have h3 := val_lt ((hv.take (p + 2)).take (p + 1))
  rw [List.length_take, hl2, Nat.min_eq_left (by omega)] at h3
  rw [c1, hval] at e2
  have h4 : 4294967296 ^ (p + 1) * 2147483648 < 4294967296 ^ (p + 1) * ((vs.take (p + 2))[p + 1] + 1) := by rw [Nat.mul_add]; omega
  have := Nat.lt_of_mul_lt_mul_left h4
  omega
/-- One step: the window's value. -/
theorem over_window {us : List Nat} {j n V : Nat} (hu : Ws us) (hj : j + n < us.length) (hV : V ≤ 4294967296 ^ n) (hd : val (us.drop (j + 1)) < V) :
    seg us j (n + 1) = val (us.drop j) ∧ val (us.drop j) < 4294967296 * V ∧ val (us.drop (j + n + 1)) = 0 ∧ val (us.drop j) = us[j] + 4294967296 * val (us.drop (j + 1)) := by
  have e := val_drop_succ us j (by omega)
  have hx := hu.get (i := j) (by omega)
  have h1 : val (us.drop j) < 4294967296 * V := by
    have : 4294967296 * (val (us.drop (j + 1)) + 1) ≤ 4294967296 * V := Nat.mul_le_mul_left _ hd
    rw [e]; omega
  have h2 : val (us.drop j) < 4294967296 ^ (n + 1) := by
    have : 4294967296 * V ≤ 4294967296 * 4294967296 ^ n := Nat.mul_le_mul_left _ hV
    rw [Nat.pow_succ, Nat.mul_comm]; omega
  obtain ⟨c1, c2⟩ := val_cut (us.drop j) (n + 1) h2
  rw [List.drop_drop] at c2
  exact ⟨c1, h1, by rw [Nat.add_assoc]; exact c2, e⟩
theorem over_step {us vs qs : List Nat} {j n V U0 : Nat} (hu : Ws us) (hj : j + n < us.length) (hV : V ≤ 4294967296 ^ n) (hpos : 0 < V) (hd : val (us.drop (j + 1)) < V) (hl : vs.length = us.length)
    (hs : ∀ i, i < j ∨ j + n < i → vs[i]? = us[i]?) (hseg : seg vs j (n + 1) = seg us j (n + 1) % V) (hq : j < qs.length)
    (hinv : U0 = val (us.take (j + 1)) + 4294967296 ^ (j + 1) * (val (us.drop (j + 1)) + V * val (qs.drop (j + 1)))) :
    val (vs.drop j) < V ∧ U0 = val (vs.take j) + 4294967296 ^ j * (val (vs.drop j) + V * val ((qs.set j (seg us j (n + 1) / V)).drop j)) := by
  obtain ⟨w1, w2, w3, w4⟩ := over_window hu hj hV hd
  have hup : vs.drop (j + n + 1) = us.drop (j + n + 1) := by
    apply List.ext_getElem?
    intro i
    rw [List.getElem?_drop, List.getElem?_drop]
    exact hs _ (Or.inr (by omega))
  have hlow : vs.take j = us.take j := by
    apply List.ext_getElem?
    intro i
    rw [List.getElem?_take, List.getElem?_take]
    split
    · exact hs _ (Or.inl (by omega))
    · rfl
  have e1 := val_take_drop (vs.drop j) (n + 1)
  rw [List.drop_drop, ← Nat.add_assoc, hup, w3, Nat.mul_zero, Nat.add_zero] at e1
  have e2 : val (vs.drop j) = seg us j (n + 1) % V := by rw [e1]; exact hseg
  refine ⟨by rw [e2]; exact Nat.mod_lt _ hpos, ?_⟩
  have e3 : val ((qs.set j (seg us j (n + 1) / V)).drop j) = seg us j (n + 1) / V + 4294967296 * val (qs.drop (j + 1)) := by
    rw [val_drop_succ _ j (by simpa using hq), List.getElem_set_self, List.drop_set, if_pos (by omega)]
  rw [e2, e3, hlow, hinv, val_take_succ us j (by omega), Nat.pow_succ]
  have e4 := Nat.div_add_mod (seg us j (n + 1)) V
  rw [w1] at e4 ⊢
  generalize val (us.drop j) / V = q at *
  generalize val (us.drop j) % V = r at *
  generalize val (qs.drop (j + 1)) = Y at *
  have e5 : us[j] + 4294967296 * val (us.drop (j + 1)) + V * (4294967296 * Y) = r + V * (q + 4294967296 * Y) := by rw [Nat.mul_add, ← w4, ← e4]; omega
  rw [← e5]
  simp only [Nat.mul_add]
  rw [Nat.mul_assoc, Nat.mul_assoc (4294967296 ^ j), Nat.mul_left_comm V 4294967296 Y]
  omega
theorem over_end {us qs xs ys : List Nat} {n s : Nat} (hV : val ys * 2 ^ s ≤ 4294967296 ^ n) (hpos : 0 < val ys) (hlt : val us < val ys * 2 ^ s) (hinv : val xs * 2 ^ s = val us + val ys * 2 ^ s * val qs) :
    val qs = val xs / val ys ∧ val (us.take n) / 2 ^ s = val xs % val ys := by
  have hP : 0 < 2 ^ s := Nat.pow_pos (by omega)
  have hq : val xs * 2 ^ s / (val ys * 2 ^ s) = val qs := by
    rw [hinv, Nat.add_comm, Nat.mul_add_div (Nat.mul_pos hpos hP), Nat.div_eq_of_lt hlt, Nat.add_zero]
  have hr : val xs * 2 ^ s % (val ys * 2 ^ s) = val us := by
    rw [hinv, Nat.add_mul_mod_self_left, Nat.mod_eq_of_lt hlt]
  rw [Nat.mul_div_mul_right _ _ hP] at hq
  rw [Nat.mul_mod_mul_right] at hr
  refine ⟨hq.symm, ?_⟩
  rw [(val_cut us n (by omega)).1, ← hr, Nat.mul_div_cancel _ hP]
/-- At the loop's start the upper words are less than the divisor. -/
theorem over_start {us xs : List Nat} {s n V : Nat} (hx : Ws xs) (hn : 0 < n) (hs : s < 32) (hl : us.length = xs.length + 1) (hnx : n ≤ xs.length) (hu : Ws us) (hval : val us = val xs * 2 ^ s) (hV : 4294967296 ^ (n - 1) * 2147483648 ≤ V) :
    val (us.drop (xs.length - n + 1)) < V := by
  have e := val_take_drop us (xs.length - n + 1)
  rw [List.length_take, Nat.min_eq_left (by omega)] at e
  have h1 : val us < 4294967296 ^ xs.length * 2147483648 := by
    have h2 : (2 : Nat) ^ s ≤ 2 ^ 31 := Nat.pow_le_pow_right (by omega) (by omega)
    have h3 : val xs * 2 ^ s ≤ val xs * 2147483648 := Nat.mul_le_mul_left _ h2
    have h4 := val_lt hx
    have h5 : val xs * 2147483648 < 4294967296 ^ xs.length * 2147483648 := Nat.mul_lt_mul_of_pos_right h4 (by omega)
    omega
  have h6 : 4294967296 ^ xs.length = 4294967296 ^ (xs.length - n + 1) * 4294967296 ^ (n - 1) := by rw [← Nat.pow_add]; congr 1; omega
  rw [h6, Nat.mul_assoc] at h1
  have h7 : 4294967296 ^ (xs.length - n + 1) * val (us.drop (xs.length - n + 1)) < 4294967296 ^ (xs.length - n + 1) * (4294967296 ^ (n - 1) * 2147483648) := by omega
  have := Nat.lt_of_mul_lt_mul_left h7
  omega
end Go.Proofs.Ytooheapikhdllaa

/- left and right: a magnitude shifted by fewer than 32 bits, and back. -/
namespace Go.Proofs.Ytooheapikhdllaa
open Go.RowKit

theorem shl_parts (x P m h : Nat) (hx : x < 4294967296) (hm : 4294967296 = P * m) (hP : 0 < P) (hh : h < P) :
    (x * P) / 4294967296 < P ∧ (x * P) % 4294967296 % P = 0 ∧ h + (x * P) % 4294967296 < 4294967296 := by
  have h0 : (x * P) % 4294967296 % P = 0 := by rw [Nat.mod_mod_of_dvd _ ⟨m, hm⟩, Nat.mul_mod_left]
  refine ⟨?_, h0, ?_⟩
  · rw [Nat.div_lt_iff_lt_mul (by omega), Nat.mul_comm]
    exact Nat.mul_lt_mul_of_pos_left hx hP
  · have hlt := Nat.mod_lt (x * P) (show 4294967296 > 0 by omega)
    generalize (x * P) % 4294967296 = lo at *
    obtain ⟨q, rfl⟩ : ∃ q, lo = P * q := ⟨lo / P, by have := Nat.div_add_mod lo P; omega⟩
    rw [hm] at hlt
    have hq : q < m := Nat.lt_of_mul_lt_mul_left hlt
    have : P * (q + 1) ≤ P * m := Nat.mul_le_mul_left _ hq
    rw [Nat.mul_add, Nat.mul_one] at this
    omega
theorem or_low (h lo P s : Nat) (hP : P = 2 ^ s) (hh : h < P) (hl : lo % P = 0) (hb : h + lo < 4294967296) : bits BinOp.or IntKind.u32 (h : Int) (lo : Int) = ((h + lo : Nat) : Int) := by
  have e : (2 : Int) ^ s = ((P : Nat) : Int) := by rw [hP]; push_cast; rfl
  have := Go.bits_join_low .u32 32 (by decide) (fun n h0 h1 => by rw [IntKind.wrap_u32]; omega) s (h : Int) (lo : Int) (by omega) (by rw [e]; omega) (by omega) (by omega) (by rw [e]; omega) (by omega)
  rw [this]; push_cast; rfl
theorem left_step (zs xs : List Nat) (k P : Nat) (hk : k < xs.length) (hz : k + 1 < zs.length) (hv : val (zs.take (k + 1)) = val (xs.take k) * P) :
    val (((zs.set k (zs[k]'(by omega) + xs[k] * P % 4294967296)).set (k + 1) (xs[k] * P / 4294967296)).take (k + 2)) = val (xs.take (k + 1)) * P := by
  rw [val_take_set _ (k + 1) _ (by simpa using hz), val_take_set zs k _ (by omega), val_take_succ xs k hk]
  rw [val_take_succ zs k (by omega)] at hv
  rw [Nat.add_mul, ← hv, Nat.mul_add, Nat.pow_succ, Nat.mul_assoc (4294967296 ^ k) xs[k] P]
  have := Nat.div_add_mod (xs[k] * P) 4294967296
  generalize xs[k] * P / 4294967296 = q at *
  generalize xs[k] * P % 4294967296 = r at *
  rw [← this, Nat.mul_add, Nat.mul_assoc]
  omega

set_option maxHeartbeats 1000000 in
theorem left_any (w : World) (X : Nat → Prop) (va : Value) (xs : List Nat) (s : Nat) (ha : Words w X va xs) (hs : xs.length ≤ 1099511627776) (h32 : s < 32) :
    Calls Try.prog 115 #[va, .int .i64 s] w fun e w' => ∃ g zs, e = .returned (.slice (some ⟨g, 0, none⟩) (xs.length + 1) (xs.length + 1)) ∧ w.heap.size ≤ g ∧ Row w' g zs ∧ zs.length = xs.length + 1 ∧ Ws zs ∧ val zs = val xs * 2 ^ s ∧ Below w.heap.size w w' := by
  obtain ⟨A, c, rfl, hc, _, HA⟩ := ha.open_
  obtain ⟨P, hP⟩ : ∃ P, P = 2 ^ s := ⟨_, rfl⟩
  have hP1 : 0 < P := by rw [hP]; exact Nat.pow_pos (by omega)
  have hP2 : P ≤ 2147483648 := by rw [hP]; exact Nat.pow_le_pow_right (i := s) (j := 31) (by omega) (by omega)
  obtain ⟨m, hm⟩ : ∃ m, 4294967296 = P * m := ⟨2 ^ (32 - s), by rw [hP, ← Nat.pow_add, (by omega : s + (32 - s) = 32)]⟩
  have hPi : (2 : Int) ^ s = ((P : Nat) : Int) := by rw [hP]; push_cast; rfl
  rw [← hP]
  have HP := Lib.hid hP
  have HM := Lib.hid hm
  have HPI := Lib.hid hPi
  clear hP hm hPi
  go_enter Try.func115, Try.ntmps115
  go_wp2_with (at_make; refine wpList_makeN _ rfl _ _ rfl Try.underlying22 info_u32 rfl w.heap.size (xs.length + 1) rfl rfl (by go_num) (by go_num) (by omega) (by unfold maxLen; omega) (Nat.le_refl _) ?_)
  intro w1 hown hgrow
  have hb1 : Below w.heap.size w w1 := below_none (Below.refl _ _) hgrow (Nat.le_refl _)
  rw [nums_zeros] at hown
  have hrow := (Row.of_own hown).1
  clear hgrow hown
  go_wp2_with fail
  go_loopw [15] (fun i wr => ∃ (k : Nat) (zs : List Nat), k ≤ xs.length ∧ i = .int .i64 k ∧ zs.length = xs.length + 1 ∧ Row wr w.heap.size zs ∧ Ws zs ∧
      (∀ h : k < zs.length, zs[k] < P) ∧ val (zs.take (k + 1)) = val (xs.take k) * P ∧ (∀ t, k < t → (h : t < zs.length) → zs[t] = 0) ∧ Below w.heap.size w wr) (fun i _ => xs.length - (intOf i).toNat)
  case atStart => exact ⟨0, List.replicate (xs.length + 1) 0, by omega, rfl, by simp, hrow, Ws.replicate _, by simp; omega, by simp [List.take_replicate, val], by simp, hb1⟩
  case round =>
    obtain ⟨k, zs, hk, rfl, hzl, hr, hws, hhi, hval, hzero, hbr⟩ := hrel
    have Hval := Lib.hid hval
    have Hzl := Lib.hid hzl
    have hz1 : k < zs.length := by omega
    have hhi := hhi hz1
    have HZ := Lib.hid hzero
    have hsz := hbr.size
    clear hval hrow hzero
    have HPr := HA.below hbr
    by_cases hlt : k < xs.length
    · obtain ⟨a, rfl, _, _, hca⟩ := HPr.at_ hlt
      have bx := HA.lt hlt
      have hz2 : k + 1 < zs.length := by omega
      clear hzl
      obtain ⟨p1, p2, p3⟩ := shl_parts xs[k] P m zs[k] bx HM.out hP1 hhi
      have hor := or_low zs[k] (xs[k] * P % 4294967296) P s HP.out hhi p2 p3
      have hst := left_step zs xs k P hlt hz2 Hval.out
      have P2 := Lib.hid p2
      have HST := Lib.hid hst
      clear p2 hst
      have hxP : xs[k] * P ≤ 4294967295 * 2147483648 := Nat.mul_le_mul (by omega) hP2
      have hw64 : IntKind.u64.wrap (((xs[k] : Nat) : Int) * 2 ^ s) = ((xs[k] * P : Nat) : Int) := by rw [HPI.out, ← Int.natCast_mul, IntKind.wrap_u64]; omega
      have e1 : ((xs[k] * P : Nat) : Int) % 4294967296 = ((xs[k] * P % 4294967296 : Nat) : Int) := by omega
      have e2 : ((xs[k] * P : Nat) : Int) / 4294967296 = ((xs[k] * P / 4294967296 : Nat) : Int) := by omega
      have e3 : ((xs[k] * P / 4294967296 : Nat) : Int) % 4294967296 = ((xs[k] * P / 4294967296 : Nat) : Int) := by omega
      have hr2 := (hr.set k (zs[k] + xs[k] * P % 4294967296)).set (k + 1) (xs[k] * P / 4294967296)
      have hws2 := (hws.set k (zs[k] + xs[k] * P % 4294967296) p3).set (k + 1) (xs[k] * P / 4294967296) (by omega)
      have hcO := hr.cell hz1
      have hfO := hr.frz k
      have hcO1 := hr.cell hz2
      have hfO1 := hr.frz (k + 1)
      clear hr hws
      generalize hxp : xs[k] * P = xp at *
      have HXP := Lib.hid hxp
      clear hxp hxP
      generalize hlo : xp % 4294967296 = lo at *
      generalize hhi' : xp / 4294967296 = hi at *
      have HLO := Lib.hid hlo
      have HHI := Lib.hid hhi'
      clear hlo hhi'
      generalize hy : zs[k] = y at *
      generalize hy1 : zs[k + 1] = y1 at *
      have HY := Lib.hid hy
      have HY1 := Lib.hid hy1
      clear hy hy1
      go_wp2_with fail
      go_roundw
      case rel =>
        refine ⟨k + 1, (zs.set k (y + lo)).set (k + 1) hi, by omega, by go_num, by simpa using Hzl.out, hr2, hws2, fun h => by simpa using p1, HST.out, fun t h1 h2 => ?_, (hbr.setCell (Nat.le_refl _) _).setCell (Nat.le_refl _) _⟩
        rw [List.getElem_set_ne (by omega), List.getElem_set_ne (by omega)]
        exact HZ.out t (by omega) (by simpa using h2)
      case measure => simp [intOf]; omega
    · obtain rfl : k = xs.length := by omega
      go_wp2_with fail
      go_ret
      have hv := Hval.out
      rw [List.take_length, List.take_of_length_le (by omega)] at hv
      exact ⟨_, zs, rfl, Nat.le_refl _, hr, hzl, hws, hv, hbr⟩
end Go.Proofs.Ytooheapikhdllaa

/- The reference's inner functions: trim, word, compareWords, addWords, timesWord, subWords. -/
namespace Go.Proofs.Ytooheapikhdllaa
open Go.RowKit

set_option maxRecDepth 20000 in
set_option maxHeartbeats 1000000 in
theorem rtrim_any (w : World) (X : Nat → Prop) (v : Value) (xs : List Nat) (h : Words w X v xs) (hsz : xs.length ≤ 1099511627776) :
    Calls Try.prog 95 #[v] w fun e w' => ∃ v', e = .returned v' ∧ Words w' (Old w) v' (trimL xs) ∧ Below w.heap.size w w' := by
  obtain ⟨i0, hi, hz0, hz1, hz2⟩ := info_parts info_u32
  have hm := h.lt_max
  obtain ⟨A, c, rfl, hc, _, H⟩ := h.open_
  go_enter Try.func95, Try.ntmps95
  go_wp2
  go_loop [3] (fun i => ∃ k : Nat, k ≤ xs.length ∧ (∀ j, k ≤ j → (h : j < xs.length) → xs[j] = 0) ∧ i = .int .i64 k) (fun i => (intOf i).toNat)
  case atStart => exact ⟨xs.length, Nat.le_refl _, fun j h1 h2 => absurd h2 (by omega), rfl⟩
  case round =>
    obtain ⟨k, hk, hz, rfl⟩ := hrel
    have Hz := Lib.hid hz
    clear hz
    have fin : ∀ k, k ≤ xs.length → trimL xs = xs.take k → Words w X (.slice A k c) (trimL xs) := fun k hk e => e ▸ H.take hk
    by_cases h0 : k = 0
    · subst h0
      have e0 := trimL_take xs 0 hk Hz.out (by omega)
      rw [List.take_zero] at e0
      have E0 := Lib.hid e0
      clear e0 fin
      rcases A with _ | a
      · go_wp2_with fail
        go_ret
        exact ⟨_, rfl, E0.out ▸ Words.of_own (base := w.heap.size) (e := 82) (World.ownsRow_lit w #[] 0 (Nat.le_refl _) (by unfold maxLen; omega) rfl) Ws.nil (fun b h1 _ _ => by unfold Old; omega), (Below.refl _ _).alloc (Nat.le_refl _) _⟩
      · go_wp2_with (at_builtin; refine wpList_append_own _ rfl _ _ 22 rfl w.heap.size 82 i0 (.int .u32 0) 1 4 Try.underlying22 hi hz0 hz1 hz2 rfl (by decide) _ _ _ rfl (World.ownsRow_lit w #[] 0 (Nat.le_refl _) (by unfold maxLen; omega) rfl) a 0 c [] rfl (by simp) (by simp) (by simp) (by unfold maxLen; omega) (by omega) (by simp) ?_)
        intro v1 w1 hown hgrow _
        go_wp2_with fail
        go_ret
        exact ⟨_, rfl, E0.out ▸ Words.of_own (by simpa using hown) Ws.nil (fun b h1 _ _ => by unfold Old; omega), ((Below.refl _ _).alloc (Nat.le_refl _) _).grown hgrow (by simp) (by simp [Value.ownBlock])⟩
    · obtain ⟨a, rfl, _, _, hcell⟩ := H.at_ (k := k - 1) (by omega)
      have hp : (0 : Int) < (k : Int) := by omega
      by_cases hx : xs[k - 1] = 0
      · have hb : (((xs[k - 1] : Nat) : Int) == 0) = true := by simp [hx]
        have HX := Lib.hid hx
        clear hx fin
        go_wp2_with fail
        go_round
        case rel => exact ⟨k - 1, by omega, fun j h1 h2 => if e : j = k - 1 then by subst e; exact HX.out else Hz.out j (by omega) h2, by go_num⟩
        case measure => simp [intOf]; omega
      · have hb : (((xs[k - 1] : Nat) : Int) == 0) = false := by simp; omega
        have H1 := fin k hk (trimL_take xs k hk Hz.out (fun _ _ => hx))
        have ek : (trimL xs).length = k := by rw [trimL_take xs k hk Hz.out (fun _ _ => hx), List.length_take]; omega
        have EK := Lib.hid ek
        clear fin ek
        go_wp2_with (at_builtin; refine wpList_append_own _ rfl _ _ 22 rfl w.heap.size 82 i0 (.int .u32 0) 1 4 Try.underlying22 hi hz0 hz1 hz2 rfl (by decide) _ _ _ rfl (World.ownsRow_lit w #[] 0 (Nat.le_refl _) (by unfold maxLen; omega) rfl) a k c (nums .u32 (trimL xs)) rfl (by simp [EK.out]) (fun j u hu => (Words.below H1 ((Below.refl _ _).alloc (Nat.le_refl _) _)).news j u hu) (nums_one _ _) (by unfold maxLen; omega) (by omega) (by simp) ?_)
        intro v1 w1 hown hgrow _
        go_wp2_with fail
        go_ret
        rw [← EK.out] at hown
        exact ⟨_, rfl, Words.of_own hown H1.2 (fun b h1 _ _ => by unfold Old; omega), ((Below.refl _ _).alloc (Nat.le_refl _) _).grown hgrow (by simp) (by simp [Value.ownBlock])⟩

/-- The word at a place, 0 behind the end. -/
def wordAt (xs : List Nat) (i : Nat) : Nat := xs.getD i 0
theorem wordAt_lt {xs : List Nat} (h : Ws xs) (i : Nat) : wordAt xs i < 4294967296 := by
  unfold wordAt
  rw [List.getD_eq_getElem?_getD]
  by_cases hi : i < xs.length
  · rw [List.getElem?_eq_getElem hi]; exact h.get hi
  · rw [List.getElem?_eq_none (by omega)]; simp
theorem wordAt_in {xs : List Nat} {i : Nat} (hi : i < xs.length) : wordAt xs i = xs[i] := by
  unfold wordAt; rw [List.getD_eq_getElem?_getD, List.getElem?_eq_getElem hi]; rfl
theorem wordAt_out {xs : List Nat} {i : Nat} (hi : xs.length ≤ i) : wordAt xs i = 0 := by
  unfold wordAt; rw [List.getD_eq_getElem?_getD, List.getElem?_eq_none hi]; rfl
theorem val_take_wordAt (xs : List Nat) (k : Nat) : val (xs.take (k + 1)) = val (xs.take k) + 4294967296 ^ k * wordAt xs k := by
  by_cases h : k < xs.length
  · rw [wordAt_in h, val_take_succ xs k h]
  · rw [wordAt_out (by omega), val_take_more xs k (by omega)]; simp

set_option maxRecDepth 20000 in
set_option maxHeartbeats 400000 in
theorem word_any (w : World) (X : Nat → Prop) (v : Value) (xs : List Nat) (i : Nat) (h : Words w X v xs) :
    Calls Try.prog 102 #[v, .int .i64 i] w fun e w' => e = .returned (.int .u64 (wordAt xs i : Nat)) ∧ w = w' := by
  have hm := h.lt_max
  obtain ⟨A, c, rfl, hc, _, H⟩ := h.open_
  by_cases hi : i < xs.length
  · obtain ⟨a, rfl, _, _, hcell⟩ := H.at_ hi
    have b := H.lt hi
    go_enter Try.func102, Try.ntmps102
    go_wp2_with fail
    go_ret
    exact ⟨ret_eq (by rw [wordAt_in hi]; rfl), rfl⟩
  · go_enter Try.func102, Try.ntmps102
    go_wp2_with fail
    go_ret
    exact ⟨ret_eq (by rw [wordAt_out (by omega)]; rfl), rfl⟩

set_option maxRecDepth 20000 in
set_option maxHeartbeats 1000000 in
theorem addWords_any (w : World) (X : Nat → Prop) (va vb : Value) (xs ys : List Nat) (ha : Words w X va xs) (hb : Words w X vb ys) (hs : xs.length + ys.length ≤ 1000000000000) :
    Calls Try.prog 108 #[va, vb] w fun e w' => ∃ v', e = .returned v' ∧ Words w' (Old w) v' (dig (val xs + val ys)) ∧ Below w.heap.size w w' := by
  obtain ⟨A, c, rfl, hc, _, HA⟩ := ha.open_
  obtain ⟨B, d, rfl, hd, _, HB⟩ := hb.open_
  go_enter Try.func108, Try.ntmps108
  go_wp2_with fail
  go_loopw [5, 6, 7] (fun o cr i wr => ∃ (k : Nat) (zs : List Nat) (cy : Nat), k ≤ xs.length + ys.length ∧ i = .int .i64 k ∧ cr = .int .u64 cy ∧ cy ≤ 1 ∧ zs.length = k ∧ wr.ownsRow w.heap.size 82 1 o zs.length (nums .u32 zs) ∧ Ws zs ∧
      val zs + 4294967296 ^ k * cy = val (xs.take k) + val (ys.take k) ∧ Below w.heap.size w wr) (fun _ _ i _ => xs.length + ys.length - (intOf i).toNat)
  case atStart => exact ⟨0, [], 0, by omega, rfl, rfl, by omega, rfl, World.ownsRow_lit w #[] 0 (Nat.le_refl _) (by unfold maxLen; omega) rfl, Ws.nil, by simp, (Below.refl _ _).alloc (Nat.le_refl _) _⟩
  case round =>
    obtain ⟨k, zs, cy, hk, rfl, rfl, hcy, hzl, hown', hws, hval, hbr⟩ := hrel
    have Hval := Lib.hid hval
    have Hzl := Lib.hid hzl
    have hzb : zs.length ≤ k := by omega
    have hsz := hbr.size
    clear hval hzl
    have HPr := HA.below hbr
    have HQr := HB.below hbr
    have bx := wordAt_lt HA.2 k
    have by_ := wordAt_lt HB.2 k
    by_cases hlt : k < xs.length ∨ k < ys.length
    · have hside : k < xs.length + ys.length := by omega
      by_cases h1 : k < xs.length
      all_goals
        have h1d : decide ((k : Int) < (xs.length : Int)) = decide (k < xs.length) := by simp
        simp only [h1, decide_true, decide_false] at h1d
        go_wp2_with (first | (go_at_call 102; ((with_reducible refine (word_any _ X (.slice A xs.length c) xs k HPr).mono ?_); rintro e w' ⟨rfl, rfl⟩)) | (go_at_call 102; ((with_reducible refine (word_any _ X (.slice B ys.length d) ys k HQr).mono ?_); rintro e w' ⟨rfl, rfl⟩)) | (at_builtin; refine wpList_push _ rfl _ _ rfl Try.underlying22 info_u32 rfl w.heap.size _ _ _ rfl (hown'.alloc _) _ _ rfl (heap_alloc_new wr _) rfl (by omega) (by unfold maxLen; omega) (by simp; omega) ?_))
        intro v2 w2 hown2 hg2 _
        have hb2 := below_own (hbr.alloc hsz _) (hown'.alloc _) hg2 (Nat.le_refl _) (by simp; omega)
        go_wp2_with fail
        go_roundw
        case rel =>
          rw [nums_snoc' _ _ _ ((wordAt xs k + wordAt ys k + cy) % 4294967296) (by omega)] at hown2
          refine ⟨k + 1, zs ++ [(wordAt xs k + wordAt ys k + cy) % 4294967296], (wordAt xs k + wordAt ys k + cy) / 4294967296, by omega, by go_num, by go_num, by omega, by simp [Hzl.out], by simpa using hown2, Ws.append.2 ⟨hws, by simp [Ws]; omega⟩, ?_, hb2⟩
          refine carry_step zs k _ cy _ Hzl.out ?_
          have := Hval.out
          rw [val_take_wordAt, val_take_wordAt, Nat.mul_add, Nat.mul_add]
          omega
        case measure => simp [intOf]; omega
    · go_wp2_with (first | (at_builtin; refine wpList_push _ rfl _ _ rfl Try.underlying22 info_u32 rfl w.heap.size _ _ _ rfl (hown'.alloc _) _ _ rfl (heap_alloc_new wr _) rfl (by omega) (by unfold maxLen; omega) (by simp; omega) ?_) | (go_at_call 95; fail))
      intro v2 w2 hown2 hg2 _
      have hb2 := below_own (hbr.alloc hsz _) (hown'.alloc _) hg2 (Nat.le_refl _) (by simp; omega)
      rw [nums_snoc' _ _ _ (cy % 4294967296) (by omega)] at hown2
      have W2 : Words w2 (Old w) v2 (zs ++ [cy % 4294967296]) := Words.of_own (by simpa using hown2) (Ws.append.2 ⟨hws, by simp [Ws]; omega⟩) (fun b h1 _ _ => by unfold Old; omega)
      go_wp2_with fail
      refine (rtrim_any _ _ _ _ W2 (by simp; omega)).mono ?_
      rintro e w3 ⟨v3, rfl, h3, hb3⟩
      go_wp2_with fail
      go_ret
      have hv := Hval.out
      rw [List.take_of_length_le (by omega), List.take_of_length_le (by omega)] at hv
      rw [trimL_dig W2.2, val_snoc, Hzl.out, Nat.mod_eq_of_lt (by omega), hv] at h3
      exact ⟨_, rfl, h3.weak (by intro b _; unfold Old; have := hb2.size; omega), hb2.trans (hb3.mono hb2.size)⟩
end Go.Proofs.Ytooheapikhdllaa

/- right: a magnitude shifted back. -/
namespace Go.Proofs.Ytooheapikhdllaa
open Go.RowKit

theorem shr_word (x y P m : Nat) (hx : x < 4294967296) (hm : 4294967296 = P * m) (hP : 0 < P) :
    P * ((x + y * 4294967296) / P % 4294967296) + x % P = x + 4294967296 * (y % P) ∧ (x + y * 4294967296) / P % 4294967296 < 4294967296 := by
  refine ⟨?_, Nat.mod_lt _ (by omega)⟩
  have e1 : (x + y * 4294967296) / P = x / P + m * y := by
    rw [hm, Nat.mul_left_comm y P m, Nat.add_mul_div_left _ _ hP, Nat.mul_comm y m]
  have hxm : x / P < m := by rw [Nat.div_lt_iff_lt_mul hP, Nat.mul_comm, ← hm]; exact hx
  have e2 : (x / P + m * y) % 4294967296 = x / P + m * (y % P) := by
    have h1 := Nat.div_add_mod y P
    have h2 : m * y = m * (y % P) + 4294967296 * (y / P) := by
      rw [hm]
      have : m * y = m * (P * (y / P) + y % P) := by rw [h1]
      rw [this, Nat.mul_add, ← Nat.mul_assoc, Nat.mul_comm m P]
      omega
    rw [h2, ← Nat.add_assoc, Nat.add_mul_mod_self_left]
    refine Nat.mod_eq_of_lt ?_
    have h3 : m * (y % P + 1) ≤ m * P := Nat.mul_le_mul_left _ (Nat.mod_lt y hP)
    rw [Nat.mul_add, Nat.mul_one, Nat.mul_comm m P, ← hm] at h3
    omega
  rw [e1, e2, Nat.mul_add, ← Nat.mul_assoc, ← hm]
  have h1 := Nat.div_add_mod x P
  omega
theorem addr_succ (a : Addr) (k : Nat) : a.add (k + 1) = ⟨a.block, a.off + (k + 1), none⟩ := by simp [Addr.add]
theorem cast_shr (W P : Nat) : ((W : Nat) : Int) / ((P : Nat) : Int) % 4294967296 = ((W / P % 4294967296 : Nat) : Int) := by
  have : ((W : Nat) : Int) / ((P : Nat) : Int) = ((W / P : Nat) : Int) := (Int.natCast_ediv W P).symm
  rw [this]; omega
theorem shr_or (x y P m s : Nat) (hx : x < 4294967296) (hy : y < 4294967296) (hm : 4294967296 = P * m) (hP : 0 < P) (hs : (2 : Int) ^ s = ((P : Nat) : Int)) :
    ∃ W z : Nat, bits BinOp.or IntKind.u64 ((x : Nat) : Int) (((y : Nat) : Int) * 4294967296) = ((W : Nat) : Int) ∧ ((W : Nat) : Int) / 2 ^ s % 4294967296 = ((z : Nat) : Int) ∧ z < 4294967296 ∧ P * z + x % P = x + 4294967296 * (y % P) := by
  obtain ⟨h1, h2⟩ := shr_word x y P m hx hm hP
  refine ⟨x + y * 4294967296, _, ?_, ?_, h2, h1⟩
  · have := Go.bits_join_low .u64 64 (by decide) (fun n h0 h1 => by rw [IntKind.wrap_u64]; omega) 32 ((x : Nat) : Int) (((y : Nat) : Int) * 4294967296) (by omega) (by omega) (by omega) (by omega) (by omega) (by omega)
    rw [this]; omega
  · rw [hs, cast_shr]
theorem shr_one (x P m s : Nat) (hx : x < 4294967296) (hm : 4294967296 = P * m) (hP : 0 < P) (hs : (2 : Int) ^ s = ((P : Nat) : Int)) :
    ∃ z : Nat, ((x : Nat) : Int) / 2 ^ s % 4294967296 = ((z : Nat) : Int) ∧ z < 4294967296 ∧ P * z + x % P = x + 4294967296 * 0 := by
  obtain ⟨h1, h2⟩ := shr_word x 0 P m hx hm hP
  rw [Nat.zero_mul, Nat.add_zero, Nat.zero_mod] at h1
  exact ⟨_, by rw [hs, cast_shr], Nat.mod_lt _ (by omega), h1⟩
theorem right_step (zs xs : List Nat) (k P z y0 : Nat) (hk : k < xs.length) (hz : k < zs.length) (hv : P * val (zs.take k) + y0 = val (xs.take k) + 4294967296 ^ k * (xs[k] % P)) (Y : Nat) (hw : P * z + xs[k] % P = xs[k] + 4294967296 * Y) :
    P * val ((zs.set k z).take (k + 1)) + y0 = val (xs.take (k + 1)) + 4294967296 ^ (k + 1) * Y := by
  rw [val_take_set zs k z hz, val_take_succ xs k hk, Nat.mul_add, Nat.pow_succ, Nat.mul_assoc (4294967296 ^ k)]
  have : 4294967296 ^ k * (P * z) + 4294967296 ^ k * (xs[k] % P) = 4294967296 ^ k * xs[k] + 4294967296 ^ k * (4294967296 * Y) := by rw [← Nat.mul_add, hw, Nat.mul_add]
  rw [Nat.mul_left_comm P]
  omega

set_option maxHeartbeats 1000000 in
theorem right_any (w : World) (X : Nat → Prop) (va : Value) (xs : List Nat) (s : Nat) (ha : Words w X va xs) (hs : xs.length ≤ 1099511627776) (h32 : s < 32) :
    Calls Try.prog 117 #[va, .int .i64 s] w fun e w' => ∃ v' zs, e = .returned v' ∧ Words w' (Old w) v' zs ∧ zs.length = xs.length ∧ val zs = val xs / 2 ^ s ∧ Below w.heap.size w w' := by
  obtain ⟨A, c, rfl, hc, _, HA⟩ := ha.open_
  obtain ⟨P, hP⟩ : ∃ P, P = 2 ^ s := ⟨_, rfl⟩
  have hP1 : 0 < P := by rw [hP]; exact Nat.pow_pos (by omega)
  obtain ⟨m, hm⟩ : ∃ m, 4294967296 = P * m := ⟨2 ^ (32 - s), by rw [hP, ← Nat.pow_add, (by omega : s + (32 - s) = 32)]⟩
  have hPi : (2 : Int) ^ s = ((P : Nat) : Int) := by rw [hP]; push_cast; rfl
  rw [← hP]
  have HM := Lib.hid hm
  have HPI := Lib.hid hPi
  clear hP hm hPi
  go_enter Try.func117, Try.ntmps117
  go_wp2_with (at_make; refine wpList_makeN _ rfl _ _ rfl Try.underlying22 info_u32 rfl w.heap.size xs.length rfl rfl rfl rfl (by omega) (by unfold maxLen; omega) (Nat.le_refl _) ?_)
  intro w1 hown hgrow
  have hb1 : Below w.heap.size w w1 := below_none (Below.refl _ _) hgrow (Nat.le_refl _)
  rw [nums_zeros] at hown
  have hrow := (Row.of_own hown).1
  clear hgrow hown
  go_wp2_with fail
  go_loopw [14] (fun i wr => ∃ (k : Nat) (zs : List Nat), k ≤ xs.length ∧ i = .int .i64 k ∧ zs.length = xs.length ∧ Row wr w.heap.size zs ∧ Ws zs ∧
      P * val (zs.take k) + wordAt xs 0 % P = val (xs.take k) + 4294967296 ^ k * (wordAt xs k % P) ∧ Below w.heap.size w wr) (fun i _ => xs.length - (intOf i).toNat)
  case atStart => exact ⟨0, List.replicate xs.length 0, by omega, rfl, by simp, hrow, Ws.replicate _, by simp [val], hb1⟩
  case round =>
    obtain ⟨k, zs, hk, rfl, hzl, hr, hws, hval, hbr⟩ := hrel
    have Hval := Lib.hid hval
    have Hzl := Lib.hid hzl
    have hsz := hbr.size
    clear hval hrow
    have HPr := HA.below hbr
    by_cases hlt : k < xs.length
    · have hz1 : k < zs.length := by omega
      clear hzl
      have hv := Hval.out
      rw [wordAt_in hlt] at hv
      have bx := HA.lt hlt
      have hfO := hr.frz k
      have hcO := hr.cell hz1
      obtain ⟨a, rfl, _, _, hca⟩ := HPr.at_ hlt
      by_cases hl2 : k + 1 < xs.length
      · obtain ⟨a2, ha2, _, _, hca2⟩ := HPr.at_ hl2
        injection ha2 with ha2
        subst ha2
        have by1 := HA.lt hl2
        have hca3 : wr.cell? ⟨a.block, a.off + (k + 1), none⟩ = some (.int .u32 ((xs[k + 1] : Nat) : Int)) := by have h := hca2; rw [addr_succ] at h; exact h
        clear hca2
        obtain ⟨W, z, hor, e2, hw2, hw1⟩ := shr_or xs[k] xs[k + 1] P m s bx by1 HM.out hP1 HPI.out
        have hst := right_step zs xs k P z _ hlt hz1 hv _ hw1
        rw [← wordAt_in hl2] at hst
        have HST := Lib.hid hst
        clear hst hw1 hv
        have e1 : IntKind.u64.wrap (((xs[k + 1] : Nat) : Int) * 4294967296) = ((xs[k + 1] : Nat) : Int) * 4294967296 := by rw [IntKind.wrap_u64]; omega
        have hr2 := hr.set k z
        have hws2 := hws.set k _ hw2
        clear hr hws
        go_wp2_with fail
        go_roundw
        case rel => exact ⟨k + 1, zs.set k z, by omega, by go_num, by simpa using Hzl.out, hr2, hws2, HST.out, hbr.setCell (Nat.le_refl _) _⟩
        case measure => simp [intOf]; omega
      · obtain ⟨z, e2, hw2, hw1⟩ := shr_one xs[k] P m s bx HM.out hP1 HPI.out
        have hst := right_step zs xs k P z _ hlt hz1 hv _ hw1
        have HST := Lib.hid hst
        clear hst hw1 hv
        have hr2 := hr.set k z
        have hws2 := hws.set k _ hw2
        clear hr hws
        go_wp2_with fail
        go_roundw
        case rel => exact ⟨k + 1, zs.set k z, by omega, by go_num, by simpa using Hzl.out, hr2, hws2, by rw [wordAt_out (xs := xs) (i := k + 1) (by omega), Nat.zero_mod]; exact HST.out, hbr.setCell (Nat.le_refl _) _⟩
        case measure => simp [intOf]; omega
    · obtain rfl : k = xs.length := by omega
      go_wp2_with fail
      go_ret
      have hv := Hval.out
      rw [List.take_length, List.take_of_length_le (by omega), wordAt_out (Nat.le_refl _), Nat.zero_mod, Nat.mul_zero, Nat.add_zero] at hv
      refine ⟨_, zs, rfl, ?_, hzl, ?_, hbr⟩
      · rw [← hzl]; exact hr.words hws (by unfold Old; omega) (by unfold maxLen; omega)
      · rw [← hv, Nat.mul_add_div hP1, Nat.div_eq_of_lt (Nat.mod_lt _ hP1), Nat.add_zero]
end Go.Proofs.Ytooheapikhdllaa

/- short, compare. -/
namespace Go.Proofs.Ytooheapikhdllaa
open Go.RowKit

set_option maxHeartbeats 1000000 in
theorem short_any (w : World) (X : Nat → Prop) (va : Value) (xs : List Nat) (d : Nat) (ha : Words w X va xs) (hs : xs.length ≤ 1099511627776) (hd0 : 0 < d) (hd : d < 4294967296) :
    Calls Try.prog 99 #[va, .int .u32 d] w fun e w' => ∃ v' zs r, e = .returned (.tuple #[v', .int .u32 (r : Nat)]) ∧ Words w' (Old w) v' zs ∧ val zs = val xs / d ∧ r = val xs % d ∧ zs.length = xs.length ∧ Below w.heap.size w w' := by
  obtain ⟨A, c, rfl, hc, _, HA⟩ := ha.open_
  go_enter Try.func99, Try.ntmps99
  go_wp2_with (at_make; refine wpList_makeN _ rfl _ _ rfl Try.underlying22 info_u32 rfl w.heap.size xs.length rfl rfl rfl rfl (by omega) (by unfold maxLen; omega) (Nat.le_refl _) ?_)
  intro w1 hown hgrow
  have hb1 : Below w.heap.size w w1 := below_none (Below.refl _ _) hgrow (Nat.le_refl _)
  rw [nums_zeros] at hown
  clear hgrow
  go_wp2_with fail
  go_loopw [7, 8] (fun rr i wr => ∃ (k : Nat) (zs : List Nat) (r : Nat), k ≤ xs.length ∧ i = .int .i64 ((k : Int) - 1) ∧ rr = .int .u32 r ∧ r < d ∧ zs.length = xs.length ∧ wr.ownsRow w.heap.size 82 1 (.slice (some ⟨w.heap.size, 0, none⟩) xs.length xs.length) xs.length (nums .u32 zs) ∧ Ws zs ∧
      val (zs.drop k) * d + r = val (xs.drop k) ∧ Below w.heap.size w wr) (fun _ i _ => (intOf i + 1).toNat)
  case atStart => exact ⟨xs.length, List.replicate xs.length 0, 0, by omega, rfl, rfl, by omega, by simp, hown, Ws.replicate _, by simp, hb1⟩
  case round =>
    obtain ⟨k, zs, r, hk, rfl, rfl, hr, hzl, hown', hws, hval, hbr⟩ := hrel
    have Hval := Lib.hid hval
    have Hzl := Lib.hid hzl
    have hsz := hbr.size
    clear hval hzl hown
    have HPr := HA.below hbr
    by_cases hlt : 0 < k
    · obtain ⟨p, rfl⟩ : ∃ p, k = p + 1 := ⟨k - 1, by omega⟩
      have hp : p < xs.length := by omega
      have hpz : p < zs.length := by have := Hzl.out; omega
      obtain ⟨a, rfl, _, _, hca⟩ := HPr.at_ hp
      have bx := HA.lt hp
      have hcO : wr.cell? ⟨w.heap.size, p, none⟩ = some (.int .u32 ((zs[p] : Nat) : Int)) := (hown'.cellAt p (by omega)).trans (nums_get _)
      have hfO := hown'.frozenAt p
      go_wp2_with (go_at_call 120; refine (div32_any _ _ _ _ hr bx hd).mono ?_; rintro e w' ⟨rfl, n, rfl⟩)
      go_roundw
      case rel =>
        have hst := (hown'.stored p (.int .u32 (((r * 4294967296 + xs[p]) / d : Nat) : Int))).1
        rw [nums_set] at hst
        exact ⟨p, zs.set p ((r * 4294967296 + xs[p]) / d), (r * 4294967296 + xs[p]) % d, by omega, by go_num, by go_num, Nat.mod_lt _ hd0, by simpa using Hzl.out, hst, hws.set _ _ (div_lt_32 _ _ _ hr bx), short_step zs xs p d r xs[p] _ _ hpz hp rfl rfl rfl Hval.out, (below_drewN hbr n).setCell (Nat.le_refl _) _⟩
      case measure => simp [intOf] <;> omega
    · obtain rfl : k = 0 := by omega
      go_wp2_with fail
      go_ret2
      have hv := Hval.out
      simp only [List.drop_zero] at hv
      rw [← Hzl.out] at hown'
      refine ⟨_, zs, r, by rw [← Hzl.out]; rfl, Words.of_own hown' hws (fun b h1 _ _ => by unfold Old; omega), ?_, ?_, Hzl.out, hbr⟩
      · rw [← hv, Nat.add_comm, Nat.add_mul_div_right _ _ hd0, Nat.div_eq_of_lt hr, Nat.zero_add]
      · rw [← hv, Nat.add_comm, Nat.add_mul_mod_self_right, Nat.mod_eq_of_lt hr]

set_option maxHeartbeats 1000000 in
theorem compare_any (w : World) (X : Nat → Prop) (va vb : Value) (xs ys : List Nat) (ha : Words w X va xs) (hb : Words w X vb ys) (hx : Can xs) (hy : Can ys) :
    Calls Try.prog 101 #[va, vb] w fun e w' => e = .returned (.int .i64 (cmpN (val xs) (val ys))) ∧ ∃ n, w' = w.drewN n := by
  have m1 := ha.lt_max
  have m2 := hb.lt_max
  obtain ⟨A, c, rfl, hc, _, HA⟩ := ha.open_
  obtain ⟨B, d, rfl, hd, _, HB⟩ := hb.open_
  by_cases hl : xs.length = ys.length
  · have hlb : ((xs.length : Int) != (ys.length : Int)) = false := by simp [hl]
    have HL := Lib.hid hl
    have hl1 : xs.length ≤ ys.length := by omega
    have hl2 : ys.length ≤ xs.length := by omega
    clear hl
    go_enter Try.func101, Try.ntmps101
    go_wp2_with fail
    go_loopw [5] (fun i wr => ∃ (k n : Nat), k ≤ xs.length ∧ i = .int .i64 ((k : Int) - 1) ∧ xs.drop k = ys.drop k ∧ wr = w.drewN n) (fun i _ => (intOf i + 1).toNat)
    case atStart => exact ⟨xs.length, 0, by omega, rfl, by rw [List.drop_length, List.drop_of_length_le hl2], rfl⟩
    case round =>
      obtain ⟨k, n, hk, rfl, hdr, rfl⟩ := hrel
      have Hdr := Lib.hid hdr
      clear hdr
      by_cases hlt : 0 < k
      · obtain ⟨p, rfl⟩ : ∃ p, k = p + 1 := ⟨k - 1, by omega⟩
        have hp : p < xs.length := by omega
        have hq : p < ys.length := by omega
        obtain ⟨a, rfl, _, _, hca⟩ := HA.at_ hp
        obtain ⟨b, rfl, _, _, hcb⟩ := HB.at_ hq
        have ip : (p : Int) < (xs.length : Int) := by omega
        have iq : (p : Int) < (ys.length : Int) := by omega
        by_cases he : xs[p] = ys[p]
        · have hbb : (((xs[p] : Nat) : Int) != ((ys[p] : Nat) : Int)) = false := by simp [he]
          have HE := Lib.hid he
          clear he
          go_wp2_with fail
          go_quiet (fail)
          go_wp2_with fail
          go_roundw
          case rel => exact ⟨p, n + nq, by omega, by go_num, by rw [List.drop_eq_getElem_cons hp, List.drop_eq_getElem_cons hq, HE.out, Hdr.out], rfl⟩
          case measure => simp [intOf] <;> omega
        · have hbb : (((xs[p] : Nat) : Int) != ((ys[p] : Nat) : Int)) = true := by simp; omega
          rcases Nat.lt_or_gt_of_ne he with h | h
          · have h1 : ((xs[p] : Nat) : Int) < ((ys[p] : Nat) : Int) := by omega
            have hd : decide (((xs[p] : Nat) : Int) < ((ys[p] : Nat) : Int)) = true := by simpa using h
            go_wp2_with fail
            go_quiet (fail)
            go_wp2_with fail
            go_quiet (fail)
            go_wp2_with fail
            go_ret
            exact ⟨ret_eq (int_eq (cmpN_lt (val_lt_at xs ys HL.out hx.1 p hp Hdr.out h)).symm), _, by rw [World.drewN_drewN, World.drewN_drewN]⟩
          · have h1 : ¬ ((xs[p] : Nat) : Int) < ((ys[p] : Nat) : Int) := by omega
            have hd : decide (((xs[p] : Nat) : Int) < ((ys[p] : Nat) : Int)) = false := by simp; omega
            go_wp2_with fail
            go_quiet (fail)
            go_wp2_with fail
            go_quiet (fail)
            go_wp2_with fail
            go_ret
            exact ⟨ret_eq (int_eq (cmpN_gt (val_lt_at ys xs HL.out.symm hy.1 p hq Hdr.out.symm h)).symm), _, by rw [World.drewN_drewN, World.drewN_drewN]⟩
      · obtain rfl : k = 0 := by omega
        go_wp2_with fail
        go_ret
        have h := Hdr.out
        simp only [List.drop_zero] at h
        exact ⟨ret_eq (int_eq (cmpN_eq (by rw [h])).symm), n, rfl⟩
  · have hlb : ((xs.length : Int) != (ys.length : Int)) = true := by simp; omega
    by_cases hlt : xs.length < ys.length
    · go_enter Try.func101, Try.ntmps101
      go_wp2_with fail
      go_ret
      exact ⟨ret_eq (int_eq (cmpN_lt (val_lt_of_len hx.1 hy hlt)).symm), 0, rfl⟩
    · go_enter Try.func101, Try.ntmps101
      go_wp2_with fail
      go_ret
      exact ⟨ret_eq (int_eq (cmpN_gt (val_lt_of_len hy.1 hx (by omega))).symm), 0, rfl⟩
end Go.Proofs.Ytooheapikhdllaa

/- over: quotient and remainder of two magnitudes. -/
namespace Go.Proofs.Ytooheapikhdllaa
open Go.RowKit

set_option maxHeartbeats 1000000 in
theorem over_any (w : World) (X : Nat → Prop) (hX : ∀ b, X b → b < w.heap.size) (va vb : Value) (xs ys : List Nat) (ha0 : Words w X va xs) (hb : Words w (fun _ => False) vb ys) (hx : Can xs) (hy : Can ys) (hne : 0 < ys.length) (hs : xs.length ≤ 1000000000000) (ht : ys.length ≤ 1000000000000) :
    Calls Try.prog 92 #[va, vb] w fun e w' => ∃ v1 v2 qs rs, e = .returned (.tuple #[v1, v2]) ∧ Words w' X v1 qs ∧ Words w' X v2 rs ∧ val qs = val xs / val ys ∧ val rs = val xs % val ys ∧ qs.length ≤ xs.length ∧ rs.length ≤ xs.length ∧ Below w.heap.size w w' := by
  have ha := ha0.weak (Y := fun _ => False) (fun _ _ h => h.elim)
  obtain ⟨A, c, rfl, hc, _, HA⟩ := ha.open_
  obtain ⟨B, d, rfl, hd, _, HB⟩ := hb.open_
  have hpos : 0 < val ys := hy.pos (by intro e; subst e; simp at hne)
  have hlow := can_lower hy (by intro e; subst e; simp at hne)
  have hcmp := compare_any w (fun _ => False) _ _ xs ys HA HB hx hy
  go_enter Try.func92, Try.ntmps92
  go_wp2_with fail
  refine hcmp.mono ?_
  rintro e w1 ⟨rfl, n, rfl⟩
  by_cases hlt : val xs < val ys
  · rw [cmpN_lt hlt]
    go_wp2_with fail
    go_ret2
    exact ⟨_, _, [], xs, rfl, Words.nil _ _, ha0.drewN n, by rw [Nat.div_eq_of_lt hlt]; rfl, by rw [Nat.mod_eq_of_lt hlt], by simp, by simp, below_drewN (Below.refl _ _) n⟩
  · obtain ⟨cc, hcc, hc0⟩ : ∃ cc, cmpN (val xs) (val ys) = cc ∧ 0 ≤ cc := ⟨_, rfl, by unfold cmpN; rw [if_neg hlt]; split <;> omega⟩
    rw [hcc]
    have hc0' : decide (cc < 0) = false := by rw [decide_eq_false_iff_not]; omega
    have hlen : ys.length ≤ xs.length := by
      rcases Nat.lt_or_ge xs.length ys.length with h | h
      · exact absurd (val_lt_of_len hx.1 hy h) hlt
      · exact h
    clear hcc hcmp
    by_cases h1 : ys.length = 1
    · obtain ⟨y, rfl⟩ : ∃ y, ys = [y] := by
        rcases ys with _ | ⟨y, _ | ⟨z, zs⟩⟩
        · simp at hne
        · exact ⟨y, rfl⟩
        · simp at h1
      have hy0 : val [y] = y := by show y + 4294967296 * 0 = y; omega
      rw [hy0] at hpos
      have hy32 := HB.lt (i := 0) (by simp)
      obtain ⟨a, rfl, _, _, d0⟩ := HB.at_ (k := 0) (by simp)
      simp only [List.getElem_cons_zero] at hy32 d0
      rw [addr_zero] at d0
      go_wp2_with fail
      refine (short_any _ _ _ xs y (HA.drewN n) (by omega) hpos hy32).mono ?_
      rintro e w2 ⟨v2, zs, r, rfl, h2, hz, hr, hzl, hb2⟩
      have hr32 : r < 4294967296 := by have := Nat.mod_lt (val xs) hpos; omega
      have HZ := Lib.hid hz
      have HR := Lib.hid hr
      clear hz hr
      go_wp2_with fail
      go_ret2
      refine ⟨_, _, zs, [r], rfl, (h2.weak (fun b _ h => hX b h)).below (below1 _ _), Words.lit [r] (Loc.new _ _ _) (by simp; omega) (fun h => by have h3 := hX _ h; have h4 : w.heap.size ≤ w2.heap.size := hb2.size; omega) (by unfold maxLen; simp), by rw [hy0]; exact HZ.out, by rw [hy0, ← HR.out]; show r + 4294967296 * 0 = r; omega, by omega, by simpa using hlen, ?_⟩
      exact ((below_undrewN hb2).trans ((below1 _ _).mono (below_undrewN hb2).size))
    · obtain ⟨p, hp⟩ : ∃ p, ys.length = p + 2 := ⟨ys.length - 2, by omega⟩
      have h0 : 0 < ys[p + 1] := by
        have h := hy.2 (by intro e; subst e; simp at hne)
        rw [List.getLast_eq_getElem] at h
        have e : ys[ys.length - 1] = ys[p + 1] := by congr 1; omega
        omega
      have hy32 := HB.lt (i := p + 1) (by omega)
      obtain ⟨a, rfl, _, _, d1⟩ := HB.at_ (k := p + 1) (by omega)
      have d1 : w.cell? ⟨a.block, a.off + (p + 1), none⟩ = some (.int .u32 ((ys[p + 1] : Nat) : Int)) := by rw [← addr_succ]; exact d1
      obtain ⟨s, hs'⟩ : ∃ s, s = 32 - Lib.bitLen ys[p + 1] := ⟨_, rfl⟩
      obtain ⟨hs32, _, _⟩ := norm_word ys[p + 1] h0 hy32
      rw [← hs'] at hs32
      have hlead := lead32_any (w.drewN n) ((ys[p + 1] : Nat) : Int) (by omega) (by omega)
      rw [Int.toNat_natCast, ← hs'] at hlead
      have hno := fun vs h1 h2 h3 => norm_div ys vs p s hy.1 h1 hp h2 h0 hs' h3
      have HNO := Lib.hid hno
      have HS := Lib.hid hs'
      have i0 : (0 : Int) ≤ (p : Int) := by omega
      have i1 : (p : Int) ≤ 1000000000000 := by omega
      have i4 : (0 : Int) ≤ (p : Int) + 1 := by omega
      have i5 : (p : Int) + 1 < (p : Int) + 2 := by omega
      have w1 : IntKind.i64.wrap ((p : Int) + 2 - 1) = (p : Int) + 1 := by rw [IntKind.wrap_i64]; omega
      have w3 : IntKind.i64.wrap ((p : Int) + 1) = (p : Int) + 1 := by rw [IntKind.wrap_i64]; omega
      have w5 : (p : Int) + 2 - 1 = (p : Int) + 1 := by omega
      clear hno hs' h0 h1
      generalize hyt : ys[p + 1] = yt at *
      clear hyt
      have hb1 : ((((p : Nat) : Int) + 2) == 1) = false := by rw [beq_eq_false_iff_ne]; omega
      have HP := Lib.hid hp
      have HPS := Lib.hid hpos
      have HLW := Lib.hid hlow
      have HLN := Lib.hid hlen
      have HLT := Lib.hid hlt
      clear hlt hlow hlen hpos hne
      rw [hp] at HB
      go_wp2_with fail
      refine hlead.mono ?_
      rintro e w2 ⟨rfl, rfl⟩
      go_wp2_with fail
      refine (left_any _ (fun _ => False) _ ys s (HB.drewN n) (by omega) hs32).mono ?_
      rintro e w2 ⟨gv, vs, rfl, hgv, hrv, hvl, hvs, hvv, hb2⟩
      obtain ⟨hv1, hv2, hv3, hv4, hv5⟩ := HNO.out vs hvs (by omega) hvv
      obtain ⟨q0, hq0⟩ : ∃ q0, q0 = xs.length - (p + 2) := ⟨_, rfl⟩
      have hxl : q0 + (p + 2) = xs.length := by have := HLN.out; omega
      have f1 : (xs.length : Int) - ((p : Int) + 2) = (q0 : Int) := by omega
      have f2 : IntKind.i64.wrap ((xs.length : Int) - ((p : Int) + 2)) = (q0 : Int) := by rw [IntKind.wrap_i64]; omega
      have f3 : IntKind.i64.wrap ((q0 : Int) + 1) = (q0 : Int) + 1 := by rw [IntKind.wrap_i64]; omega
      have k2 := below_undrewN hb2
      have HA2 := HA.below k2
      have hvl2 : vs.length = p + 2 + 1 := by omega
      have HV1 := Lib.hid hv1
      have HV2 := Lib.hid hv2
      have HV3 := Lib.hid hv3
      have HV4 := Lib.hid hv4
      have HV5 := Lib.hid hv5
      have HVL := Lib.hid hvl2
      have HXL := Lib.hid hxl
      have HVV := Lib.hid hvv
      clear hv1 hv2 hv3 hv4 hv5 hvl hvl2 hxl hvv hlead d1 hq0
      go_wp2_with fail
      refine (left_any _ (fun _ => False) _ xs s HA2 (by omega) hs32).mono ?_
      rintro e w3 ⟨gu, us, rfl, hgu, hru, hul, hus, huv, hb3⟩
      have hrv3 := hrv.below hb3
      have k3 := k2.trans (hb3.mono k2.size)
      have hgv2 : w.heap.size ≤ gv := hgv
      have hguv : gv < gu := Nat.lt_of_lt_of_le hrv.lt hgu
      have HUV := Lib.hid huv
      have HUL := Lib.hid hul
      clear huv hul hrv k2 HA2 hb2 hgv
      go_wp2_with (at_make; refine wpList_makeN _ rfl _ _ rfl Try.underlying22 info_u32 rfl w3.heap.size (q0 + 1) rfl rfl (by go_num) (by go_num) (by omega) (by unfold maxLen; omega) (Nat.le_refl _) ?_)
      intro w4 hown hgrow
      have k4' : Below w3.heap.size w3 w4 := below_none (Below.refl _ _) hgrow (Nat.le_refl _)
      rw [nums_zeros] at hown
      have hrq := (Row.of_own hown).1
      have hru4 := hru.below k4'
      have hrv4 := hrv3.below k4'
      have hu3 := hru.lt
      have k4 := k3.trans (k4'.mono k3.size)
      have hq3 : w.heap.size ≤ w3.heap.size := k3.size
      generalize hgq : w3.heap.size = gq at *
      clear hgrow hown hru hrv3 k3 hb3 k4' hgq
      go_wp2_with fail
      go_loopw [12] (fun i wr => ∃ (k : Nat) (uu qs : List Nat), k ≤ q0 + 1 ∧ i = .int .i64 ((k : Int) - 1) ∧ uu.length = xs.length + 1 ∧ Ws uu ∧ Row wr gu uu ∧ qs.length = q0 + 1 ∧ Ws qs ∧ Row wr gq qs ∧ Row wr gv vs ∧ Below w.heap.size w wr ∧ val (uu.drop k) < val ys * 2 ^ s ∧
        val xs * 2 ^ s = val (uu.take k) + 4294967296 ^ k * (val (uu.drop k) + val ys * 2 ^ s * val (qs.drop k))) (fun i _ => (intOf i + 1).toNat)
      case atStart =>
        have h1 := over_start (V := val ys * 2 ^ s) hx.1 (by omega : 0 < p + 2) hs32 HUL.out (by have := HXL.out; omega) hus HUV.out HV3.out
        have e : xs.length - (p + 2) = q0 := by have := HXL.out; omega
        rw [e] at h1
        refine ⟨q0 + 1, us, List.replicate (q0 + 1) 0, Nat.le_refl _, by go_num, HUL.out, hus, hru4, by simp, Ws.replicate _, hrq, hrv4, k4, h1, ?_⟩
        rw [List.drop_of_length_le (by simp : (List.replicate (q0 + 1) 0).length ≤ q0 + 1)]
        show _ = _ + _ * (_ + _ * 0)
        rw [← HUV.out, val_take_drop us (q0 + 1), List.length_take, Nat.min_eq_left (by have := HUL.out; have := HXL.out; omega)]
        rfl
      case round =>
        obtain ⟨k, uu, qs, hk, hi, hul, huu, hru, hql, hqs, hrq5, hrv5, hbr, hdl, hinv⟩ := hrel
        have HUL2 := Lib.hid hul
        have HQL := Lib.hid hql
        have HDL := Lib.hid hdl
        have HINV := Lib.hid hinv
        clear hul hql hdl hinv hrq hru4 hrv4
        by_cases hk0 : k = 0
        · subst hk0
          obtain rfl := hi
          have hdl := HDL.out
          have hinv := HINV.out
          rw [List.drop_zero] at hdl
          rw [List.drop_zero, List.drop_zero, List.take_zero, Nat.pow_zero, Nat.one_mul] at hinv
          have hinv : val xs * 2 ^ s = val uu + val ys * 2 ^ s * val qs := by rw [hinv]; show 0 + _ = _; omega
          obtain ⟨e1, e2⟩ := over_end (n := p + 2) (Nat.le_of_lt HV2.out) HPS.out hdl hinv
          have hwu := (hru.words (X := fun _ => False) huu (fun h => h) (by rw [HUL2.out]; unfold maxLen; omega)).take (k := p + 2) (by rw [HUL2.out]; have := HXL.out; omega)
          rw [HUL2.out] at hwu
          have hl3 : (uu.take (p + 2)).length = p + 2 := by rw [List.length_take, HUL2.out]; have := HXL.out; omega
          have HL3 := Lib.hid hl3
          have E1 := Lib.hid e1
          have E2 := Lib.hid e2
          clear hdl hinv e1 e2 hl3
          go_wp2_with fail
          refine (right_any _ (fun _ => False) _ (uu.take (p + 2)) s hwu (by rw [HL3.out]; omega) hs32).mono ?_
          rintro e w6 ⟨v6, zs, rfl, h6, hzl, hzv, hb6⟩
          have hrq6 := hrq5.below hb6
          have hwq := hrq6.words (X := X) hqs (fun h => by have := hX _ h; omega) (by rw [HQL.out]; unfold maxLen; omega)
          rw [HQL.out] at hwq
          have HZL := Lib.hid hzl
          have HZV := Lib.hid hzv
          clear hzl hzv hrq6
          go_wp2_with fail
          go_ret2
          exact ⟨_, _, qs, zs, rfl, hwq, h6.weak (fun b _ h => by have := hX _ h; have := hbr.size; show b < _; omega), E1.out, by rw [HZV.out]; exact E2.out, by rw [HQL.out]; have := HXL.out; omega, by rw [HZL.out, HL3.out]; have := HXL.out; omega, hbr.trans (hb6.mono hbr.size)⟩
        · obtain ⟨j, rfl⟩ : ∃ j, k = j + 1 := ⟨k - 1, by omega⟩
          obtain rfl := hi.trans (show Value.int .i64 (((j + 1 : Nat) : Int) - 1) = .int .i64 (j : Int) by congr 1; omega)
          clear hi
          have j1 : (0 : Int) ≤ (j : Int) := by omega
          have j2 : (j : Int) < (q0 : Int) + 1 := by omega
          have j3 : (j : Int) + ((p : Int) + 2) + 1 ≤ (xs.length : Int) + 1 := by have := HXL.out; omega
          have j4 : ¬ xs.length + 1 = j := by have := HXL.out; omega
          have hjn : j + (p + 2) < uu.length := by rw [HUL2.out]; have := HXL.out; omega
          obtain ⟨w1', w2', w3', w4'⟩ := over_window (n := p + 2) huu hjn (Nat.le_of_lt HV2.out) HDL.out
          have hwv := (hrv5.words (X := fun b => b = gu) hvs (by show ¬ gv = gu; omega) (by rw [HVL.out]; unfold maxLen; omega)).take (k := p + 2) (by rw [HVL.out]; omega)
          rw [HVL.out] at hwv
          have hdig := digit_any wr gu j p (xs.length + 1 - j) uu (vs.take (p + 2)) _ hru huu hwv HV4.out hjn (by rw [HUL2.out]; omega) (HV5.out (by rw [HV4.out]; omega)) (by rw [w1', HV1.out]; exact w2')
          rw [HV1.out] at hdig
          have HJN := Lib.hid hjn
          clear w1' w2' w3' w4' hwv
          clear hjn
          go_wp2_with fail
          rw [(by omega : j + (p + 2) + 1 - j = p + 2 + 1)]
          refine hdig.mono ?_
          rintro e w5 ⟨uu2, rfl, hru2, huu2, hl2, hsame, hseg, hgr⟩
          have hkp := keep_grown (X := fun b => b = gu) hgr rfl
          have hrq6 : Row w5 gq qs := Loc.keep hrq5 hkp (by show ¬ gq = gu; omega)
          have hrv6 : Row w5 gv vs := Loc.keep hrv5 hkp (by show ¬ gv = gu; omega)
          have hstep := over_step huu HJN.out (Nat.le_of_lt HV2.out) (Nat.mul_pos HPS.out (Nat.pow_pos (by omega))) HDL.out hl2 hsame hseg (by rw [HQL.out]; omega) HINV.out
          obtain ⟨hs1, hs2⟩ := hstep
          obtain ⟨q, hq⟩ : ∃ q, seg uu j (p + 2 + 1) / (val ys * 2 ^ s) = q := ⟨_, rfl⟩
          rw [hq] at hs2
          rw [hq]
          have hq32 : q < 4294967296 := by
            rw [← hq, Nat.div_lt_iff_lt_mul (Nat.mul_pos HPS.out (Nat.pow_pos (by omega)))]
            obtain ⟨w1', w2', _, _⟩ := over_window (n := p + 2) huu HJN.out (Nat.le_of_lt HV2.out) HDL.out
            rw [w1']; exact w2'
          have cq := hrq6.cell (k := j) (by rw [HQL.out]; omega)
          have fq := hrq6.frz j
          have hb5 := below_grown hbr hgr hbr.size (by omega)
          have HS1 := Lib.hid hs1
          have HS2 := Lib.hid hs2
          have HL2 := Lib.hid hl2
          clear hs1 hs2 hl2 hsame hseg hq hdig
          go_wp2_with fail
          go_roundw
          case rel =>
            exact ⟨j, uu2, qs.set j q, by omega, by go_num, by rw [HL2.out, HUL2.out], huu2, Loc.far hru2 (show gu ≠ gq by omega) _, by simpa using HQL.out, hqs.set _ _ hq32, hrq6.set j q, Loc.far hrv6 (show gv ≠ gq by omega) _, hb5.setCell (by show w.heap.size ≤ gq; omega) _, HS1.out, HS2.out⟩
          case measure => simp only [intOf]; omega
end Go.Proofs.Ytooheapikhdllaa

/- times: the product of two magnitudes. -/
namespace Go.Proofs.Ytooheapikhdllaa
open Go.RowKit

set_option maxHeartbeats 1000000 in
theorem times_any (w : World) (X : Nat → Prop) (va vb : Value) (xs ys : List Nat) (ha : Words w X va xs) (hb : Words w X vb ys) (hs : xs.length ≤ 1099511627776) (ht : ys.length ≤ 1099511627776) :
    Calls Try.prog 105 #[va, vb] w fun e w' => ∃ v' zs, e = .returned v' ∧ Words w' (Old w) v' zs ∧ val zs = val xs * val ys ∧ zs.length = xs.length + ys.length ∧ Below w.heap.size w w' := by
  obtain ⟨A, c, rfl, hc, _, HA⟩ := ha.open_
  obtain ⟨B, d, rfl, hd, _, HB⟩ := hb.open_
  obtain ⟨N, hN⟩ : ∃ N, N = xs.length + ys.length := ⟨_, rfl⟩
  have HN := Lib.hid hN
  have hN1 : N ≤ xs.length + ys.length := by omega
  have hN2 : xs.length + ys.length ≤ N := by omega
  clear hN
  go_enter Try.func105, Try.ntmps105
  go_wp2_with (at_make; refine wpList_makeN _ rfl _ _ rfl Try.underlying22 info_u32 rfl w.heap.size N rfl rfl (by omega) (by omega) (by omega) (by unfold maxLen; omega) (Nat.le_refl _) ?_)
  intro w1 hown hgrow
  have hb1 : Below w.heap.size w w1 := below_none (Below.refl _ _) hgrow (Nat.le_refl _)
  rw [nums_zeros] at hown
  clear hgrow
  go_wp2_with fail
  go_loopw [19] (fun i wr => ∃ (k : Nat) (zs : List Nat), k ≤ xs.length ∧ i = .int .i64 k ∧ zs.length = N ∧ wr.ownsRow w.heap.size 82 1 (.slice (some ⟨w.heap.size, 0, none⟩) N N) N (nums .u32 zs) ∧ Ws zs ∧
      val zs = val (xs.take k) * val ys ∧ (∀ t, k + ys.length ≤ t → (h : t < zs.length) → zs[t] = 0) ∧ Below w.heap.size w wr) (fun i _ => xs.length - (intOf i).toNat)
  case atStart => exact ⟨0, List.replicate N 0, by omega, rfl, by simp, hown, Ws.replicate _, by simp [val_replicate], by simp, hb1⟩
  case round =>
    obtain ⟨k, zs, hk, rfl, hzl, hown', hws, hval, hzero, hbr⟩ := hrel
    have Hval := Lib.hid hval
    have Hzl := Lib.hid hzl
    have Hzero := Lib.hid hzero
    have hsz := hbr.size
    clear hval hzl hown hzero
    have HPr := HA.below hbr
    have HQr := HB.below hbr
    by_cases hlt : k < xs.length
    · obtain ⟨a, rfl, _, _, hca⟩ := HPr.at_ hlt
      have bx := HA.lt hlt
      go_wp2_with fail
      obtain ⟨wo, rfl⟩ : ∃ wo : World, wo = wr := ⟨_, rfl⟩
      go_loopw [8, 26] (fun cr j wr => ∃ (m : Nat) (zs : List Nat) (cy : Nat), m ≤ ys.length ∧ j = .int .i64 m ∧ cr = .int .u64 cy ∧ cy < 4294967296 ∧ zs.length = N ∧ wr.ownsRow w.heap.size 82 1 (.slice (some ⟨w.heap.size, 0, none⟩) N N) N (nums .u32 zs) ∧ Ws zs ∧
        val zs + 4294967296 ^ (k + m) * cy = val (xs.take k) * val ys + 4294967296 ^ k * (xs[k] * val (ys.take m)) ∧ (∀ t, k + ys.length ≤ t → (h : t < zs.length) → zs[t] = 0) ∧ Below w.heap.size w wr) (fun _ j _ => ys.length - (intOf j).toNat)
      case atStart => exact ⟨0, zs, 0, by omega, rfl, rfl, by omega, Hzl.out, hown', hws, by simpa using Hval.out, Hzero.out, hbr⟩
      case round =>
        obtain ⟨m, zs1, cy, hm, rfl, rfl, hcy, hzl1, hown1, hws1, hval1, hzero1, hbr1⟩ := hrel
        have Hval1 := Lib.hid hval1
        have Hzl1 := Lib.hid hzl1
        have Hzero1 := Lib.hid hzero1
        have hsz1 := hbr1.size
        clear hval1 hzl1 hzero1 hown'
        have HQ1 := HB.below hbr1
        by_cases hlm : m < ys.length
        · obtain ⟨q, rfl, _, _, hcq⟩ := HQ1.at_ hlm
          have bq := HB.lt hlm
          have hp : k + m < zs1.length := by have := Hzl1.out; omega
          have bz := hws1.get hp
          have hcO : wr.cell? ⟨w.heap.size, k + m, none⟩ = some (.int .u32 ((zs1[k + m] : Nat) : Int)) := (hown1.cellAt (k + m) (by omega)).trans (nums_get _)
          have hfO := hown1.frozenAt (k + m)
          have m1 : ((xs[k] : Nat) : Int) * ((ys[m] : Nat) : Int) ≤ 18446744065119617025 := mul_lt_sq' _ _ bx bq
          have m0 : 0 ≤ ((xs[k] : Nat) : Int) * ((ys[m] : Nat) : Int) := Int.mul_nonneg (by omega) (by omega)
          go_wp2_with fail
          go_roundw
          case rel =>
            obtain ⟨s, hs⟩ : ∃ s, s = cy + xs[k] * ys[m] + zs1[k + m] := ⟨_, rfl⟩
            have es : ((cy : Nat) : Int) + (((xs[k] : Nat) : Int) * ((ys[m] : Nat) : Int) + ((zs1[k + m] : Nat) : Int)) = (s : Int) := by rw [hs]; push_cast; omega
            have bs : s ≤ 18446744073709551615 := by omega
            rw [es] at *
            have hst := (hown1.stored (k + m) (.int .u32 ((s % 4294967296 : Nat) : Int))).1
            rw [nums_set] at hst
            have hv := mul_step zs1 (k + m) s cy _ hp Hval1.out (xs[k] * ys[m]) hs
            refine ⟨m + 1, zs1.set (k + m) (s % 4294967296), s / 4294967296, by omega, by go_num, by go_num, by omega, by simpa using Hzl1.out, ?_, hws1.set _ _ (by omega), by rw [pow_mul_take k m xs[k] ys hlm, ← Nat.add_assoc k m 1, hv, Nat.add_assoc], fun t h1 h2 => ?_, hbr1.setCell (Nat.le_refl _) _⟩
            · exact hst
            · rw [List.getElem_set_ne (by omega)]
              exact Hzero1.out t h1 (by simpa using h2)
          case measure => simp [intOf]; omega
        · obtain rfl : m = ys.length := by omega
          have hp : k + ys.length < zs1.length := by have := Hzl1.out; omega
          have hcO : wr.cell? ⟨w.heap.size, k + ys.length, none⟩ = some (.int .u32 ((zs1[k + ys.length] : Nat) : Int)) := (hown1.cellAt _ (by omega)).trans (nums_get _)
          have hfO := hown1.frozenAt (k + ys.length)
          go_wp2_with fail
          go_roundw
          case rel =>
            have hst := (hown1.stored (k + ys.length) (.int .u32 (cy : Nat))).1
            rw [nums_set] at hst
            have hv := mul_end zs1 (k + ys.length) cy _ hp (Hzero1.out _ (Nat.le_refl _) hp) Hval1.out
            rw [List.take_length, ← mul_take_succ xs k (val ys) hlt] at hv
            refine ⟨k + 1, zs1.set (k + ys.length) cy, by omega, by go_num, by simpa using Hzl1.out, hst, hws1.set _ _ hcy, hv, fun t h1 h2 => ?_, hbr1.setCell (Nat.le_refl _) _⟩
            rw [List.getElem_set_ne (by omega)]
            exact Hzero1.out t (by omega) (by simpa using h2)
          case measure => simp [intOf]; omega
    · obtain rfl : k = xs.length := by omega
      go_wp2_with fail
      go_ret
      have hv := Hval.out
      rw [List.take_length] at hv
      rw [← Hzl.out] at hown'
      exact ⟨_, zs, by rw [← Hzl.out]; rfl, Words.of_own hown' hws (fun b h1 _ _ => by unfold Old; omega), hv, by rw [Hzl.out, HN.out], hbr⟩
end Go.Proofs.Ytooheapikhdllaa

/- Clean, Neg, Abs, Sign, Valid, Mul of package integer. -/
namespace Go.Proofs.Ytooheapikhdllaa
open Go.RowKit
attribute [local go_sem ↓] Go.wp_at_zero Go.wp_at_succ

set_option maxHeartbeats 1000000 in
theorem mul_any (w : World) (X : Nat → Prop) (v1 v2 : Value) (n1 n2 : Bool) (xs ys : List Nat) (h1 : IntR w X v1 n1 xs) (h2 : IntR w X v2 n2 ys) (hs1 : xs.length ≤ 1099511627776) (hs2 : ys.length ≤ 1099511627776) :
    Calls Try.prog 80 #[v1, v2] w fun e w' => ∃ v', e = .returned v' ∧ IntV w' (Old w) v' (sv n1 xs * sv n2 ys) ∧ Below w.heap.size w w' := by
  obtain ⟨A, c, rfl, _, _, H1⟩ := h1.open_
  obtain ⟨B, d, rfl, _, _, H2⟩ := h2.open_
  go_enter Try.func80, Try.ntmps80
  go_wp2_with fail
  have KS := boxes3 w #[.bool n1, .slice A xs.length c] #[.bool n2, .slice B ys.length d] #[.bool false, .slice none 0 0] 24 24 24
  go_region_held3 (fun w' => w'.cell? ⟨w.heap.size, 0, none⟩ = some (.bool n1) ∧ w'.cell? ⟨w.heap.size, 1, none⟩ = some (.slice A xs.length c) ∧ w'.cell? ⟨w.heap.size + 1, 0, none⟩ = some (.bool n2) ∧ w'.cell? ⟨w.heap.size + 1, 1, none⟩ = some (.slice B ys.length d))
    (first | (refine (fun K => ⟨K.1.cell 0, K.1.cell 1, K.2.cell 0, K.2.cell 1⟩) (KS.out _ ?_); first | exact hbs.mono (by simp) | exact hbt.mono (by simp) | exact ((hbs.mono (by simp)).setCell (by simp) _).setCell (by simp) _) | go_keep)
    (first
      | (go_at_call_of 90 (Value.slice A xs.length c); refine (trim_any _ X (.slice A xs.length c) xs (by exact H1.below (below3 _ _ _ _).drew)).mono ?_; rintro e w' ⟨va, rfl, ha, rfl⟩)
      | (go_at_call_of 90 (Value.slice B ys.length d); refine (trim_any _ X (.slice B ys.length d) ys (by exact H2.below (below3 _ _ _ _).drew)).mono ?_; rintro e w' ⟨vb, rfl, hb, rfl⟩)
      | (go_at_call 105; refine (times_any _ X va vb (trimL xs) (trimL ys) ha hb (by have := trimL_len xs; omega) (by have := trimL_len ys; omega)).mono ?_; rintro e w2 ⟨vt, zs, rfl, ht, hv, hl, hb2⟩; have HV := Lib.hid hv; have HL := Lib.hid hl; clear hv hl; have hbt := below_undrew hb2; have hst := (locs3 hbt).2.2.2.2)
      | (go_at_call 91; refine (signed_any _ _ _ vt zs ht (by have := HL.out; have := trimL_len xs; have := trimL_len ys; omega)).mono ?_; rintro e w3 ⟨vs, rfl, hs, hb3⟩; have hbs := hbt.trans (hb3.mono hbt.size); rw [sv_mul n1 n2 (trimL xs) (trimL ys) zs HV.out, sv_trim, sv_trim] at hs; obtain ⟨As, cs, rfl, _, _, Hs⟩ := hs.open_; obtain ⟨La, Lb, Lr, hB, hsz⟩ := locs3 hbs; have cc := Lr.cell; have cf := Lr.frz))
  all_goals
    go_wp2_with fail
    refine bodyPost_ret (by simp [results, Try.results80, go_sem, cc, cf] <;> rfl) rfl ⟨_, rfl, IntV.stored hs (by simp [Old]; omega) _ _ (by intro b _; simp [Old]; omega), below_set2 hB (by omega) _ _⟩
end Go.Proofs.Ytooheapikhdllaa

/- plus: the sum of two magnitudes. -/
namespace Go.Proofs.Ytooheapikhdllaa
open Go.RowKit

set_option maxRecDepth 20000 in
set_option maxHeartbeats 1000000 in
theorem plus_any (w : World) (X : Nat → Prop) (va vb : Value) (xs ys : List Nat) (ha : Words w X va xs) (hb : Words w X vb ys) (hs : xs.length ≤ 1099511627776) (ht : ys.length ≤ 1099511627776) :
    Calls Try.prog 106 #[va, vb] w fun e w' => ∃ v' zs, e = .returned v' ∧ Words w' (Old w) v' zs ∧ val zs = val xs + val ys ∧ zs.length ≤ xs.length + ys.length + 1 ∧ Below w.heap.size w w' := by
  obtain ⟨i0, hi, hz0, hz1, hz2⟩ := info_parts info_u32
  obtain ⟨A, c, rfl, hc, _, HA⟩ := ha.open_
  obtain ⟨B, d, rfl, hd, _, HB⟩ := hb.open_
  go_enter Try.func106, Try.ntmps106
  go_upto_if 13 with fail
  go_cut [0, 1] (fun p q wx => w = wx ∧ ∃ P Q A' c' B' d', p = .slice A' (List.length P) c' ∧ q = .slice B' (List.length Q) d' ∧ Words w X p P ∧ Words w X q Q ∧ Q.length ≤ P.length ∧ P.length ≤ xs.length + ys.length ∧ P.length ≤ 1099511627776 ∧ val P + val Q = val xs + val ys)
  case first =>
    by_cases hl : xs.length < ys.length
    all_goals
      go_wp2_with fail
      go_meet
      case rel => first | exact ⟨rfl, ys, xs, B, d, A, c, rfl, rfl, HB, HA, by omega, by omega, by omega, by omega⟩ | exact ⟨rfl, xs, ys, A, c, B, d, rfl, rfl, HA, HB, by omega, by omega, by omega, by omega⟩
  case rest =>
    obtain ⟨rfl, P, Q, A', c', B', d', rfl, rfl, HP, HQ, hQP, hPl, hPm, hsum⟩ := hcut
    have Hsum := Lib.hid hsum
    clear hsum
    go_wp2_with (at_make; refine wpList_make0 _ rfl _ _ rfl Try.underlying22 info_u32 w.heap.size (P.length + 1) rfl rfl (by omega) (by omega) (by unfold maxLen; omega) (by omega) ?_)
    intro w1 hown hgrow
    have hb1 : Below w.heap.size w w1 := below_none (Below.refl _ _) hgrow (Nat.le_refl _)
    clear hgrow
    go_wp2_with fail
    go_loopw [5, 6, 22] (fun o cr i wr => ∃ (k : Nat) (zs : List Nat) (cy : Nat), k ≤ P.length ∧ i = .int .i64 k ∧ cr = .int .u64 cy ∧ cy ≤ 1 ∧ zs.length = k ∧ wr.ownsRow w.heap.size 82 1 o zs.length (nums .u32 zs) ∧ Ws zs ∧
      val zs + 4294967296 ^ k * cy = val (P.take k) + val (Q.take k) ∧ Below w.heap.size w wr) (fun _ _ i _ => P.length - (intOf i).toNat)
    case atStart => exact ⟨0, [], 0, by omega, rfl, rfl, by omega, rfl, by simpa [nums] using hown, Ws.nil, by simp, hb1⟩
    case round =>
      obtain ⟨k, zs, cy, hk, rfl, rfl, hcy, hzl, hown', hws, hval, hbr⟩ := hrel
      have Hval := Lib.hid hval
      have Hzl := Lib.hid hzl
      have hzb : zs.length ≤ 1099511627776 := by omega
      have hsz := hbr.size
      clear hval hzl hown
      have HPr := HP.below hbr
      have HQr := HQ.below hbr
      by_cases hlt : k < P.length
      · obtain ⟨a, rfl, _, _, hca⟩ := HPr.at_ hlt
        have bx := HP.lt hlt
        by_cases hq : k < Q.length
        · obtain ⟨b, rfl, _, _, hcb⟩ := HQr.at_ hq
          have bq := HQ.lt hq
          go_wp2_with (at_builtin; refine wpList_push _ rfl _ _ rfl Try.underlying22 info_u32 rfl w.heap.size _ _ _ rfl (hown'.alloc _) _ _ rfl (heap_alloc_new wr _) rfl (by omega) (by unfold maxLen; omega) (by simp; omega) ?_)
          intro v2 w2 hown2 hg2 _
          have hb2 := below_own (hbr.alloc hsz _) (hown'.alloc _) hg2 (Nat.le_refl _) (by simp; omega)
          go_wp2_with fail
          go_roundw
          case rel =>
            rw [nums_snoc' _ _ _ ((cy + P[k] + Q[k]) % 4294967296) (by omega)] at hown2
            exact ⟨k + 1, zs ++ [(cy + P[k] + Q[k]) % 4294967296], (cy + P[k] + Q[k]) / 4294967296, by omega, by go_num, by go_num, by omega, by simp [Hzl.out], by simpa using hown2, Ws.append.2 ⟨hws, by simp [Ws]; omega⟩, add_step zs P Q k cy Hzl.out Hval.out hlt hq, hb2⟩
          case measure => simp [intOf]; omega
        · go_wp2_with (at_builtin; refine wpList_push _ rfl _ _ rfl Try.underlying22 info_u32 rfl w.heap.size _ _ _ rfl (hown'.alloc _) _ _ rfl (heap_alloc_new wr _) rfl (by omega) (by unfold maxLen; omega) (by simp; omega) ?_)
          intro v2 w2 hown2 hg2 _
          have hb2 := below_own (hbr.alloc hsz _) (hown'.alloc _) hg2 (Nat.le_refl _) (by simp; omega)
          go_wp2_with fail
          go_roundw
          case rel =>
            rw [nums_snoc' _ _ _ ((cy + P[k]) % 4294967296) (by omega)] at hown2
            exact ⟨k + 1, zs ++ [(cy + P[k]) % 4294967296], (cy + P[k]) / 4294967296, by omega, by go_num, by go_num, by omega, by simp [Hzl.out], by simpa using hown2, Ws.append.2 ⟨hws, by simp [Ws]; omega⟩, add_step1 zs P Q k cy Hzl.out Hval.out hlt (by omega), hb2⟩
          case measure => simp [intOf]; omega
      · go_wp2_with (at_builtin; refine wpList_push _ rfl _ _ rfl Try.underlying22 info_u32 rfl w.heap.size _ _ _ rfl (hown'.alloc _) _ _ rfl (heap_alloc_new wr _) rfl (by omega) (by unfold maxLen; omega) (by simp; omega) ?_)
        intro v2 w2 hown2 hg2 _
        have hb2 := below_own (hbr.alloc hsz _) (hown'.alloc _) hg2 (Nat.le_refl _) (by simp; omega)
        go_wp2_with fail
        go_ret
        rw [nums_snoc' _ _ _ (cy % 4294967296) (by omega)] at hown2
        refine ⟨_, zs ++ [cy % 4294967296], rfl, Words.of_own (by simpa using hown2) (Ws.append.2 ⟨hws, by simp [Ws]; omega⟩) (fun b h1 _ _ => by unfold Old; omega), ?_, by have := Hzl.out; simp; omega, hb2⟩
        have h1 := Hval.out
        rw [List.take_of_length_le (by omega), List.take_of_length_le (by omega)] at h1
        rw [val_snoc, Hzl.out, Nat.mod_eq_of_lt (by omega), h1, Hsum.out]
end Go.Proofs.Ytooheapikhdllaa

/- minus: the difference of two magnitudes. -/
namespace Go.Proofs.Ytooheapikhdllaa
open Go.RowKit

set_option maxHeartbeats 1000000 in
theorem minus_any (w : World) (X : Nat → Prop) (va vb : Value) (xs ys : List Nat) (ha : Words w X va xs) (hb : Words w X vb ys) (hs : xs.length ≤ 1099511627776) (hle : val ys ≤ val xs) (hlen : ys.length ≤ xs.length) :
    Calls Try.prog 107 #[va, vb] w fun e w' => ∃ v' zs, e = .returned v' ∧ Words w' (Old w) v' zs ∧ val zs = val xs - val ys ∧ zs.length = xs.length ∧ Below w.heap.size w w' := by
  obtain ⟨A, c, rfl, hc, _, HA⟩ := ha.open_
  obtain ⟨B, d, rfl, hd, _, HB⟩ := hb.open_
  have Hle := Lib.hid hle
  clear hle
  go_enter Try.func107, Try.ntmps107
  go_wp2_with (at_make; refine wpList_makeN _ rfl _ _ rfl Try.underlying22 info_u32 rfl w.heap.size xs.length rfl rfl rfl rfl (by omega) (by unfold maxLen; omega) (Nat.le_refl _) ?_)
  intro w1 hown hgrow
  have hb1 : Below w.heap.size w w1 := below_none (Below.refl _ _) hgrow (Nat.le_refl _)
  rw [nums_zeros] at hown
  clear hgrow
  go_wp2_with fail
  go_loopw [6, 15] (fun br i wr => ∃ (k : Nat) (zs : List Nat) (b : Nat), k ≤ xs.length ∧ i = .int .i64 k ∧ br = .int .u32 b ∧ b ≤ 1 ∧ zs.length = xs.length ∧ wr.ownsRow w.heap.size 82 1 (.slice (some ⟨w.heap.size, 0, none⟩) xs.length xs.length) xs.length (nums .u32 zs) ∧ Ws zs ∧
      val (zs.take k) + val (ys.take k) = val (xs.take k) + 4294967296 ^ k * b ∧ Below w.heap.size w wr) (fun _ i _ => xs.length - (intOf i).toNat)
  case atStart => exact ⟨0, List.replicate xs.length 0, 0, by omega, rfl, rfl, by omega, by simp, hown, Ws.replicate _, by simp, hb1⟩
  case round =>
    obtain ⟨k, zs, b, hk, rfl, rfl, hbb, hzl, hown', hws, hval, hbr⟩ := hrel
    have Hval := Lib.hid hval
    have Hzl := Lib.hid hzl
    have hsz := hbr.size
    clear hval hzl hown
    have HPr := HA.below hbr
    have HQr := HB.below hbr
    by_cases hlt : k < xs.length
    · obtain ⟨a, rfl, _, _, hca⟩ := HPr.at_ hlt
      have bx := HA.lt hlt
      have hcO : wr.cell? ⟨w.heap.size, k, none⟩ = some (.int .u32 ((zs[k]'(by have := Hzl.out; omega) : Nat) : Int)) := (hown'.cellAt k (by omega)).trans (nums_get _)
      have hfO := hown'.frozenAt k
      by_cases hq : k < ys.length
      · obtain ⟨q, rfl, _, _, hcb⟩ := HQr.at_ hq
        have bq := HB.lt hq
        go_wp2_with (go_at_call 121; refine (sub32_any _ _ _ _ bx bq hbb).mono ?_; rintro e w' ⟨rfl, rfl⟩)
        go_roundw
        case rel =>
          have hst := (hown'.stored k (.int .u32 (dif xs[k] ys[k] b : Nat))).1
          rw [nums_set] at hst
          have hv := sub_step zs xs k (dif xs[k] ys[k] b) xs[k] ys[k] b (bor xs[k] ys[k] b) (val (ys.take k)) (by have := Hzl.out; omega) hlt rfl (dif_bor _ _ _ bx bq hbb) Hval.out
          rw [← val_take_succ ys k hq] at hv
          exact ⟨k + 1, zs.set k (dif xs[k] ys[k] b), bor xs[k] ys[k] b, by omega, by go_num, rfl, bor_le _ _ _, by simpa using Hzl.out, hst, hws.set _ _ (dif_lt _ _ _), hv, hbr.setCell (Nat.le_refl _) _⟩
        case measure => simp [intOf]; omega
      · go_wp2_with (go_at_call 121; refine (sub32_any _ _ 0 _ bx (by omega) hbb).mono ?_; rintro e w' ⟨rfl, rfl⟩)
        go_roundw
        case rel =>
          have hst := (hown'.stored k (.int .u32 (dif xs[k] 0 b : Nat))).1
          rw [nums_set] at hst
          have hv := sub_step zs xs k (dif xs[k] 0 b) xs[k] 0 b (bor xs[k] 0 b) (val (ys.take k)) (by have := Hzl.out; omega) hlt rfl (dif_bor _ _ _ bx (by omega) hbb) Hval.out
          rw [Nat.mul_zero, Nat.add_zero, ← val_take_more ys k (by omega)] at hv
          exact ⟨k + 1, zs.set k (dif xs[k] 0 b), bor xs[k] 0 b, by omega, by go_num, rfl, bor_le _ _ _, by simpa using Hzl.out, hst, hws.set _ _ (dif_lt _ _ _), hv, hbr.setCell (Nat.le_refl _) _⟩
        case measure => simp [intOf]; omega
    · go_wp2_with fail
      go_ret
      obtain rfl : k = xs.length := by omega
      have hv := Hval.out
      rw [List.take_of_length_le (by have := Hzl.out; omega), List.take_of_length_le (by omega), List.take_of_length_le (by omega)] at hv
      have hend := sub_end zs xs ys b hws Hzl.out Hle.out hv
      rw [← Hzl.out] at hown'
      exact ⟨_, zs, by rw [← Hzl.out]; rfl, Words.of_own hown' hws (fun b h1 _ _ => by unfold Old; omega), hend.1, Hzl.out, hbr⟩
end Go.Proofs.Ytooheapikhdllaa

