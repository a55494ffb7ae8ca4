/- Text of package integer. -/
import Derived.Test.YtlbgnndjacagkaaRows
import Derived.Test.YtlbgnndjacagkaaInt5
import Derived.Test.YtlbgnndjacagkaaRev
import Derived.Test.YtlbgnndjacagkaaDec
import Derived.Deep.LoopGhost
import Derived.Deep.DeepCutAuto
import Derived.Laws.IdiomStrings
namespace Go.Proofs.Ytlbgnndjacagkaa
open Go.RowKit

theorem info_u8 : (Try.prog.info? 5).map (fun i => (i.zero, i.size, i.bytes)) = some (some (.int .u8 0), 1, 1) := by kernel_rfl

/-- string(b), b an owned row of bytes. -/
theorem conv_own {w : World} {base g n cap : Nat} {xs : List Nat} (h : w.ownsRow base 5 1 (.slice (some ⟨g, 0, none⟩) n cap) n (nums .u8 xs)) (hx : ∀ x ∈ xs, x < 256) (hl : xs.length = n) :
    (convert 54 9 (.slice (some ⟨g, 0, none⟩) n cap)).run Try.prog w = .ok (.string ⟨(bytesOf xs).toArray⟩) w := by
  have h1 := run_convert_bytes_back (P := Try.prog) w 54 9 5 ⟨g, 0, none⟩ cap (bytesOf xs) Try.underlying54 Try.underlying5 Try.underlying9 (fun j hj => by
    have hj' : j < xs.length := by simpa using hj
    have hadd : (⟨g, 0, none⟩ : Addr).add j = ⟨g, j, none⟩ := by unfold Addr.add; split <;> simp_all
    rw [hadd, h.cellAt j (by omega), nums_get hj', bytesOf_get xs j hj' hx])
  rw [bytesOf_length, hl] at h1
  exact h1

set_option maxHeartbeats 4000000 in
theorem text_any (w : World) (X : Nat → Prop) (v : Value) (neg : Bool) (xs : List Nat) (h : IntR w X v neg xs) (hsz : xs.length ≤ 1000000000) :
    Calls Try.prog 33 #[v] w fun e w' => e = .returned (.string ⟨(textB (sv neg xs)).toArray⟩) ∧ Below w.heap.size w w' := by
  obtain ⟨A, c, rfl, h1, h2, H⟩ := h.open_
  have hcan := can_trimL H.2
  have hval := val_trimL xs
  have hlen := trimL_len xs
  by_cases h0 : trimL xs = []
  · have ht : textB (sv neg xs) = [48] := by
      have : val xs = 0 := by rw [← hval, h0]; rfl
      unfold textB sv; rw [this]; cases neg <;> simp
    have HT := Lib.hid ht
    have HN := Lib.hid h0
    clear ht h0 hval hlen hcan
    go_enter Try.func33, Try.ntmps33
    go_wp2_with fail
    refine (trim_any _ X _ xs (H.below (below1 _ _))).mono ?_
    rintro e w' ⟨v1, rfl, hv1, rfl⟩
    rw [HN.out] at hv1
    obtain ⟨A1, c1, rfl, _, _, _⟩ := hv1.open_
    go_wp2_with fail
    go_ret
    exact ⟨ret_eq (by rw [HT.out]; rfl), below1 _ _⟩
  · have hl : 0 < (trimL xs).length := List.length_pos_iff.2 h0
    have hlb : (((trimL xs).length : Int) == 0) = false := by rw [beq_eq_false_iff_ne]; omega
    have hpos : 0 < val xs := by rw [← hval]; exact hcan.pos h0
    have HV := Lib.hid hval
    have HP := Lib.hid hpos
    clear hval h0 hpos
    go_enter Try.func33, Try.ntmps33
    go_wp2_with fail
    refine (trim_any _ X _ xs (H.below (below1 _ _))).mono ?_
    rintro e w' ⟨v1, rfl, hv1, rfl⟩
    obtain ⟨A1, c1, rfl, _, _, H1⟩ := hv1.open_
    go_wp2_with fail
    go_loopg [3, 4] (val xs + 1) (fun gk wv o wr => ∃ (ws ds : List Nat), Words wr (fun b => o.ownBlock = some b) wv ws ∧ Can ws ∧ ws.length ≤ xs.length ∧ wr.ownsRow (w.heap.size + 1) 5 1 o ds.length (nums .u8 (chars ds)) ∧ Ds ds ∧
      dval ds + 10 ^ ds.length * val ws = val xs ∧ ds.length ≤ 11 * xs.length + 9 ∧ (ds = [] → ws ≠ []) ∧ gk = val ws + 1 ∧ Below (w.heap.size + 1) (w.alloc (.cells #[.bool neg, .slice A xs.length c] 24)) wr)
    case atStart => exact ⟨trimL xs, [], H1.weak (by simp [Value.ownBlock]), hcan, hlen, World.ownsRow_nil _ _ _ _, by simp [Ds], by simpa using HV.out, by simp, fun _ => by intro e; rw [e] at hl; simp at hl, by rw [HV.out], Below.refl _ _⟩
    case round =>
      obtain ⟨ws, ds, hw, hcw, hwl, hown, hds, hval, hdl, hne, hgk, hbr⟩ := hrel
      clear hlb hl
      have HD := Lib.hid hval
      have HG := Lib.hid hgk
      have HC := Lib.hid hcw
      have HNE := Lib.hid hne
      have hsz1 := hbr.size
      clear hval hgk hcw hne
      obtain ⟨A2, c2, rfl, _, _, hw⟩ := hw.open_
      by_cases hlt : 0 < ws.length
      · have hb10 : ds.length ≤ 11 * xs.length := by
          refine pow10_bound _ _ (Nat.lt_of_le_of_lt ?_ (val_lt H.2))
          have h1 := HC.out.pos (List.length_pos_iff.1 hlt)
          have h2 := HD.out
          have : 10 ^ ds.length * 1 ≤ 10 ^ ds.length * val ws := Nat.mul_le_mul_left _ h1
          omega
        go_wp2_with fail
        refine (short_any _ _ _ ws 1000000000 hw (by omega) (by omega) (by omega)).mono ?_
        rintro e w2 ⟨vq, qs, r, rfl, hq, hqv, hrv, hql, hb2⟩
        have HQ := Lib.hid hqv
        have HR := Lib.hid hrv
        have HL := Lib.hid hql
        clear hqv hrv hql
        obtain ⟨A3, c3, rfl, _, _, hq⟩ := hq.open_
        go_wp2_with fail
        refine (trim_any _ _ _ qs hq).mono ?_
        rintro e w' ⟨v3, rfl, h3, rfl⟩
        obtain ⟨A4, c4, rfl, _, _, h3⟩ := h3.open_
        have h3w : Words w2 (fun b => u4.ownBlock = some b) (.slice A4 (trimL qs).length c4) (trimL qs) := h3.weak fun b _ hb => (hown.lt b hb).2
        have hown2 := ownsRow_below hown hb2
        have hbr2 : Below (w.heap.size + 1) (w.alloc (.cells #[.bool neg, .slice A xs.length c] 24)) w2 := hbr.trans (hb2.mono (by simpa using hsz1))
        have hcan3 := can_trimL hq.2
        have hval3 := val_trimL qs
        have hlen3 := trimL_len qs
        have HV3 := Lib.hid hval3
        have HC3 := Lib.hid hcan3
        clear hval3 hcan3 hb2 hown hbr hw hq h3
        generalize trimL qs = ts at *
        go_wp2_with fail
        go_loopw [4, 6, 23] (fun ov rv iv wx => ∃ (j : Nat) (es : List Nat) (r' : Nat), j ≤ 9 ∧ iv = .int .i64 j ∧ rv = .int .u32 r' ∧ r' < 10 ^ (9 - j) ∧ Words wx (fun b => ov.ownBlock = some b) (.slice A4 ts.length c4) ts ∧
          wx.ownsRow (w.heap.size + 1) 5 1 ov es.length (nums .u8 (chars es)) ∧ Ds es ∧ dval es + 10 ^ es.length * r' = dval ds + 10 ^ ds.length * r ∧ es.length = ds.length + j ∧
          Below (w.heap.size + 1) (w.alloc (.cells #[.bool neg, .slice A xs.length c] 24)) wx) (fun _ _ iv _ => 9 - (intOf iv).toNat)
        case atStart => exact ⟨0, ds, r, by omega, rfl, rfl, by have := HR.out; omega, h3w, hown2, hds, rfl, rfl, hbr2⟩
        case round =>
          obtain ⟨j, es, r', hj, rfl, rfl, hr', hwx, hownx, hes, hev, hel, hbx⟩ := hrel
          have HE := Lib.hid hev
          have HL2 := Lib.hid hel
          have HR2 := Lib.hid hr'
          have hel1 : es.length ≤ 11 * xs.length + 9 := by omega
          have r1 : r' < 1000000000 := Nat.lt_of_lt_of_le hr' (by have : 10 ^ (9 - j) ≤ 10 ^ 9 := Nat.pow_le_pow_right (by omega) (by omega); omega)
          have hszx := hbx.size
          clear hev hel hr' hown2 h3w hbr2
          by_cases hj9 : j < 9
          · go_wp2_with (at_builtin; refine wpList_push _ rfl _ _ rfl Try.underlying54 info_u8 rfl (w.heap.size + 1) _ _ _ rfl (hownx.alloc _) _ _ rfl (heap_alloc_new _ _) rfl (by omega) (by unfold maxLen; omega) (by simp at hszx ⊢; omega) ?_)
            intro v5 w5 hown5 hg5 hat5
            go_wp2_with fail
            go_roundw
            case rel =>
              rw [nums_snoc' _ _ _ (48 + r' % 10) (by omega), chars_snoc] at hown5
              have hlt' : r' / 10 < 10 ^ (9 - (j + 1)) := by
                rw [Nat.div_lt_iff_lt_mul (by omega)]
                have h1 := HR2.out
                rw [show 9 - j = 9 - (j + 1) + 1 from by omega, Nat.pow_succ] at h1
                exact h1
              exact ⟨j + 1, es ++ [r' % 10], r' / 10, by omega, by go_num, by go_num, hlt', hwx.push hg5 (by simpa using hat5), by simpa using hown5, Ds.append.2 ⟨hes, by simp [Ds]; omega⟩, digit_step ds es r' _ HE.out, by simp; have := HL2.out; omega, below_own (hbx.alloc (by simpa using hszx) _) (hownx.alloc _) hg5 (Nat.le_refl _) (by simp at hszx ⊢; omega)⟩
            case measure => simp only [intOf]; omega
          · obtain rfl : j = 9 := by omega
            have hr0 : r' = 0 := by have := HR2.out; simp at this; exact this
            subst hr0
            have hsum : dval es + 10 ^ es.length * val ts = val xs := by
              have e1 : dval es = dval ds + 10 ^ ds.length * r := by have := HE.out; simpa using this
              rw [chunk_step ds es r (val ts) (val ws) e1 HL2.out (by rw [HV3.out, HQ.out, HR.out]; omega)]
              exact HD.out
            have hdec : val ts < val ws := by rw [HV3.out, HQ.out]; have := HC.out.pos (List.length_pos_iff.1 hlt); omega
            have HS := Lib.hid hsum
            clear hsum
            go_wp2_with fail
            go_roundg (val ts + 1)
            case measure => rw [HG.out]; omega
            case rel => exact ⟨ts, es, hwx, HC3.out, by have := HL.out; omega, hownx, hes, HS.out, by omega, fun e => by have := HL2.out; rw [e] at this; simp at this, rfl, hbx⟩
      · obtain rfl : ws = [] := List.eq_nil_of_length_eq_zero (by omega)
        have hds0 : ds ≠ [] := fun e => HNE.out e rfl
        have hdp : 0 < ds.length := List.length_pos_iff.2 hds0
        have hdv : dval ds = val xs := by have := HD.out; simpa using this
        have HDV := Lib.hid hdv
        obtain ⟨g, cap, hou, hgb, hglt⟩ := hown.form hdp
        subst hou
        have hcap := (ownsRow_cap hown).1
        have La : Loc wr w.heap.size 24 #[.bool neg, .slice A xs.length c] := Loc.below' (Loc.new w _ _) hbr (by omega)
        have cc := La.cell
        have hbr' : Below w.heap.size w wr := (below1 _ _).trans (hbr.mono (by omega))
        clear hds0 hdv hw
        go_wp2_with fail
        go_loop [4] (fun o => ∃ k : Nat, 1 ≤ k ∧ k ≤ ds.length ∧ (∀ j, k ≤ j → (h : j < ds.length) → ds[j] = 0) ∧ o = .slice (some ⟨g, 0, none⟩) k cap) (fun o => match o with | .slice _ n _ => n | _ => 0)
        case atStart => exact ⟨ds.length, by omega, Nat.le_refl _, fun j h1 h2 => absurd h2 (by omega), rfl⟩
        case round =>
          obtain ⟨k, hk1, hk, hz, rfl⟩ := hrel
          have Hz := Lib.hid hz
          clear hz
          by_cases hs : ∃ (h1 : 1 < k), ds[k - 1] = 0
          · obtain ⟨hk2, hx⟩ := hs
            have ck : wr.cell? ⟨g, k - 1, none⟩ = some (.int .u8 (((chars ds)[k - 1]'(by simp; omega) : Nat) : Int)) := (hown.cellAt (k - 1) (by omega)).trans (nums_get _)
            rw [chars_get ds (k - 1) (by omega), hx] at ck
            have HX := Lib.hid hx
            clear hx
            go_wp2_with fail
            exact ⟨⟨k - 1, by omega, by omega, fun j h1 h2 => if e : j = k - 1 then by subst e; exact HX.out else Hz.out j (by omega) h2, rfl⟩, by omega⟩
          · have hdec : ds.take k = decR (val xs) := by
              rw [← HDV.out]
              exact decR_strip ds k hds hk hk1 Hz.out (fun h1 h2 h3 => hs ⟨h1, h3⟩) (by rw [HDV.out]; exact HP.out)
            have hcut := ownsRow_cut hown hk
            rw [nums_take, chars_take] at hcut
            have hkl : (chars (ds.take k)).length = k := by simp; omega
            have hch : ∀ x ∈ chars (ds.take k), x < 256 := chars_lt (hds.take k)
            have HK := Lib.hid hkl
            have HDEC := Lib.hid hdec
            clear hkl hdec hown
            rcases Nat.lt_or_ge 1 k with hk2 | hk2
            all_goals
              try (have ck : wr.cell? ⟨g, k - 1, none⟩ = some (.int .u8 (((chars (ds.take k))[k - 1]'(by have := HK.out; omega) : Nat) : Int)) := (hcut.cellAt (k - 1) (by omega)).trans (nums_get _); rw [chars_get _ (k - 1) (by simp; omega), List.getElem_take] at ck; have hb : (((48 + ds[k - 1] : Nat) : Int) == 48) = false := by rw [beq_eq_false_iff_ne]; have : ds[k - 1] ≠ 0 := fun e => hs ⟨hk2, e⟩; omega)
              clear hs
            all_goals
              cases neg
              case false =>
                go_wp2_with fail
                refine (reverse_any wr (w.heap.size + 1) 0 g k cap _ hcut HK.out (by omega)).mono ?_
                rintro e w9 ⟨rfl, ho9, hg9⟩
                have hcv := conv_own ho9 (fun x hx => hch x (List.mem_reverse.1 hx)) (by simp; have := HK.out; simp at this; omega)
                go_wp2_with fail
                go_ret
                refine ⟨ret_eq ?_, hbr'.grown hg9 hbr'.size (by intro b hb; injection hb with hb; omega)⟩
                rw [sv_false, textB_pos _ HP.out, ← HDEC.out]
                rfl
              case true =>
                go_wp2_with (at_builtin; refine wpList_push _ rfl _ _ rfl Try.underlying54 info_u8 rfl (w.heap.size + 1) _ _ _ rfl (hcut.alloc _) _ _ rfl (heap_alloc_new _ _) rfl (by omega) (by unfold maxLen; omega) (by simp at hsz1 ⊢; omega) ?_)
                intro v5 w5 hown5 hg5 hat5
                have hb5 := below_own (hbr'.alloc hbr'.size _) (hcut.alloc _) hg5 (by omega) (by have := hbr'.size; simp; omega)
                rw [nums_snoc' _ _ 45 45 rfl] at hown5
                obtain ⟨g5, cap5, hv5, hgb5, hglt5⟩ := hown5.form (by omega)
                subst hv5
                go_wp2_with fail
                refine (reverse_any w5 (w.heap.size + 1) 0 g5 (k + 1) cap5 _ hown5 (by simp; have := HK.out; simp at this; omega) (by omega)).mono ?_
                rintro e w9 ⟨rfl, ho9, hg9⟩
                have hcv := conv_own ho9 (fun x hx => by rcases List.mem_append.1 (List.mem_reverse.1 hx) with h | h; exact hch x h; simp at h; omega) (by simp; have := HK.out; simp at this; omega)
                go_wp2_with fail
                go_ret
                refine ⟨ret_eq ?_, hb5.grown hg9 hb5.size (by intro b hb; injection hb with hb; omega)⟩
                rw [sv_true, textB_neg _ HP.out, ← HDEC.out, List.reverse_append]
                rfl
end Go.Proofs.Ytlbgnndjacagkaa
