/- Parse of package integer. -/
import Derived.Test.YtlbgnndjacagkaaRows
import Derived.Test.YtlbgnndjacagkaaParse2
import Derived.Test.YtlbgnndjacagkaaInt2
import Derived.Test.YtlbgnndjacagkaaInt4
import Derived.Test.YtlbgnndjacagkaaInt5
import Derived.Deep.LoopGhost
import Derived.Laws.IdiomStrings
namespace Go.Proofs.Ytlbgnndjacagkaa
open Go.RowKit

theorem IntV.zero (w : World) (X : Nat → Prop) : IntV w X (.agg #[.bool false, .slice none 0 0]) 0 := by
  refine ⟨_, rfl, ?_⟩
  have : dig (0 : Int).natAbs = [] := dig_zero
  rw [this]
  exact Words.nil _ _

theorem Words.one {w : World} {t : TypeId} {X : Nat → Prop} (d : Nat) (h : d < 4294967296) (z : Int) (e : z = (d : Nat)) (hX : ∀ b, X b → b < w.heap.size) :
    Words (w.alloc (.cells #[.int .u32 z] t)) X (.slice (some ⟨w.heap.size, 0, none⟩) 1 1) [d] := by
  subst e
  exact Words.lit (t := t) [d] (Loc.new _ _ _) (by simpa using h) (fun h => by have := hX _ h; omega) (by unfold maxLen; simp)
theorem good_step {ds : List UInt8} {i : Nat} (hlt : i < ds.length) (hg : ∀ j, j < i → (hj : j < ds.length) → good ds[j]) (h : good ds[i]) : ∀ j, j < i + 1 → (hj : j < ds.length) → good ds[j] := by
  intro j h1 h2
  by_cases hj : j < i
  · exact hg j hj h2
  · obtain rfl : j = i := by omega
    exact h
theorem byte_at (ds : List UInt8) (i : Nat) (h : i < ds.length) (x : Nat) (hx : ds[i].toNat = x) : ∀ h', ((((({ data := ds.toArray } : ByteArray)[i]'h').toNat : Nat)) : Int) = (x : Nat) := by
  subst hx; intro _; rfl

set_option maxHeartbeats 4000000 in
theorem parse_any (w : World) (bs : List UInt8) :
    Calls Try.prog 31 #[str bs] w fun e w' => ∃ v', e = .returned (.tuple #[v', .int .i64 (parseC bs : Nat)]) ∧ IntV w' (Old w) v' (parseZ bs) ∧ Below w.heap.size w w' := by
  by_cases h601 : 601 < bs.length
  · have HP := Lib.hid (parse_long h601)
    go_enter Try.func31, Try.ntmps31
    go_wp2_with fail
    have Lr := Loc.new w #[.bool false, .slice none 0 0] 24
    have cc := Lr.cell
    have cf := Lr.frz
    refine bodyPost_ret (by simp [results, Try.results31, go_sem, cc, cf] <;> rfl) rfl ⟨_, by rw [HP.out.1]; rfl, by rw [HP.out.2]; exact IntV.zero _ _, below1 _ _⟩
  · have PS := Lib.hid (parse_synt h601)
    have PB := Lib.hid (parse_bad h601)
    have PL := Lib.hid (parse_long2 h601)
    have PO := Lib.hid (parse_ok h601)
    have hsl := strip_len bs
    have hcut := fun w => cut_any w bs
    generalize strip bs = ds at *
    generalize isNeg bs = ng at *
    generalize parseC bs = pc at *
    generalize parseZ bs = pz at *
    have Lr := Loc.new w #[.bool false, .slice none 0 0] 24
    have cc := Lr.cell
    have cf := Lr.frz
    have HC := Lib.hid hcut
    clear hcut
    by_cases hs : synt ng ds
    · have HP := Lib.hid (PS.out hs)
      clear PS PB PL PO
      rcases hs with rfl | ⟨hh, h2⟩
      · go_enter Try.func31, Try.ntmps31
        go_wp2_with fail
        refine (HC.out _).mono ?_
        rintro e w' ⟨rfl, rfl⟩
        go_wp2_with fail
        refine bodyPost_ret (by simp [results, Try.results31, go_sem, cc, cf] <;> rfl) rfl ⟨_, by rw [HP.out.1]; rfl, by rw [HP.out.2]; exact IntV.zero _ _, below1 _ _⟩
      · cases ds with
        | nil => cases hh
        | cons a tl =>
          obtain rfl : a = 48 := by simpa using hh
          by_cases hl : 0 < tl.length
          · go_enter Try.func31, Try.ntmps31
            go_wp2_with fail
            refine (HC.out _).mono ?_
            rintro e w' ⟨rfl, rfl⟩
            go_wp2_with fail
            refine bodyPost_ret (by simp [results, Try.results31, go_sem, cc, cf] <;> rfl) rfl ⟨_, by rw [HP.out.1]; rfl, by rw [HP.out.2]; exact IntV.zero _ _, below1 _ _⟩
          · obtain rfl : ng = true := h2.resolve_left (by rw [List.length_cons]; omega)
            go_enter Try.func31, Try.ntmps31
            go_wp2_with fail
            refine (HC.out _).mono ?_
            rintro e w' ⟨rfl, rfl⟩
            go_wp2_with fail
            refine bodyPost_ret (by simp [results, Try.results31, go_sem, cc, cf] <;> rfl) rfl ⟨_, by rw [HP.out.1]; rfl, by rw [HP.out.2]; exact IntV.zero _ _, below1 _ _⟩
    · have hne : ds.isEmpty = false := by
        cases ds with
        | nil => exact absurd (Or.inl rfl) hs
        | cons _ _ => rfl
      have hl0 : 0 < ds.length := by
        cases ds with
        | nil => exact absurd (Or.inl rfl) hs
        | cons _ _ => simp
      have hcase : (∀ h : 0 < ds.length, ds[0] ≠ 48) ∨ ((∀ h : 0 < ds.length, ds[0] = 48) ∧ ds.length = 1 ∧ ng = false) := by
        cases ds with
        | nil => simp at hl0
        | cons a tl =>
          by_cases ha : a = 48
          · right
            refine ⟨fun _ => ha, ?_, ?_⟩
            · by_cases hl : 1 < (a :: tl).length
              · exact absurd (Or.inr ⟨by simp [ha], Or.inl hl⟩) hs
              · simp at hl ⊢; exact hl
            · cases ng with
              | false => rfl
              | true => exact absurd (Or.inr ⟨by simp [ha], Or.inr rfl⟩) hs
          · exact Or.inl fun _ => ha
      have PL' := Lib.hid (PL.out hs)
      have PO' := Lib.hid (PO.out hs)
      clear PS PL PO hs
      have hdl : ds.length ≤ 601 := by omega
      have hgo : (∃ _ : ∀ h : 0 < ds.length, ((((({ data := ds.toArray } : ByteArray)[0]'h).toNat : Nat) : Int) == 48) = false, True) ∨ ((∀ h : 0 < ds.length, ((((({ data := ds.toArray } : ByteArray)[0]'h).toNat : Nat) : Int) = 48)) ∧ ds.length = 1 ∧ ng = false) := by
        rcases hcase with hc | ⟨hc, h1, rfl⟩
        · refine Or.inl ⟨fun h => ?_, trivial⟩
          rw [beq_eq_false_iff_ne]
          intro e
          apply hc h
          apply UInt8.toNat_inj.1
          have : (ds[0].toNat : Int) = 48 := e
          have h48 : (48 : UInt8).toNat = 48 := rfl
          omega
        · refine Or.inr ⟨fun h => ?_, h1, rfl⟩
          have := hc h
          show ((ds[0].toNat : Nat) : Int) = 48
          rw [this]; rfl
      clear hcase
      rcases hgo with ⟨hc0, -⟩ | ⟨hc0, h1, rfl⟩
      all_goals
        go_enter Try.func31, Try.ntmps31
        go_wp2_with fail
        refine (HC.out _).mono ?_
        rintro e w' ⟨rfl, rfl⟩
        go_wp2_with fail
        clear hne hc0
        go_loopw [6, 36] (fun wv iv wr => ∃ (i : Nat) (ws : List Nat), iv = .int .i64 i ∧ i ≤ ds.length ∧ Words wr (fun _ => False) wv ws ∧ Hid (val ws = pval (ds.take i)) ∧ ws.length ≤ 3 * i ∧ Hid (∀ j, j < i → (hj : j < ds.length) → good ds[j]) ∧
          Below (w.alloc (.cells #[.bool false, .slice none 0 0] 24)).heap.size (w.alloc (.cells #[.bool false, .slice none 0 0] 24)) wr) (fun _ iv _ => ds.length - (intOf iv).toNat)
        case atStart => exact ⟨0, [], rfl, by omega, Words.nil _ _, Lib.hid rfl, by simp, Lib.hid (fun j hj => by omega), Below.refl _ _⟩
        case round =>
          obtain ⟨i, ws, rfl, hi, hw, hv, hwl, hg, hbr⟩ := hrel
          obtain ⟨A, c, rfl, _, _, hw⟩ := hw.open_
          have Lr2 := Lr.below hbr
          have cc2 := Lr2.cell
          have cf2 := Lr2.frz
          have hBr : Below w.heap.size w wr := (below1 _ _).trans (hbr.mono (by simp))
          by_cases hlt : i < ds.length
          · obtain ⟨x, hx⟩ : ∃ x, ds[i].toNat = x := ⟨_, rfl⟩
            have hb := byte_at ds i hlt x hx
            have hgx : good ds[i] ↔ 48 ≤ x ∧ x ≤ 57 := by unfold good; rw [hx]
            have hpv := pval_take ds i hlt
            rw [hx] at hpv
            have HX := Lib.hid hgx
            have HPV := Lib.hid hpv
            clear hgx hpv
            have PBi := Lib.hid (PB.out i hlt)
            have hgi := Lib.hid (fun h : good ds[i] => good_step hlt hg.out h)
            clear hx
            clear cc cf
            by_cases hx1 : x < 48
            · have HP := Lib.hid (PBi.out (fun hgg => by have := (HX.out.1 hgg).1; omega))
              go_wp2_with fail
              refine bodyPost_ret (by simp [results, Try.results31, go_sem, cc2, cf2] <;> rfl) rfl ⟨_, by rw [HP.out.1]; rfl, by rw [HP.out.2]; exact IntV.zero _ _, below_set2 hBr (by omega) _ _⟩
            · by_cases hx2 : 57 < x
              · have HP := Lib.hid (PBi.out (fun hgg => by have := (HX.out.1 hgg).2; omega))
                go_wp2_with fail
                refine bodyPost_ret (by simp [results, Try.results31, go_sem, cc2, cf2] <;> rfl) rfl ⟨_, by rw [HP.out.1]; rfl, by rw [HP.out.2]; exact IntV.zero _ _, below_set2 hBr (by omega) _ _⟩
              · go_wp2_with fail
                refine (times_any _ (fun _ => False) _ _ ws [10] (hw.below (below1 _ _)) (Words.lit [10] (Loc.new _ _ _) (by simp) (fun h => h) (by unfold maxLen; simp)) (by omega) (by simp)).mono ?_
                rintro e w2 ⟨v2, zs, rfl, h2, hv2, hl2, hb2⟩
                obtain ⟨A2, c2, rfl, _, _, h2⟩ := h2.open_
                have hb2' := (below1 wr (.cells #[.int .u32 10] 44)).trans (hb2.mono (by simp))
                have HV2 := Lib.hid hv2
                have HL2 := Lib.hid hl2
                clear hv2 hl2 hb cc2 cf2
                go_wp2_with fail
                refine (plus_any _ (fun _ => False) _ _ zs [x - 48] ((h2.weak (fun _ _ h => h.elim)).below (below1 _ _)) (Words.one (x - 48) (by omega) _ (by omega) (fun _ h => h.elim)) (by have := HL2.out; simp at this; omega) (by simp)).mono ?_
                rintro e w3 ⟨v3, ys, rfl, h3, hv3, hl3, hb3⟩
                obtain ⟨A3, c3, rfl, _, _, h3⟩ := h3.open_
                have hb3' := (below1 w2 (.cells #[.int .u32 ((x : Int) - 48)] 44)).trans (hb3.mono (by simp))
                have HV3 := Lib.hid hv3
                have HL3 := Lib.hid hl3
                clear hv3 hl3
                go_wp2_with fail
                refine (trim_any _ _ _ ys h3).mono ?_
                rintro e w' ⟨v4, rfl, h4, rfl⟩
                go_wp2_with fail
                go_roundw
                case rel =>
                  refine ⟨i + 1, trimL ys, by go_num, by omega, h4.weak (fun _ _ h => h.elim), Lib.hid ?_, ?_, Lib.hid (hgi.out (HX.out.2 ⟨by omega, by omega⟩)), hbr.trans ((hb2'.trans (hb3'.mono hb2'.size)).mono hbr.size)⟩
                  · rw [val_trimL, HV3.out, HV2.out, HPV.out, hv.out]
                    have h10 : val [10] = 10 := by simp [val]
                    have hx10 : val [x - 48] = x - 48 := by simp [val]
                    rw [h10, hx10]
                    omega
                  · have h1 := trimL_len ys
                    have h2 := HL3.out
                    have h3 := HL2.out
                    simp only [List.length_cons, List.length_nil] at h2 h3
                    omega
                case measure => simp only [intOf]; omega
          · obtain rfl : i = ds.length := by omega
            rw [List.take_length] at hv
            clear cc cf
            by_cases h600 : 600 < ds.length
            · first
              | (exfalso; omega)
              | (have HP := Lib.hid (PL'.out (fun j hj => hg.out j hj hj) h600)
                 go_wp2_with fail
                 refine bodyPost_ret (by simp [results, Try.results31, go_sem, cc2, cf2] <;> rfl) rfl ⟨_, by rw [HP.out.1]; rfl, by rw [HP.out.2]; exact IntV.zero _ _, below_set2 hBr (by omega) _ _⟩)
            · have HP := Lib.hid (PO'.out (fun j hj => hg.out j hj hj) h600)
              go_wp2_with fail
              refine (signed_any _ (fun _ => False) _ _ ws hw (by omega)).mono ?_
              rintro e w2 ⟨v2, rfl, h2, hb2⟩
              obtain ⟨b2, A2, n2, c2, rfl, h2⟩ := h2.op
              have Lr3 := Lr2.below hb2
              have cc3 := Lr3.cell
              have cf3 := Lr3.frz
              have hB3 := hBr.trans (hb2.mono hBr.size)
              have hrl := Lr2.lt
              clear cc2 cf2
              go_wp2_with fail
              refine bodyPost_ret (by simp [results, Try.results31, go_sem, cc3, cf3] <;> rfl) rfl ⟨_, by rw [HP.out.1]; rfl, ?_, below_set2 hB3 (by omega) _ _⟩
              have h3 := IntV.stored (g := w.heap.size) (Y := Old w) h2 (by simp only [Old]; omega) (.bool b2) (.slice A2 n2 c2) (by intro b _ hb; simp only [Old] at hb ⊢; omega)
              have e := HP.out.2
              rw [← hv.out] at e
              rw [e]
              exact h3
end Go.Proofs.Ytlbgnndjacagkaa
