/- Parse of the reference. -/
import Derived.Test.YtlbgnndjacagkaaRows
import Derived.Test.YtlbgnndjacagkaaParse3
import Derived.Test.YtlbgnndjacagkaaApi2
import Derived.Test.YtlbgnndjacagkaaRef2
import Derived.Deep.RegionHeld3
import Derived.Deep.DrawnRows
namespace Go.Proofs.Ytlbgnndjacagkaa
open Go.RowKit
attribute [local go_sem ↓] Go.wp_at_zero Go.wp_at_succ

theorem dig_len10 {n i : Nat} (h : n < 10 ^ i) : (dig n).length ≤ i :=
  dig_len_le (Nat.lt_of_lt_of_le h (Nat.pow_le_pow_left (by omega) i))
theorem pval_take_lt {ds : List UInt8} {i : Nat} (hi : i ≤ ds.length) (hg : ∀ j, j < i → (hj : j < ds.length) → good ds[j]) : pval (ds.take i) < 10 ^ i := by
  have h := pval_lt (ds.take i) (fun c hc => by
    obtain ⟨j, hj, rfl⟩ := List.getElem_of_mem hc
    rw [List.length_take] at hj
    rw [List.getElem_take]
    exact hg j (by omega) (by omega))
  rwa [List.length_take, Nat.min_eq_left hi] at h

theorem cut_cases (bs : List UInt8) :
    (bs = [] ∧ strip bs = [] ∧ isNeg bs = false) ∨
    (0 < bs.length ∧ (∀ h, (((({ data := bs.toArray } : ByteArray)[0]'h).toNat : Nat) : Int) = 45) ∧ ({ data := bs.toArray } : ByteArray).extract 1 bs.length = { data := (strip bs).toArray } ∧ isNeg bs = true) ∨
    (0 < bs.length ∧ (∀ h, (((((({ data := bs.toArray } : ByteArray)[0]'h).toNat : Nat)) : Int) == 45) = false) ∧ strip bs = bs ∧ isNeg bs = false) := by
  cases bs with
  | nil => exact Or.inl ⟨rfl, rfl, rfl⟩
  | cons b tl =>
    by_cases hb : b = 45
    · subst hb
      have hn : isNeg (45 :: tl) = true := by rw [isNeg_cons]; rfl
      refine Or.inr (Or.inl ⟨by simp, fun h => by show ((((45 : UInt8).toNat : Nat)) : Int) = 45; rfl, ?_, hn⟩)
      rw [strip_neg hn, Lib.extract_eq]
      simp
    · have hn : isNeg (b :: tl) = false := by rw [isNeg_cons]; simpa using hb
      refine Or.inr (Or.inr ⟨by simp, fun h => ?_, strip_pos hn, hn⟩)
      rw [beq_eq_false_iff_ne]
      intro e
      apply hb
      apply UInt8.toNat_inj.1
      have : ((b.toNat : Nat) : Int) = 45 := e
      have h45 : (45 : UInt8).toNat = 45 := rfl
      omega

theorem parse_okR {bs : List UInt8} (h : ¬ 601 < bs.length) (hs : ¬ synt (isNeg bs) (strip bs)) (hg : ∀ j, (hj : j < (strip bs).length) → good (strip bs)[j]) (hl : ¬ 600 < (strip bs).length) :
    parseC bs = 0 ∧ parseZ bs = sv (isNeg bs) (dig (pval (strip bs))) := by
  obtain ⟨h1, h2⟩ := parse_ok h hs hg hl
  exact ⟨h1, by rw [h2, sv, val_dig]⟩

set_option maxHeartbeats 4000000 in
theorem rparse_any (w : World) (bs : List UInt8) :
    Calls Try.prog 32 #[str bs] w fun e w' => ∃ v', e = .returned (.tuple #[v', .int .i64 (parseC bs : Nat)]) ∧ IntV w' (Old w) v' (parseZ bs) ∧ Below w.heap.size w w' := by
  by_cases h601 : 601 < bs.length
  · have HP := Lib.hid (parse_long h601)
    go_enter Try.func32, Try.ntmps32
    go_wp2_with fail
    have Lr := Loc.new w #[.bool false, .slice none 0 0] 24
    have cc := Lr.cell
    have cf := Lr.frz
    refine bodyPost_ret (by simp [results, Try.results32, go_sem, cc, cf] <;> rfl) rfl ⟨_, by rw [HP.out.1]; rfl, by rw [HP.out.2]; exact IntV.zero _ _, below1 _ _⟩
  · have PS := Lib.hid (parse_synt h601)
    have PB := Lib.hid (parse_bad h601)
    have PL := Lib.hid (parse_long2 h601)
    have PO := Lib.hid (parse_okR h601)
    have hsl := strip_len bs
    have hcut := cut_cases bs
    generalize strip bs = ds at *
    generalize isNeg bs = ng at *
    generalize parseC bs = pc at *
    generalize parseZ bs = pz at *
    have Lr := Loc.new w #[.bool false, .slice none 0 0] 24
    have cc := Lr.cell
    have cf := Lr.frz
    have hdl : ds.length ≤ 601 := by omega
    by_cases hs : synt ng ds
    · have HP := Lib.hid (PS.out hs)
      clear PS PB PL PO
      rcases hcut with ⟨rfl, rfl, rfl⟩ | hcut
      · go_enter Try.func32, Try.ntmps32
        go_wp2_with fail
        refine bodyPost_ret (by simp [results, Try.results32, go_sem, cc, cf] <;> rfl) rfl ⟨_, by rw [HP.out.1]; rfl, by rw [HP.out.2]; exact IntV.zero _ _, below1 _ _⟩
      · rcases hs with rfl | ⟨hh, h2⟩
        · rcases hcut with ⟨hb1, hb2, hE, rfl⟩ | ⟨hb1, hb2, rfl, rfl⟩
          · go_enter Try.func32, Try.ntmps32
            go_wp2_with fail
            refine bodyPost_ret (by simp [results, Try.results32, go_sem, cc, cf] <;> rfl) rfl ⟨_, by rw [HP.out.1]; rfl, by rw [HP.out.2]; exact IntV.zero _ _, below1 _ _⟩
          · simp at hb1
        · have hc : ∀ h : 0 < ds.length, ((((({ data := ds.toArray } : ByteArray)[0]'h).toNat : Nat)) : Int) = 48 := by
            cases ds with
            | nil => cases hh
            | cons a tl =>
              obtain rfl : a = 48 := by simpa using hh
              intro _; rfl
          have hl0 : 0 < ds.length := by
            cases ds with
            | nil => cases hh
            | cons _ _ => simp
          have hlb : ((ds.length : Int) == 0) = false := by rw [beq_eq_false_iff_ne]; omega
          clear hh
          rcases hcut with ⟨hb1, hb2, hE, rfl⟩ | ⟨hb1, hb2, rfl, rfl⟩
          · clear h2
            go_enter Try.func32, Try.ntmps32
            go_wp2_with fail
            refine bodyPost_ret (by simp [results, Try.results32, go_sem, cc, cf] <;> rfl) rfl ⟨_, by rw [HP.out.1]; rfl, by rw [HP.out.2]; exact IntV.zero _ _, below1 _ _⟩
          · have hl2 : 1 < ds.length := h2.resolve_right (by simp)
            clear h2
            go_enter Try.func32, Try.ntmps32
            go_wp2_with fail
            refine bodyPost_ret (by simp [results, Try.results32, go_sem, cc, cf] <;> rfl) rfl ⟨_, by rw [HP.out.1]; rfl, by rw [HP.out.2]; exact IntV.zero _ _, below1 _ _⟩
    · have hl0 : 0 < ds.length := by
        cases ds with
        | nil => exact absurd (Or.inl rfl) hs
        | cons _ _ => simp
      have hcase : (∀ h : 0 < ds.length, (((((({ data := ds.toArray } : ByteArray)[0]'h).toNat : Nat)) : Int) == 48) = false) ∨ ((∀ h : 0 < ds.length, ((((({ data := ds.toArray } : ByteArray)[0]'h).toNat : Nat)) : Int) = 48) ∧ ds.length = 1 ∧ ng = false) := by
        cases ds with
        | nil => simp at hl0
        | cons a tl =>
          by_cases ha : a = 48
          · right
            refine ⟨fun _ => by subst ha; rfl, ?_, ?_⟩
            · by_cases hl : 1 < (a :: tl).length
              · exact absurd (Or.inr ⟨by simp [ha], Or.inl hl⟩) hs
              · simp at hl ⊢; exact hl
            · cases ng with
              | false => rfl
              | true => exact absurd (Or.inr ⟨by simp [ha], Or.inr rfl⟩) hs
          · refine Or.inl fun _ => ?_
            rw [beq_eq_false_iff_ne]
            intro e
            apply ha
            apply UInt8.toNat_inj.1
            have : ((a.toNat : Nat) : Int) = 48 := e
            have h48 : (48 : UInt8).toNat = 48 := rfl
            omega
      have hlb : ((ds.length : Int) == 0) = false := by rw [beq_eq_false_iff_ne]; omega
      have PL' := Lib.hid (PL.out hs)
      have PO' := Lib.hid (PO.out hs)
      clear PS PL PO hs
      have hall : (0 < bs.length ∧ (∀ h, (((({ data := bs.toArray } : ByteArray)[0]'h).toNat : Nat) : Int) = 45) ∧ ({ data := bs.toArray } : ByteArray).extract 1 bs.length = { data := ds.toArray } ∧ ng = true ∧ (∀ h : 0 < ds.length, (((((({ data := ds.toArray } : ByteArray)[0]'h).toNat : Nat)) : Int) == 48) = false)) ∨
          ((∀ h, (((((({ data := ds.toArray } : ByteArray)[0]'h).toNat : Nat)) : Int) == 45) = false) ∧ ds = bs ∧ ng = false ∧ (∀ h : 0 < ds.length, (((((({ data := ds.toArray } : ByteArray)[0]'h).toNat : Nat)) : Int) == 48) = false)) ∨
          ((∀ h, (((((({ data := ds.toArray } : ByteArray)[0]'h).toNat : Nat)) : Int) == 45) = false) ∧ ds = bs ∧ ng = false ∧ (∀ h : 0 < ds.length, ((((({ data := ds.toArray } : ByteArray)[0]'h).toNat : Nat)) : Int) = 48) ∧ ds.length = 1) := by
        rcases hcut with ⟨rfl, rfl, rfl⟩ | ⟨hb1, hb2, hE, rfl⟩ | ⟨hb1, hb2, rfl, rfl⟩
        · simp at hl0
        · rcases hcase with hc | ⟨_, _, hc⟩
          · exact Or.inl ⟨hb1, hb2, hE, rfl, hc⟩
          · cases hc
        · rcases hcase with hc | ⟨hc, hc1, _⟩
          · exact Or.inr (Or.inl ⟨hb2, rfl, rfl, hc⟩)
          · refine Or.inr (Or.inr ⟨hb2, rfl, rfl, hc, hc1⟩)
      clear hcut hcase
      rcases hall with ⟨hb1, hb2, hE, rfl, hc⟩ | ⟨hb2, rfl, rfl, hc⟩ | ⟨hb2, rfl, rfl, hc, hc1⟩
      all_goals
        go_enter Try.func32, Try.ntmps32
        go_wp2_with fail
        clear hb2 hc
        have hbs : Below w.heap.size w ((w.alloc (.cells #[.bool false, .slice none 0 0] 24)).alloc (.cells #[] 44)) := below2 _ _ _
        have Lrs := Lr.alloc (.cells #[] 44)
        have Lnew := Loc.new (w.alloc (.cells #[.bool false, .slice none 0 0] 24)) #[] 44
        rw [World.size_alloc] at Lnew
        clear hlb
        clear cc cf Lr
        go_loopw [5, 6] (fun wv iv wr => ∃ (i : Nat), iv = .int .i64 i ∧ i ≤ ds.length ∧ Words wr (fun _ => False) wv (dig (pval (ds.take i))) ∧ Hid (∀ j, j < i → (hj : j < ds.length) → good ds[j]) ∧
          Below w.heap.size w wr ∧ Loc wr w.heap.size 24 #[.bool false, .slice none 0 0]) (fun _ iv _ => ds.length - (intOf iv).toNat)
        case atStart => exact ⟨0, rfl, by omega, by rw [List.take_zero, pval_nil, dig_zero]; exact Words.lit [] Lnew (by simp) (fun h => h) (by unfold maxLen; simp), Lib.hid (fun j hj => by omega), hbs, Lrs⟩
        case round =>
          obtain ⟨i, rfl, hi, hw, hg, hBr, Lr2⟩ := hrel
          have hpl := pval_take_lt hi hg.out
          have hlen := dig_len10 hpl
          have hlen2 : (dig (pval (ds.take i) * 10)).length ≤ i + 1 := dig_len10 (by rw [Nat.pow_succ]; omega)
          have HLEN := Lib.hid hlen
          have HLEN2 := Lib.hid hlen2
          clear hpl hlen hlen2 hbs Lrs Lnew
          have cc2 := Lr2.cell
          have cf2 := Lr2.frz
          by_cases hlt : i < ds.length
          · obtain ⟨x, hx⟩ : ∃ x, ds[i].toNat = x := ⟨_, rfl⟩
            have hb := byte_at ds i hlt x hx
            have hgx : good ds[i] ↔ 48 ≤ x ∧ x ≤ 57 := by unfold good; rw [hx]
            have hpv := pval_take ds i hlt
            rw [hx] at hpv
            have HX := Lib.hid hgx
            have HPV := Lib.hid hpv
            clear hgx hpv
            have PBi := Lib.hid (PB.out i hlt)
            have hgi := Lib.hid (fun h : good ds[i] => good_step hlt hg.out h)
            clear hx
            by_cases hx1 : x < 48
            · have HP := Lib.hid (PBi.out (fun hgg => by have := (HX.out.1 hgg).1; omega))
              go_wp2_with fail
              refine bodyPost_ret (by simp [results, Try.results32, go_sem, cc2, cf2] <;> rfl) rfl ⟨_, by rw [HP.out.1]; rfl, by rw [HP.out.2]; exact IntV.zero _ _, below_set2 hBr (by omega) _ _⟩
            · by_cases hx2 : 57 < x
              · have HP := Lib.hid (PBi.out (fun hgg => by have := (HX.out.1 hgg).2; omega))
                go_wp2_with fail
                refine bodyPost_ret (by simp [results, Try.results32, go_sem, cc2, cf2] <;> rfl) rfl ⟨_, by rw [HP.out.1]; rfl, by rw [HP.out.2]; exact IntV.zero _ _, below_set2 hBr (by omega) _ _⟩
              · have HL10 := HLEN.out
                have HL11 := HLEN2.out
                go_wp2_with fail
                have e1 : val (dig (pval (ds.take i))) = pval (ds.take i) := val_dig _
                have e2 : val (dig (pval (ds.take i) * 10)) = pval (ds.take i) * 10 := val_dig _
                have e3 : val [x - 48] = x - 48 := by simp [val]
                have e4 : IntKind.u32.wrap (IntKind.u8.wrap ((x : Int) - 48)) = ((x - 48 : Nat) : Int) := by rw [IntKind.wrap_u8, IntKind.wrap_u32]; omega
                have HWR := Lib.hid e4
                clear e4
                have HE1 := Lib.hid e1
                have HE2 := Lib.hid e2
                have HE3 := Lib.hid e3
                clear e1 e2 e3
                go_region_held3 (fun _ => True)
                  (exact True.intro)
                  (first
                    | (go_at_call 57; refine (timesWord_any _ (fun _ => False) _ _ 10 (hw.below (by first | exact (Below.refl _ _).drew | exact (Below.refl _ _).drew.alloc (Nat.le_refl _) _)) (by omega) (by omega)).mono ?_; rintro e w2 ⟨v2, rfl, h2, hb2⟩; rw [HE1.out] at h2; obtain ⟨A2, c2, rfl, _, _, h2⟩ := h2.open_)
                    | (go_at_call 56; refine (addWords_any _ (fun _ => False) _ _ _ [x - 48] (by first | exact (h2.weak (fun _ _ h => h.elim)).below (below1 _ _) | exact h2.weak (fun _ _ h => h.elim)) (by first | exact Words.one (x - 48) (by omega) _ HWR.out (fun _ h => h.elim) | exact (Words.one (x - 48) (by omega) _ HWR.out (fun _ h => h.elim)).below (below_undrew hb2)) (by simp; omega)).mono ?_; rintro e w3 ⟨v3, rfl, h3, hb3⟩; rw [HE2.out, HE3.out] at h3))
                all_goals
                  have hBn : Below wr.heap.size wr w3 := by
                    first
                      | exact (below_undrew hb2).trans (((below1 w2 _).trans (hb3.mono (by simp))).mono (below_undrew hb2).size)
                      | exact ((below1 wr _).trans ((below_undrew hb2).mono (by simp))).trans (hb3.mono ((below1 wr _).trans ((below_undrew hb2).mono (by simp))).size)
                  clear cc2 cf2
                  try go_wp2_with fail
                  go_roundw
                  case rel =>
                    refine ⟨i + 1, by go_num, by omega, ?_, Lib.hid (hgi.out (HX.out.2 ⟨by omega, by omega⟩)), hBr.trans (hBn.mono hBr.size), Lr2.below hBn⟩
                    rw [HPV.out, Nat.mul_comm]
                    exact h3.weak (fun _ _ h => h.elim)
                  case measure => simp only [intOf]; omega
          · obtain rfl : i = ds.length := by omega
            rw [List.take_length] at hw HLEN
            by_cases h600 : 600 < ds.length
            · first
              | (exfalso; omega)
              | (have HP := Lib.hid (PL'.out (fun j hj => hg.out j hj hj) h600)
                 go_wp2_with fail
                 refine bodyPost_ret (by simp [results, Try.results32, go_sem, cc2, cf2] <;> rfl) rfl ⟨_, by rw [HP.out.1]; rfl, by rw [HP.out.2]; exact IntV.zero _ _, below_set2 hBr (by omega) _ _⟩)
            · have HP := Lib.hid (PO'.out (fun j hj => hg.out j hj hj) h600)
              have HL10 := HLEN.out
              go_wp2_with fail
              refine (made_any _ (fun _ => False) _ _ _ hw (by omega)).mono ?_
              rintro e w2 ⟨v2, rfl, h2, hb2⟩
              obtain ⟨b2, A2, n2, c2, rfl, h2⟩ := h2.op
              have Lr3 := Lr2.below hb2
              have cc3 := Lr3.cell
              have cf3 := Lr3.frz
              have hB3 := hBr.trans (hb2.mono hBr.size)
              have hrl := Lr2.lt
              clear cc2 cf2
              go_wp2_with fail
              refine bodyPost_ret (by simp [results, Try.results32, go_sem, cc3, cf3] <;> rfl) rfl ⟨_, by rw [HP.out.1]; rfl, ?_, below_set2 hB3 (by omega) _ _⟩
              have h3 := IntV.stored (g := w.heap.size) (Y := Old w) h2 (by simp only [Old]; omega) (.bool b2) (.slice A2 n2 c2) (by intro b _ hb; simp only [Old] at hb ⊢; omega)
              rw [HP.out.2]
              exact h3
end Go.Proofs.Ytlbgnndjacagkaa
