/- IntegerParses: the law's walk. -/
import Derived.Test.YtlbgnndjacagkaaRows
import Derived.Test.YtlbgnndjacagkaaKnown
import Derived.Test.YtlbgnndjacagkaaVers
import Derived.Test.YtlbgnndjacagkaaParse4
namespace Go.Proofs.Ytlbgnndjacagkaa
open Go.RowKit
attribute [local go_sem] beq_self_eq_true

theorem parseZ_len (bs : List UInt8) : (dig (parseZ bs).natAbs).length ≤ 601 := by
  by_cases h : parseC bs = 0
  · have hz : parseZ bs = (if isNeg bs then -((pval (strip bs) : Nat) : Int) else ((pval (strip bs) : Nat) : Int)) := by unfold parseZ; rw [if_pos h]
    unfold parseC at h
    split at h; · cases h
    rename_i h1
    split at h; · cases h
    split at h; · cases h
    rename_i h3
    have hall : ∀ c ∈ strip bs, good c := Classical.not_not.1 h3
    have hl := pval_lt _ hall
    have hs := strip_len bs
    have e : (parseZ bs).natAbs = pval (strip bs) := by rw [hz]; split <;> omega
    rw [e]
    exact Nat.le_trans (dig_len10 hl) (by omega)
  · have hz : parseZ bs = 0 := by unfold parseZ; rw [if_neg h]
    rw [hz]
    show (dig 0).length ≤ 601
    rw [dig_zero]; simp

set_option maxHeartbeats 2000000 in
theorem parses_walk (w : World) (s : ByteArray) :
    Calls Try.prog 5 #[.string s] w fun e w' => e = .returned (.bool true) ∧ Below w.heap.size w w' := by
  obtain ⟨bs, rfl⟩ : ∃ bs : List UInt8, s = ⟨bs.toArray⟩ := ⟨s.data.toList, by cases s; simp⟩
  have hzl := parseZ_len bs
  have htx := text_parsed (bs := bs)
  generalize hz : parseZ bs = z at *
  generalize hc : parseC bs = pc at *
  go_enter Try.func5, Try.ntmps5
  go_wp2_with fail
  refine (known_any _).mono ?_
  rintro e w1 ⟨rfl, hb1⟩
  by_cases hs : bs.length ≤ 700
  · go_wp2_with fail
    refine (parse_any _ bs).mono ?_
    rintro e w2 ⟨v2, he, h2, hb2⟩; rw [hc] at he; subst he
    obtain ⟨b2, A2, n2, c2, rfl, h2⟩ := h2.op
    rw [hz] at h2
    have hB2 := hb1.trans (hb2.mono hb1.size)
    clear hb2
    go_wp2_with fail
    refine (rparse_any _ bs).mono ?_
    rintro e w3 ⟨v3, he, h3, hb3⟩; rw [hc] at he; subst he
    obtain ⟨b3, A3, n3, c3, rfl, h3⟩ := h3.op
    rw [hz] at h3
    obtain ⟨Lz, hb3', hz3⟩ := locs1 hb3
    have hz3 := h2.below hb3'
    have hB3 := hB2.trans (hb3'.mono hB2.size)
    clear hb3
    have Lz4 := Lz.alloc (.cells #[.bool b3, .slice A3 n3 c3] 24)
    have cz := Lz4.cell
    have Ly4 := Loc.new w3 #[.bool b3, .slice A3 n3 c3] 24
    have cy := Ly4.cell
    have hBn := hB3.trans ((below1 w3 (.cells #[.bool b3, .slice A3 n3 c3] 24)).mono hB3.size)
    have hS := same_VV _ _ _ _ _ z z (hz3.below (below1 w3 (.cells #[.bool b3, .slice A3 n3 c3] 24))) (h3.below (below1 w3 (.cells #[.bool b3, .slice A3 n3 c3] 24))) rfl
    have hz4 := hz3.below (below1 w3 (.cells #[.bool b3, .slice A3 n3 c3] 24))
    clear hz3 h3 h2 hB3 hb3' hB2 Lz hb1
    by_cases h0 : pc = 0
    · subst h0
      have HT := Lib.hid (htx rfl)
      clear htx hz hc
      go_wp2_with fail
      refine hS.mono ?_
      rintro e w5 ⟨rfl, hb5⟩
      have Lz5 := Lz4.below hb5
      have cz5 := Lz5.cell
      clear cz cy hS
      go_wp2_with fail
      refine (text_V _ _ _ z (hz4.below hb5) (by omega)).mono ?_
      rintro e w6 ⟨he, hb6⟩
      rw [HT.out] at he
      subst he
      go_wp2_with fail
      go_ret
      exact ⟨rfl, (hBn.trans (hb5.mono hBn.size)).trans (hb6.mono (hBn.trans (hb5.mono hBn.size)).size)⟩
    · have hpb : ((pc : Int) == 0) = false := by rw [beq_eq_false_iff_ne]; omega
      clear htx hz hc
      go_wp2_with fail
      refine hS.mono ?_
      rintro e w5 ⟨rfl, hb5⟩
      go_wp2_with fail
      go_ret
      exact ⟨rfl, (hBn.trans (hb5.mono hBn.size))⟩
  · go_wp2_with fail
    go_ret
    exact ⟨rfl, hb1⟩
end Go.Proofs.Ytlbgnndjacagkaa
