/- Contracts of the functions that the statements reach, part 36. -/
import Derived.Test.YtpeglenapmkdfaaGreatM35
set_option linter.unusedSimpArgs false
set_option linter.unusedVariables false

/- The sizes of the tableaux of small systems. -/
namespace Go.Proofs.YtpeglenapmkdfaaGreat
theorem szk_of {m n k j K1 K2 : Nat} {F : Nat → Nat → Rat} {Bv d : Nat → Rat} (hF : ∀ i, i < m → ∀ j, j < n → Rsz k (F i j)) (hB : ∀ i, i < m → Rsz k (Bv i)) (hd : ∀ c, c ≤ n + m → Rsz j (d c)) (hm1 : 1 ≤ m) (hm : m ≤ 80) (hk : 1 ≤ k) (hj : 2 ≤ j)
    (hK1 : (k * (n + 2) + 1) * m ≤ K1) (hK2 : j + (j + K1 + 1) * m + 3 ≤ K2) : Szk K1 K2 m n (t0 m n F Bv) d := fun S hG =>
  ⟨t0_size hF hB hm1 hm hk hK1 hG, prc_size (t0_size hF hB hm1 hm hk hK1 hG) hG.lt hd hj hK2⟩
theorem rsz_d2 {nc k : Nat} {kc : Nat → Rat} (h : ∀ i, i < nc → Rsz k (kc i)) (hk : 2 ≤ k) (c : Nat) : Rsz k (d2 nc kc c) := by
  unfold d2
  split
  · exact h c (by assumption)
  · exact (rsz_int (z := 0) (by decide) (by decide)).mono hk
/-- The sizes for Solve. -/
theorem Sys.sz1 {k K1 K2 : Nat} {w : World} {v : Value} {m mb : Nat} {N : Nat → Nat} {F : Nat → Nat → Rat} {Bv : Nat → Rat} (hS : Sys k w v m mb N F Bv) (hk : 1 ≤ k) (hm : m ≤ 6) (hn : ∀ i, i < m → N i ≤ 8) (hK1 : 60 * k + 6 ≤ K1) (hK2 : 6 * K1 + 23 ≤ K2) :
    VS m mb N → Szk K1 K2 m (N 0) (t0 m (N 0) F Bv) (d1 m (N 0)) := fun ⟨h1, _, h3, h4, _, h6⟩ => by
  obtain ⟨A, c, B, d, rfl, hA, hB⟩ := hS
  have hn0 := hn 0 (by omega)
  obtain ⟨us, A', cap, hl, _, _, _, _, hu⟩ := hA
  have e1 : k * (N 0 + 2) ≤ k * 10 := Nat.mul_le_mul_left k (by omega)
  have e2 : (k * (N 0 + 2) + 1) * m ≤ (k * 10 + 1) * 6 := Nat.mul_le_mul (by omega) hm
  have e3 : (2 + K1 + 1) * m ≤ (2 + K1 + 1) * 6 := Nat.mul_le_mul_left _ hm
  refine szk_of (k := k) (j := 2) (fun i hi j hj => ?_) (fun i hi => hB.rsz hk i (by omega)) (fun c _ => rsz_d1 c) h1 (by omega) hk (by omega) (by omega) (by omega)
  exact (hu i _ (List.getElem?_eq_getElem (by omega))).rsz hk j (by rw [h6 i hi]; exact hj)
/-- The sizes for Minimize. -/
theorem Sys.sz2 {k K1 K2 : Nat} {w w2 : World} {v vc : Value} {m mb nc : Nat} {N : Nat → Nat} {F : Nat → Nat → Rat} {Bv kc : Nat → Rat} (hS : Sys k w v m mb N F Bv) (hc : Nums k w2 (fun _ => False) vc nc kc) (hk : 2 ≤ k) (hm : m ≤ 6) (hn : ∀ i, i < m → N i ≤ 8) (hK1 : 60 * k + 6 ≤ K1) (hK2 : 7 * k + 6 * K1 + 9 ≤ K2) :
    VS m mb N → nc = N 0 → Szk K1 K2 m (N 0) (t0 m (N 0) F Bv) (d2 (N 0) kc) := fun ⟨h1, _, h3, h4, _, h6⟩ hnc => by
  obtain ⟨A, c, B, d, rfl, hA, hB⟩ := hS
  have hn0 := hn 0 (by omega)
  obtain ⟨us, A', cap, hl, _, _, _, _, hu⟩ := hA
  have e1 : k * (N 0 + 2) ≤ k * 10 := Nat.mul_le_mul_left k (by omega)
  have e2 : (k * (N 0 + 2) + 1) * m ≤ (k * 10 + 1) * 6 := Nat.mul_le_mul (by omega) hm
  have e3 : (k + K1 + 1) * m ≤ (k + K1 + 1) * 6 := Nat.mul_le_mul_left _ hm
  refine szk_of (k := k) (j := k) (fun i hi j hj => ?_) (fun i hi => hB.rsz (by omega) i (by omega)) (fun c _ => rsz_d2 (fun i hi => hc.rsz (by omega) i (by omega)) hk c) h1 (by omega) (by omega) hk (by omega) (by omega)
  exact (hu i _ (List.getElem?_eq_getElem (by omega))).rsz (by omega) j (by rw [h6 i hi]; exact hj)
end Go.Proofs.YtpeglenapmkdfaaGreat

