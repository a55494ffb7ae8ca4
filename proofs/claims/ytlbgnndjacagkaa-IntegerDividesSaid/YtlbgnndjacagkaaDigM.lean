/- The word of a quotient: the plain law of digit. -/
import Derived.Test.YtlbgnndjacagkaaRows
import Derived.Test.YtlbgnndjacagkaaInt1
import Derived.Test.YtlbgnndjacagkaaBits
namespace Go.Proofs.Ytlbgnndjacagkaa
open Go.RowKit

/-- V and U by their upper words: N a power of the base. -/
structure Split (N V U ylo v2 vt ulo u2 u1 u0 : Nat) : Prop where
  hN : 0 < N
  hV : V = ylo + N * (v2 + 4294967296 * vt)
  hU : U = ulo + N * (u2 + 4294967296 * (u1 + 4294967296 * u0))
  hy : ylo < N
  hu : ulo < N
  hv2 : v2 < 4294967296
  hu2 : u2 < 4294967296
  hu1 : u1 < 4294967296
  hvt : 2147483648 ≤ vt
  hvt2 : vt < 4294967296
  hlt : U < 4294967296 * V

section
variable {N V U ylo v2 vt ulo u2 u1 u0 : Nat} (S : Split N V U ylo v2 vt ulo u2 u1 u0)
include S
theorem Split.posV : 0 < V := by
  have h := S.hV
  have : N * 1 ≤ N * (v2 + 4294967296 * vt) := Nat.mul_le_mul_left _ (by have := S.hvt; omega)
  have := S.hN
  omega
theorem Split.top_le : u0 ≤ vt := by
  have h1 : N * (4294967296 * (4294967296 * u0)) ≤ U := by
    rw [S.hU]
    have : N * (4294967296 * (4294967296 * u0)) ≤ N * (u2 + 4294967296 * (u1 + 4294967296 * u0)) := Nat.mul_le_mul_left _ (by omega)
    omega
  have h2 : V < N * (v2 + 4294967296 * vt + 1) := by
    rw [S.hV, Nat.mul_add N (v2 + 4294967296 * vt) 1]
    have := S.hy
    omega
  have h3 : N * (v2 + 4294967296 * vt + 1) ≤ N * (4294967296 * (vt + 1)) := Nat.mul_le_mul_left _ (by have := S.hv2; omega)
  have h4 : N * (4294967296 * (4294967296 * u0)) < N * (4294967296 * (4294967296 * (vt + 1))) := by
    have e1 : N * (4294967296 * (4294967296 * (vt + 1))) = 4294967296 * (N * (4294967296 * (vt + 1))) := by rw [Nat.mul_left_comm]
    rw [e1]
    have := S.hlt
    omega
  have h5 := Nat.lt_of_mul_lt_mul_left h4
  omega
theorem Split.top_lt : u1 + 4294967296 * u0 < 4294967296 * (vt + 1) := by
  have := S.top_le
  have := S.hu1
  omega
theorem Split.q_top : U / V * vt ≤ u1 + 4294967296 * u0 := by
  have h1 := Nat.div_mul_le_self U V
  generalize U / V = q at *
  have h2 : q * (N * (4294967296 * vt)) ≤ q * V := Nat.mul_le_mul_left _ (by
    rw [S.hV]
    have : N * (4294967296 * vt) ≤ N * (v2 + 4294967296 * vt) := Nat.mul_le_mul_left _ (by omega)
    omega)
  have h3 : U < N * (4294967296 * (u1 + 4294967296 * u0 + 1)) := by
    rw [S.hU]
    have : N * (u2 + 4294967296 * (u1 + 4294967296 * u0) + 1) ≤ N * (4294967296 * (u1 + 4294967296 * u0 + 1)) := Nat.mul_le_mul_left _ (by have := S.hu2; omega)
    rw [Nat.mul_add N _ 1] at this
    have := S.hu
    omega
  have e : q * (N * (4294967296 * vt)) = N * (4294967296 * (q * vt)) := by rw [Nat.mul_left_comm q N, Nat.mul_left_comm q 4294967296]
  have h4 : N * (4294967296 * (q * vt)) < N * (4294967296 * (u1 + 4294967296 * u0 + 1)) := by omega
  have h5 := Nat.lt_of_mul_lt_mul_left h4
  omega
theorem Split.q_lt : U / V < 4294967296 := by
  rw [Nat.div_lt_iff_lt_mul S.posV]
  exact S.hlt
/-- The test says that the guess is too great. -/
theorem Split.less {g r : Nat} (hg : g * vt + r = u1 + 4294967296 * u0) (h : 4294967296 ≤ g ∨ r * 4294967296 + u2 < g * v2) : U / V < g := by
  rcases h with h | h
  · have := S.q_lt; omega
  · refine Nat.lt_of_not_le fun hle => ?_
    have h1 : g * V ≤ U := Nat.le_trans (Nat.mul_le_mul_right _ hle) (Nat.div_mul_le_self U V)
    have h2 : g * (N * (v2 + 4294967296 * vt)) ≤ g * V := Nat.mul_le_mul_left _ (by rw [S.hV]; omega)
    have h3 : U < N * (u2 + 4294967296 * (u1 + 4294967296 * u0) + 1) := by rw [S.hU, Nat.mul_add N _ 1]; have := S.hu; omega
    have e : g * (N * (v2 + 4294967296 * vt)) = N * (g * v2 + 4294967296 * (g * vt)) := by rw [Nat.mul_left_comm g N, Nat.mul_add g, Nat.mul_left_comm g 4294967296]
    have h4 : N * (g * v2 + 4294967296 * (g * vt)) < N * (u2 + 4294967296 * (u1 + 4294967296 * u0) + 1) := by omega
    have h5 := Nat.lt_of_mul_lt_mul_left h4
    omega
/-- The guess at the end is too great by at most one. -/
theorem Split.near {g r : Nat} (hg : g * vt + r = u1 + 4294967296 * u0) (hb : g < 4294967296) (h : g * v2 ≤ r * 4294967296 + u2) : g ≤ U / V + 1 := by
  have h1 : N * (g * v2 + 4294967296 * (g * vt)) ≤ U := by
    rw [S.hU]
    have : N * (g * v2 + 4294967296 * (g * vt)) ≤ N * (u2 + 4294967296 * (u1 + 4294967296 * u0)) := Nat.mul_le_mul_left _ (by omega)
    omega
  have h2 : g * ylo ≤ 4294967295 * N := Nat.mul_le_mul (by omega) (Nat.le_of_lt S.hy)
  have h3 : N * 4294967296 ≤ V := by
    rw [S.hV]
    have : N * 4294967296 ≤ N * (v2 + 4294967296 * vt) := Nat.mul_le_mul_left _ (by have := S.hvt; omega)
    omega
  have e : g * V = g * ylo + N * (g * v2 + 4294967296 * (g * vt)) := by
    have := S.hV
    rw [this, Nat.mul_add, Nat.mul_left_comm g N, Nat.mul_add g, Nat.mul_left_comm g 4294967296]
  have h4 : g * V < U + V := by have := S.hN; omega
  have h5 : g * V < (U / V + 1 + 1) * V := by
    have := Nat.div_add_mod U V
    have h6 := Nat.mod_lt U S.posV
    rw [Nat.add_mul, Nat.add_mul, Nat.mul_comm (U / V) V]
    omega
  have := Nat.lt_of_mul_lt_mul_right h5
  omega
theorem Split.broke {g r : Nat} (hg : g * vt + r = u1 + 4294967296 * u0) (hr : 4294967296 ≤ r) : g < 4294967296 ∧ g * v2 ≤ r * 4294967296 + u2 := by
  have h1 := S.top_lt
  have h2 : g * vt < 4294967296 * vt := by omega
  have h3 := Nat.lt_of_mul_lt_mul_right h2
  refine ⟨h3, ?_⟩
  have h4 : g * v2 ≤ 4294967296 * 4294967296 := Nat.mul_le_mul (by omega) (by have := S.hv2; omega)
  omega
theorem Split.first : (u1 + 4294967296 * u0) / vt ≤ 4294967298 ∧ U / V ≤ (u1 + 4294967296 * u0) / vt := by
  constructor
  · rw [← Nat.lt_succ_iff]
    rw [Nat.div_lt_iff_lt_mul (by have := S.hvt; omega)]
    have := S.top_lt
    have := S.hvt
    omega
  · rw [Nat.le_div_iff_mul_le (by have := S.hvt; omega)]
    exact S.q_top
end

/-- Multiply and subtract, one word. -/
theorem msub_step (nk ok yk B g c b u y d p c' b' : Nat) (hinv : nk + g * yk = ok + B * (c + b)) (hp : p = c + g * y) (hc : c' = p / 4294967296) (hd : d + p % 4294967296 + b = u + 4294967296 * b') :
    (nk + B * d) + g * (yk + B * y) = (ok + B * u) + B * 4294967296 * (c' + b') := by
  have h1 := Nat.div_add_mod p 4294967296
  rw [← hc] at h1
  have h2 : d + g * y + c + b = u + 4294967296 * (c' + b') := by omega
  have h3 : B * (d + g * y + c + b) = B * (u + 4294967296 * (c' + b')) := by rw [h2]
  simp only [Nat.mul_add] at h3 hinv ⊢
  rw [Nat.mul_left_comm g B y, Nat.mul_assoc B 4294967296 c', Nat.mul_assoc B 4294967296 b']
  omega
/-- Add back, one word. -/
theorem addb_step (nk ok yk B c u y : Nat) (hinv : nk + B * c = ok + yk) :
    (nk + B * ((u + y + c) % 4294967296)) + B * 4294967296 * ((u + y + c) / 4294967296) = (ok + B * u) + (yk + B * y) := by
  have h1 := Nat.div_add_mod (u + y + c) 4294967296
  generalize (u + y + c) / 4294967296 = e at *
  generalize (u + y + c) % 4294967296 = r at *
  have h3 : B * (4294967296 * e + r) = B * (u + y + c) := by rw [h1]
  simp only [Nat.mul_add] at h3 ⊢
  rw [Nat.mul_assoc B]
  omega
/-- The end of multiply and subtract: nw the n + 1 new words. -/
theorem msub_end {nw g V U T b : Nat} (h : nw + g * V = U + T * b) (hw : nw < T) (hb : b ≤ 1) (hV : 0 < V) (h1 : U / V ≤ g) (h2 : g ≤ U / V + 1) (hUT : U % V < T) :
    (b = 0 → g = U / V ∧ nw = U % V) ∧ (b = 1 → g = U / V + 1 ∧ nw + V = T + U % V) := by
  have hd := Nat.div_add_mod U V
  rcases (by omega : g = U / V ∨ g = U / V + 1) with hg | hg
  · rw [hg, Nat.mul_comm] at h
    have h3 : nw + U % V = nw + U % V := rfl
    refine ⟨fun h0 => ⟨hg, by rw [h0, Nat.mul_zero] at h; omega⟩, fun h0 => ?_⟩
    rw [h0, Nat.mul_one] at h
    omega
  · rw [hg, Nat.add_mul, Nat.one_mul, Nat.mul_comm (U / V)] at h
    refine ⟨fun h0 => ?_, fun h0 => ⟨hg, by rw [h0, Nat.mul_one] at h; omega⟩⟩
    rw [h0, Nat.mul_zero] at h
    have := Nat.mod_lt U hV
    omega
end Go.Proofs.Ytlbgnndjacagkaa
