/- The contracts at canonical integers. -/
import Derived.Test.YtlbgnndjacagkaaRows
import Derived.Test.YtlbgnndjacagkaaApi4
import Derived.Test.YtlbgnndjacagkaaText1
namespace Go.Proofs.Ytlbgnndjacagkaa
open Go.RowKit

theorem validR_V (z : Int) : validR (decide (z < 0)) (dig z.natAbs) = true := by
  unfold validR
  split
  · rename_i h
    rw [dig_nil_iff] at h
    simp; omega
  · have := (can_dig z.natAbs).2 ‹_›
    simpa using this

theorem valid_V (w : World) (X : Nat → Prop) (v : Value) (z : Int) (h : IntV w X v z) :
    Calls Try.prog 16 #[v] w fun e w' => e = .returned (.bool true) ∧ Below w.heap.size w w' :=
  (valid_any w X v _ _ h).mono fun e w' h => by rw [validR_V] at h; exact h

theorem fits_in {n : Int} (h0 : -9223372036854775808 ≤ n) (h1 : n ≤ 9223372036854775807) : smallI n = n ∧ fits n = true := by
  have : fits n = true := by unfold fits; simp; omega
  exact ⟨by simp [smallI, this], this⟩

theorem small_V (w : World) (X : Nat → Prop) (v : Value) (n : Int) (h : IntV w X v n) (h0 : -9223372036854775808 ≤ n) (h1 : n ≤ 9223372036854775807) :
    Calls Try.prog 15 #[v] w fun e w' => e = .returned (.tuple #[.int .i64 n, .bool true]) ∧ Below w.heap.size w w' :=
  (small_any w X v _ _ h).mono fun e w' h => by rw [sv_dig, (fits_in h0 h1).1, (fits_in h0 h1).2] at h; exact h

theorem same_V (w : World) (X Y : Nat → Prop) (v1 v2 : Value) (z y : Int) (h1 : IntV w X v1 z) (h2 : IntV w Y v2 y) :
    Calls Try.prog 17 #[v1, v2] w fun e w' => e = .returned (.bool (decide (z = y))) ∧ Below w.heap.size w w' :=
  (lsame_any w (fun _ => False) v1 v2 _ _ _ _ (h1.weak (fun _ _ h => h.elim)) (h2.weak (fun _ _ h => h.elim))).mono fun e w' h => by rw [sameR_V] at h; exact h

theorem same_VV (w : World) (X Y : Nat → Prop) (v1 v2 : Value) (z y : Int) (h1 : IntV w X v1 z) (h2 : IntV w Y v2 y) (e : z = y) :
    Calls Try.prog 17 #[v1, v2] w fun e w' => e = .returned (.bool true) ∧ Below w.heap.size w w' :=
  (same_V w X Y v1 v2 z y h1 h2).mono fun e' w' h => by rw [decide_eq_true e] at h; exact h

theorem text_V (w : World) (X : Nat → Prop) (v : Value) (z : Int) (h : IntV w X v z) (hsz : (dig z.natAbs).length ≤ 1000000000) :
    Calls Try.prog 33 #[v] w fun e w' => e = .returned (.string ⟨(textB z).toArray⟩) ∧ Below w.heap.size w w' :=
  (text_any w X v _ _ h hsz).mono fun e w' h => by rw [sv_dig] at h; exact h

theorem sign_V (w : World) (X : Nat → Prop) (v : Value) (z : Int) (h : IntV w X v z) :
    Calls Try.prog 23 #[v] w fun e w' => e = .returned (.int .i64 z.sign) ∧ Below w.heap.size w w' :=
  (sign_any w X v _ _ h).mono fun e w' h => by rw [sv_dig] at h; exact h
end Go.Proofs.Ytlbgnndjacagkaa
