/- Arguments opened: an api.Int, out of the form's reading. -/
import Derived.Test.YtlbgnndjacagkaaRows
import Derived.Test.YtlbgnndjacagkaaInt1
import Derived.ProofKit
import Derived.OpenShut
import Derived.ShutString
import Derived.ChangeOld
import Derived.Lib.SmallJoins
namespace Go.Proofs.Ytlbgnndjacagkaa
open Go.ChangeShapes Go.WideShapes Go.ChangeAt Go.RowKit Go.Joins
open Go.ChangeMaps (open_string shut_string)

theorem own : ownKnob Try.prog.godebug = none := by kernel_rfl
theorem laidOut : laidOutB Try.prog = true := by kernel_rfl
theorem cellsInt : Try.prog.cellsOf 24 = 2 := by kernel_rfl
theorem cellsU32 : Try.prog.cellsOf 44 = 1 := by kernel_rfl

theorem open_Words {H : Type} {enc : TypeId × Value → H} {W : World} {base : Nat} {fuel : Nat} {v : Value} {x : DataW H × List MemPlace}
    (h : DataW.trod enc Try.prog W base (fun _ => true) true fuel 22 [v] = some x) : ∃ xs, Words W (fun _ => False) v xs := by
  rcases open_ints Try.underlying22 Try.underlying44 cellsU32 h with ⟨hcs, _⟩ | ⟨a, len, cap, zs, hcs, _, hl, hm, hz, _, hcell, hwz⟩
  · simp at hcs
    subst hcs
    exact ⟨[], Words.nil _ _⟩
  · simp at hcs
    subst hcs
    have hz' : zs.length = cap := by simpa using hz
    have hw : ∀ z ∈ zs, 0 ≤ z ∧ z < 4294967296 := fun z hz => by
      have h := hwz z hz
      have := bounds_u32 h
      omega
    have hlen : ((zs.take len).map Int.toNat).length = len := by simp; omega
    refine ⟨(zs.take len).map Int.toNat, ⟨_, _, by rw [hlen], by rw [hlen]; exact hl, hm, by simp, fun hn => ⟨a, rfl, ?_, id, fun j u hu => ?_⟩⟩, ?_⟩
    · rw [hlen] at hn
      have h0 := hcell 0 (by omega)
      rw [addr_zero] at h0
      exact World.block_lt_of_cell? W a h0
    · have hj : j < len := by have := (List.getElem?_eq_some_iff.1 hu).1; simp at this; omega
      have hjz : j < zs.length := by omega
      rw [hcell j hjz]
      have e : zs.getD j 0 = zs[j] := by simp [hjz]
      rw [nums_get (by rw [hlen]; exact hj)] at hu
      rw [← hu, e]
      simp only [List.getElem_map, List.getElem_take]
      have := hw zs[j] (List.getElem_mem hjz)
      congr 2; omega
    · intro x hx
      obtain ⟨z, hz1, rfl⟩ := List.mem_map.1 hx
      have := hw z (List.mem_of_mem_take hz1)
      omega

theorem open_Int {H : Type} {enc : TypeId × Value → H} {W : World} {base : Nat} {r : Reach} {b0 : Nat} {v : Value} {d : DataW H} {p : List MemPlace}
    (hv : Value.okWide Try.prog W r b0 24 v) (h : DataW.Trod enc Try.prog W base (fun _ => true) true 24 v d p) : ∃ neg xs, IntR W (fun _ => False) v neg xs := by
  obtain ⟨c0, c1, y0, y1, m, rfl, _, _, h0, h1⟩ := open_agg2 Try.underlying24 (by kernel_rfl) cellsInt hv h
  obtain ⟨b, e, _⟩ := DataW.trod_bool Try.underlying4 h0
  simp at e
  subst e
  obtain ⟨xs, hx⟩ := open_Words h1
  exact ⟨b, xs, _, rfl, hx⟩
end Go.Proofs.Ytlbgnndjacagkaa
