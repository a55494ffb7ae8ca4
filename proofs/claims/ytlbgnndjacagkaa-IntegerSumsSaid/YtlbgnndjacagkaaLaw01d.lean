/- IntegerSums: the law's walk. -/
import Derived.Test.YtlbgnndjacagkaaRows
import Derived.Test.YtlbgnndjacagkaaKnown
import Derived.Test.YtlbgnndjacagkaaVers
import Derived.Test.YtlbgnndjacagkaaApi8
import Derived.Deep.RegionHeld3
import Derived.Deep.DrawnRows
import Derived.Deep.DeepCutAuto
namespace Go.Proofs.Ytlbgnndjacagkaa
open Go.RowKit
attribute [local go_sem ↓] Go.wp_at_zero Go.wp_at_succ
attribute [local go_sem] beq_self_eq_true

/-- Two boxes filled: what they hold, and what else is kept. -/
theorem fill_two {W w0 : World} {g h B : Nat} {t : TypeId} {a0 a1 d0 d1 : Value} {b1 b2 : Bool} {A1 A2 : Option Addr} {m1 c1 m2 c2 : Nat} {z1 z2 : Int}
    (Lg : Loc W g t #[a0, a1]) (Lh : Loc W h t #[d0, d1]) (hne : g ≠ h) (hi1 : IntV W (fun b => b = g ∨ b = h) (.agg #[.bool b1, .slice A1 m1 c1]) z1) (hi2 : IntV W (fun b => b = g ∨ b = h) (.agg #[.bool b2, .slice A2 m2 c2]) z2)
    (hb : Below B w0 W) (hg : B ≤ g) (hh : B ≤ h) :
    Loc ((((W.setCell ⟨g, 0, none⟩ (.bool b1)).setCell ⟨g, 1, none⟩ (.slice A1 m1 c1)).setCell ⟨h, 0, none⟩ (.bool b2)).setCell ⟨h, 1, none⟩ (.slice A2 m2 c2)) g t #[.bool b1, .slice A1 m1 c1] ∧
    Loc ((((W.setCell ⟨g, 0, none⟩ (.bool b1)).setCell ⟨g, 1, none⟩ (.slice A1 m1 c1)).setCell ⟨h, 0, none⟩ (.bool b2)).setCell ⟨h, 1, none⟩ (.slice A2 m2 c2)) h t #[.bool b2, .slice A2 m2 c2] ∧
    IntV ((((W.setCell ⟨g, 0, none⟩ (.bool b1)).setCell ⟨g, 1, none⟩ (.slice A1 m1 c1)).setCell ⟨h, 0, none⟩ (.bool b2)).setCell ⟨h, 1, none⟩ (.slice A2 m2 c2)) (fun _ => False) (.agg #[.bool b1, .slice A1 m1 c1]) z1 ∧
    IntV ((((W.setCell ⟨g, 0, none⟩ (.bool b1)).setCell ⟨g, 1, none⟩ (.slice A1 m1 c1)).setCell ⟨h, 0, none⟩ (.bool b2)).setCell ⟨h, 1, none⟩ (.slice A2 m2 c2)) (fun _ => False) (.agg #[.bool b2, .slice A2 m2 c2]) z2 ∧
    Below B w0 ((((W.setCell ⟨g, 0, none⟩ (.bool b1)).setCell ⟨g, 1, none⟩ (.slice A1 m1 c1)).setCell ⟨h, 0, none⟩ (.bool b2)).setCell ⟨h, 1, none⟩ (.slice A2 m2 c2)) := by
  have k : Keep (fun b => b = g ∨ b = h) W ((((W.setCell ⟨g, 0, none⟩ (.bool b1)).setCell ⟨g, 1, none⟩ (.slice A1 m1 c1)).setCell ⟨h, 0, none⟩ (.bool b2)).setCell ⟨h, 1, none⟩ (.slice A2 m2 c2)) :=
    ((((Keep.refl _ W).set (.inl (.inl rfl)) _).set (.inl (.inl rfl)) _).set (.inl (.inr rfl)) _).set (.inl (.inr rfl)) _
  refine ⟨?_, ?_, (hi1.keep k).weak (fun _ _ h => h.elim), (hi2.keep k).weak (fun _ _ h => h.elim), (((hb.setCell hg _).setCell hg _).setCell hh _).setCell hh _⟩
  · have := ((((Lg.set 0 (.bool b1)).set 1 (.slice A1 m1 c1)).far (p := ⟨h, 0, none⟩) hne (.bool b2)).far (p := ⟨h, 1, none⟩) hne (.slice A2 m2 c2))
    simpa using this
  · have := ((((Lh.far (p := ⟨g, 0, none⟩) (Ne.symm hne) (.bool b1)).far (p := ⟨g, 1, none⟩) (Ne.symm hne) (.slice A1 m1 c1)).set 0 (.bool b2)).set 1 (.slice A2 m2 c2))
    simpa using this

/-- One box made full, the other filled. -/
theorem fill_one {W w0 : World} {h B : Nat} {t : TypeId} {d0 d1 : Value} {b1 b2 : Bool} {A1 A2 : Option Addr} {m1 c1 m2 c2 : Nat} {z1 z2 : Int}
    (Lh : Loc W h t #[d0, d1]) (hi1 : IntV W (fun b => b = h) (.agg #[.bool b1, .slice A1 m1 c1]) z1) (hi2 : IntV W (fun b => b = h) (.agg #[.bool b2, .slice A2 m2 c2]) z2)
    (hb : Below B w0 W) (hg : B ≤ W.heap.size) (hh : B ≤ h) :
    Loc (((W.alloc (.cells #[.bool b1, .slice A1 m1 c1] t)).setCell ⟨h, 0, none⟩ (.bool b2)).setCell ⟨h, 1, none⟩ (.slice A2 m2 c2)) W.heap.size t #[.bool b1, .slice A1 m1 c1] ∧
    Loc (((W.alloc (.cells #[.bool b1, .slice A1 m1 c1] t)).setCell ⟨h, 0, none⟩ (.bool b2)).setCell ⟨h, 1, none⟩ (.slice A2 m2 c2)) h t #[.bool b2, .slice A2 m2 c2] ∧
    IntV (((W.alloc (.cells #[.bool b1, .slice A1 m1 c1] t)).setCell ⟨h, 0, none⟩ (.bool b2)).setCell ⟨h, 1, none⟩ (.slice A2 m2 c2)) (fun _ => False) (.agg #[.bool b1, .slice A1 m1 c1]) z1 ∧
    IntV (((W.alloc (.cells #[.bool b1, .slice A1 m1 c1] t)).setCell ⟨h, 0, none⟩ (.bool b2)).setCell ⟨h, 1, none⟩ (.slice A2 m2 c2)) (fun _ => False) (.agg #[.bool b2, .slice A2 m2 c2]) z2 ∧
    Below B w0 (((W.alloc (.cells #[.bool b1, .slice A1 m1 c1] t)).setCell ⟨h, 0, none⟩ (.bool b2)).setCell ⟨h, 1, none⟩ (.slice A2 m2 c2)) := by
  have hlt := Lh.lt
  have k : Keep (fun b => b = h) W (((W.alloc (.cells #[.bool b1, .slice A1 m1 c1] t)).setCell ⟨h, 0, none⟩ (.bool b2)).setCell ⟨h, 1, none⟩ (.slice A2 m2 c2)) :=
    Keep.set (p := ⟨h, 1, none⟩) (Keep.set (p := ⟨h, 0, none⟩) ((Keep.refl (fun b => b = h) W).alloc _) (Or.inl rfl) _) (Or.inl rfl) _
  refine ⟨?_, ?_, (hi1.keep k).weak (fun _ _ h => h.elim), (hi2.keep k).weak (fun _ _ h => h.elim), ((hb.alloc hg _).setCell hh _).setCell hh _⟩
  · exact ((Loc.new W #[.bool b1, .slice A1 m1 c1] t).far (p := ⟨h, 0, none⟩) (show W.heap.size ≠ h by omega) (.bool b2)).far (p := ⟨h, 1, none⟩) (show W.heap.size ≠ h by omega) (.slice A2 m2 c2)
  · have := ((Lh.alloc (.cells #[.bool b1, .slice A1 m1 c1] t)).set 0 (.bool b2)).set 1 (.slice A2 m2 c2)
    simpa using this

/-- Both boxes made full. -/
theorem fill_none {W w0 : World} {B : Nat} {t : TypeId} {b1 b2 : Bool} {A1 A2 : Option Addr} {m1 c1 m2 c2 : Nat} {z1 z2 : Int}
    (hi1 : IntV W (fun _ => False) (.agg #[.bool b1, .slice A1 m1 c1]) z1) (hi2 : IntV W (fun _ => False) (.agg #[.bool b2, .slice A2 m2 c2]) z2) (hb : Below B w0 W) (hg : B ≤ W.heap.size) :
    Loc ((W.alloc (.cells #[.bool b1, .slice A1 m1 c1] t)).alloc (.cells #[.bool b2, .slice A2 m2 c2] t)) W.heap.size t #[.bool b1, .slice A1 m1 c1] ∧
    Loc ((W.alloc (.cells #[.bool b1, .slice A1 m1 c1] t)).alloc (.cells #[.bool b2, .slice A2 m2 c2] t)) (W.heap.size + 1) t #[.bool b2, .slice A2 m2 c2] ∧
    IntV ((W.alloc (.cells #[.bool b1, .slice A1 m1 c1] t)).alloc (.cells #[.bool b2, .slice A2 m2 c2] t)) (fun _ => False) (.agg #[.bool b1, .slice A1 m1 c1]) z1 ∧
    IntV ((W.alloc (.cells #[.bool b1, .slice A1 m1 c1] t)).alloc (.cells #[.bool b2, .slice A2 m2 c2] t)) (fun _ => False) (.agg #[.bool b2, .slice A2 m2 c2]) z2 ∧
    Below B w0 ((W.alloc (.cells #[.bool b1, .slice A1 m1 c1] t)).alloc (.cells #[.bool b2, .slice A2 m2 c2] t)) := by
  obtain ⟨l1, l2, l3, _⟩ := locs2 (Below.refl ((W.alloc (.cells #[.bool b1, .slice A1 m1 c1] t)).alloc (.cells #[.bool b2, .slice A2 m2 c2] t)).heap.size ((W.alloc (.cells #[.bool b1, .slice A1 m1 c1] t)).alloc (.cells #[.bool b2, .slice A2 m2 c2] t)))
  exact ⟨l1, l2, hi1.below l3, hi2.below l3, hb.trans (l3.mono hg)⟩

/-- The like, the second made first. -/
theorem fill_none' {W w0 : World} {B : Nat} {t : TypeId} {b1 b2 : Bool} {A1 A2 : Option Addr} {m1 c1 m2 c2 : Nat} {z1 z2 : Int}
    (hi1 : IntV W (fun _ => False) (.agg #[.bool b1, .slice A1 m1 c1]) z1) (hi2 : IntV W (fun _ => False) (.agg #[.bool b2, .slice A2 m2 c2]) z2) (hb : Below B w0 W) (hg : B ≤ W.heap.size) :
    Loc ((W.alloc (.cells #[.bool b2, .slice A2 m2 c2] t)).alloc (.cells #[.bool b1, .slice A1 m1 c1] t)) (W.heap.size + 1) t #[.bool b1, .slice A1 m1 c1] ∧
    Loc ((W.alloc (.cells #[.bool b2, .slice A2 m2 c2] t)).alloc (.cells #[.bool b1, .slice A1 m1 c1] t)) W.heap.size t #[.bool b2, .slice A2 m2 c2] ∧
    IntV ((W.alloc (.cells #[.bool b2, .slice A2 m2 c2] t)).alloc (.cells #[.bool b1, .slice A1 m1 c1] t)) (fun _ => False) (.agg #[.bool b1, .slice A1 m1 c1]) z1 ∧
    IntV ((W.alloc (.cells #[.bool b2, .slice A2 m2 c2] t)).alloc (.cells #[.bool b1, .slice A1 m1 c1] t)) (fun _ => False) (.agg #[.bool b2, .slice A2 m2 c2]) z2 ∧
    Below B w0 ((W.alloc (.cells #[.bool b2, .slice A2 m2 c2] t)).alloc (.cells #[.bool b1, .slice A1 m1 c1] t)) :=
  let ⟨a, b, c, d, e⟩ := fill_none (t := t) hi2 hi1 hb hg
  ⟨b, a, d, c, e⟩

set_option maxHeartbeats 16000000 in
theorem sums_walk (w : World) (v1 v2 v3 : Value) (n1 n2 n3 : Bool) (xs ys zs : List Nat) (h1 : IntR w (fun _ => False) v1 n1 xs) (h2 : IntR w (fun _ => False) v2 n2 ys) (h3 : IntR w (fun _ => False) v3 n3 zs) :
    Calls Try.prog 8 #[v1, v2, v3] w fun e w' => e = .returned (.bool true) ∧ Below w.heap.size w w' := by
  obtain ⟨A, c, rfl, _, _, H1⟩ := h1.open_
  obtain ⟨B, d, rfl, _, _, H2⟩ := h2.open_
  obtain ⟨C, f, rfl, _, _, H3⟩ := h3.open_
  have q1 := sv_len n1 xs H1.2
  have q2 := sv_len n2 ys H2.2
  have q3 := sv_len n3 zs H3.2
  go_enter Try.func8, Try.ntmps8
  go_wp2_with fail
  refine (known_any _).mono ?_
  rintro e w1 ⟨rfl, hb1⟩
  obtain ⟨Lx, Ly, Lz, hB1, hz1⟩ := locs3 hb1
  have cx := Lx.cell
  have cy := Ly.cell
  have cz := Lz.cell
  clear H1 H2 H3
  have hx1 := h1.below hB1
  have hy1 := h2.below hB1
  have hz1 := h3.below hB1
  by_cases hs1 : ¬ xs.length ≤ 10
  · go_wp2_with fail
    refine (lshort_any _ _ _ n1 xs hx1).mono ?_
    rintro e w2 ⟨rfl, hb2⟩
    go_wp2_with fail
    go_ret
    exact ⟨rfl, hB1.trans (hb2.mono hB1.size)⟩
  · have hs1 := Classical.not_not.1 hs1
    go_wp2_with fail
    refine (lshort_any _ _ _ n1 xs hx1).mono ?_
    rintro e w2 ⟨rfl, hb2⟩
    have Ly2 := Ly.below hb2
    have cy2 := Ly2.cell
    have hB2 := hB1.trans (hb2.mono hB1.size)
    clear cx cy cz
    by_cases hs2 : ¬ ys.length ≤ 10
    · go_wp2_with fail
      refine (lshort_any _ _ _ n2 ys (hy1.below hb2)).mono ?_
      rintro e w3 ⟨rfl, hb3⟩
      go_wp2_with fail
      go_ret
      exact ⟨rfl, hB2.trans (hb3.mono hB2.size)⟩
    · have hs2 := Classical.not_not.1 hs2
      go_wp2_with fail
      refine (lshort_any _ _ _ n2 ys (hy1.below hb2)).mono ?_
      rintro e w3 ⟨rfl, hb3⟩
      have k3 := hb2.trans (hb3.mono hb2.size)
      have hB3 := hB2.trans (hb3.mono hB2.size)
      have cz3 := (Lz.below k3).cell
      clear cy2
      by_cases hs3 : ¬ zs.length ≤ 10
      · go_wp2_with fail
        refine (lshort_any _ _ _ n3 zs (hz1.below k3)).mono ?_
        rintro e w4 ⟨rfl, hb4⟩
        go_wp2_with fail
        go_ret
        exact ⟨rfl, hB3.trans (hb4.mono hB3.size)⟩
      · have hs3 := Classical.not_not.1 hs3
        go_wp2_with fail
        refine (lshort_any _ _ _ n3 zs (hz1.below k3)).mono ?_
        rintro e w4 ⟨rfl, hb4⟩
        have k4 := k3.trans (hb4.mono k3.size)
        have hB4 := hB3.trans (hb4.mono hB3.size)
        clear cz3
        have Lx4 := Lx.below k4
        have Ly4 := Ly.below k4
        have Lz4 := Lz.below k4
        have hx4 := hx1.below k4
        have hy4 := hy1.below k4
        have hz4 := hz1.below k4
        clear hb1 hB1 hB2 hB3 hb2 hb3 hb4 k3 k4 Lx Ly Lz Ly2 hx1 hy1 hz1 h1 h2 h3
        go_upto_region 5 with fail
        go_cut [7, 8] (fun p q W => ∃ (g h : Nat) (bs : Bool) (As : Option Addr) (ns cs : Nat) (bd : Bool) (Ad : Option Addr) (nd cd : Nat), p = .pointer (some ⟨g, 0, none⟩) ∧ q = .pointer (some ⟨h, 0, none⟩) ∧
          Loc W g 24 #[.bool bs, .slice As ns cs] ∧ Loc W h 24 #[.bool bd, .slice Ad nd cd] ∧ IntV W (fun _ => False) (.agg #[.bool bs, .slice As ns cs]) (sv n1 xs + sv n2 ys) ∧ IntV W (fun _ => False) (.agg #[.bool bd, .slice Ad nd cd]) (sv n1 xs - sv n2 ys) ∧ Below w4.heap.size w4 W)
        case first =>
          have KS : Hid (∀ W, Below w4.heap.size w4 W → ((W.cell? ⟨w.heap.size, 0, none⟩ = some (.bool n1) ∧ W.cell? ⟨w.heap.size, 1, none⟩ = some (.slice A xs.length c)) ∧ (W.cell? ⟨w.heap.size + 1, 0, none⟩ = some (.bool n2) ∧ W.cell? ⟨w.heap.size + 1, 1, none⟩ = some (.slice B ys.length d)))) := fun W hW => cells_of ⟨Lx4.below hW, Ly4.below hW⟩
          go_region_held3 (fun W => ((W.cell? ⟨w.heap.size, 0, none⟩ = some (.bool n1) ∧ W.cell? ⟨w.heap.size, 1, none⟩ = some (.slice A xs.length c)) ∧ (W.cell? ⟨w.heap.size + 1, 0, none⟩ = some (.bool n2) ∧ W.cell? ⟨w.heap.size + 1, 1, none⟩ = some (.slice B ys.length d))))
            (first | (refine KS.out _ ?_; (repeat' (first | exact k1 | exact k2 | exact Below.refl _ _ | refine Below.drew ?_ | refine Below.alloc ?_ (by have := k1.size; simp; omega) _ | refine Below.alloc ?_ (by have := k2.size; simp; omega) _ | refine Below.alloc ?_ (by simp) _ | refine Below.setCell ?_ (by have := k2.size; simp; omega) _ | refine Below.setCell ?_ (by have := k1.size; simp; omega) _ | refine Below.setCell ?_ (by simp) _)); (first | done | fail "keep")))
            (first
              | (go_at_call 37; refine (add_any _ (fun _ => False) _ _ _ _ _ _ (hx4.below ?_) (hy4.below ?_) (by omega) (by omega)).mono ?_; ((repeat' (first | exact k1 | exact k2 | exact Below.refl _ _ | refine Below.drew ?_ | refine Below.alloc ?_ (by have := k1.size; simp; omega) _ | refine Below.alloc ?_ (by have := k2.size; simp; omega) _ | refine Below.alloc ?_ (by simp) _))); ((repeat' (first | exact k1 | exact k2 | exact Below.refl _ _ | refine Below.drew ?_ | refine Below.alloc ?_ (by have := k1.size; simp; omega) _ | refine Below.alloc ?_ (by have := k2.size; simp; omega) _ | refine Below.alloc ?_ (by simp) _))); rintro e u1 ⟨v1, rfl, h1, hb1⟩; obtain ⟨b1, A1, m1, c1, rfl, h1⟩ := h1.op; have s1 := hb1.size; (try simp only [World.size_alloc, World.size_drew] at s1); (first | (have q := locs2 (below_undrew hb1); obtain ⟨la1, la2, _, _⟩ := q) | (have q := locs1 (below_undrew hb1); obtain ⟨la1, _, _⟩ := q) | skip); (try (have la1 : Loc u1 w4.heap.size _ _ := la1)); (try (have la2 : Loc u1 (w4.heap.size + 1) _ _ := la2)); (try have ca1 := la1.cell); (try have fa1 := la1.frz); (try have ca2 := la2.cell); (try have fa2 := la2.frz); have k1 : Below w4.heap.size w4 u1 := Below.trans (by (repeat' (first | exact k1 | exact k2 | exact Below.refl _ _ | refine Below.drew ?_ | refine Below.alloc ?_ (by have := k1.size; simp; omega) _ | refine Below.alloc ?_ (by have := k2.size; simp; omega) _ | refine Below.alloc ?_ (by simp) _))) (hb1.mono (by first | omega | (simp only [World.size_alloc, World.size_drew]; omega) | (have := k1.size; omega) | (have := k2.size; omega) | (have := k1.size; simp only [World.size_alloc, World.size_drew]; omega) | (have := k2.size; simp only [World.size_alloc, World.size_drew]; omega))))
              | (go_at_call 38; refine (sub_any _ (fun _ => False) _ _ _ _ _ _ (hx4.below ?_) (hy4.below ?_) (by omega) (by omega)).mono ?_; ((repeat' (first | exact k1 | exact k2 | exact Below.refl _ _ | refine Below.drew ?_ | refine Below.alloc ?_ (by have := k1.size; simp; omega) _ | refine Below.alloc ?_ (by have := k2.size; simp; omega) _ | refine Below.alloc ?_ (by simp) _))); ((repeat' (first | exact k1 | exact k2 | exact Below.refl _ _ | refine Below.drew ?_ | refine Below.alloc ?_ (by have := k1.size; simp; omega) _ | refine Below.alloc ?_ (by have := k2.size; simp; omega) _ | refine Below.alloc ?_ (by simp) _))); rintro e u2 ⟨v2, rfl, h2, hb2⟩; obtain ⟨b2, A2, m2, c2, rfl, h2⟩ := h2.op; have s2 := hb2.size; (try simp only [World.size_alloc, World.size_drew] at s2); (first | (have q := locs2 hb2; obtain ⟨lb1, lb2, _, _⟩ := q) | (have q := locs1 hb2; obtain ⟨lb1, _, _⟩ := q) | skip); (try have cb1 := lb1.cell); (try have fb1 := lb1.frz); (try have cb1' := fun o => (lb1.alloc o).cell); (try have fb1' := fun o => (lb1.alloc o).frz); (try have cb2 := lb2.cell); (try have fb2 := lb2.frz); (first | have la1 := la1.below hb2 | have la1 := (la1.alloc _).below hb2 | have la1 := ((la1.alloc _).alloc _).below hb2 | skip); (first | have la2 := la2.below hb2 | skip); (try have ca1 := la1.cell); (try have fa1 := la1.frz); (try have ca1' := fun o => (la1.alloc o).cell); (try have fa1' := fun o => (la1.alloc o).frz); (try have ca2 := la2.cell); (try have fa2 := la2.frz); have k2 : Below w4.heap.size w4 u2 := Below.trans (by (repeat' (first | exact k1 | exact k2 | exact Below.refl _ _ | refine Below.drew ?_ | refine Below.alloc ?_ (by have := k1.size; simp; omega) _ | refine Below.alloc ?_ (by have := k2.size; simp; omega) _ | refine Below.alloc ?_ (by simp) _))) (hb2.mono (by first | omega | (simp only [World.size_alloc, World.size_drew]; omega) | (have := k1.size; omega) | (have := k2.size; omega) | (have := k1.size; simp only [World.size_alloc, World.size_drew]; omega) | (have := k2.size; simp only [World.size_alloc, World.size_drew]; omega))))
              | (fail "x"))
          all_goals go_wp2_with fail
          all_goals go_meet
          all_goals
            refine ⟨_, _, b1, A1, m1, c1, b2, A2, m2, c2, rfl, rfl, ?_⟩
            first
              | (with_reducible refine fill_none ?_ ?_ ?_ ?_)
                · with_reducible repeat' (first | refine h1.weak ?_ | refine IntV.below ?_ hb2 | refine IntV.below ?_ (below1 _ _))
                  exact fun _ _ h => h.elim
                · exact h2.weak (fun _ _ h => h.elim)
                · exact k2
                · exact k2.size
              | (with_reducible refine fill_none' ?_ ?_ ?_ ?_)
                · with_reducible repeat' (first | refine h1.weak ?_ | refine IntV.below ?_ hb2 | refine IntV.below ?_ (below1 _ _))
                  exact fun _ _ h => h.elim
                · exact h2.weak (fun _ _ h => h.elim)
                · exact k2
                · exact k2.size
              | (with_reducible refine fill_one (d0 := .bool false) (d1 := .slice none 0 0) ?_ ?_ ?_ ?_ ?_ ?_)
                · with_reducible first | exact la1 | exact la2 | exact lb1 | exact lb2
                · with_reducible repeat' (first | refine h1.weak ?_ | refine IntV.below ?_ hb2 | refine IntV.below ?_ (below1 _ _))
                  rintro b hb rfl; (show _ < _; (try simp only [World.size_alloc, World.size_drew]); omega)
                · with_reducible refine h2.weak ?_
                  rintro b hb rfl; (show _ < _; (try simp only [World.size_alloc, World.size_drew]); omega)
                · exact k2
                · exact k2.size
                · have e1 := k1.size; have e2 := k2.size; omega
              | (with_reducible refine fill_two (a0 := .bool false) (a1 := .slice none 0 0) (d0 := .bool false) (d1 := .slice none 0 0) ?_ ?_ ?_ ?_ ?_ ?_ ?_ ?_)
                · with_reducible first | exact la1 | exact la2 | exact lb1 | exact lb2 | exact la1.alloc _ | exact lb1.alloc _ | exact (locs1 (Below.refl _ _)).1
                · with_reducible first | exact la1 | exact la2 | exact lb1 | exact lb2 | exact la1.alloc _ | exact lb1.alloc _ | exact (locs1 (Below.refl _ _)).1
                · omega
                · with_reducible repeat' (first | refine h1.weak ?_ | refine IntV.below ?_ hb2 | refine IntV.below ?_ (below1 _ _))
                  rintro b hb (rfl | rfl) <;> (show _ < _; (try simp only [World.size_alloc, World.size_drew]); omega)
                · with_reducible repeat' (first | refine h2.weak ?_ | refine IntV.below ?_ (below1 _ _))
                  rintro b hb (rfl | rfl) <;> (show _ < _; (try simp only [World.size_alloc, World.size_drew]); omega)
                · with_reducible repeat' (first | exact k2 | refine Below.alloc ?_ (by first | exact k2.size | (have := k2.size; simp only [World.size_alloc]; omega)) _)
                · have e1 := k1.size; have e2 := k2.size; omega
                · have e1 := k1.size; have e2 := k2.size; omega
              | skip
        case rest =>
          obtain ⟨g, h, bs, As, ns, cs, bd, Ad, nd, cd, rfl, rfl, Lg, Lh, hS, hD, hbc⟩ := hcut
          have lS := add_len (sv n1 xs) (sv n2 ys) 10 (by omega) (by omega)
          have lD := sub_len (sv n1 xs) (sv n2 ys) 10 (by omega) (by omega)
          have lYZ := add_len (sv n2 ys) (sv n3 zs) 10 (by omega) (by omega)
          have LS := Lib.hid lS
          have LD := Lib.hid lD
          have LYZ := Lib.hid lYZ
          have Lx5 := Lx4.below hbc
          have Ly5 := Ly4.below hbc
          have Lz5 := Lz4.below hbc
          have hx5 := hx4.below hbc
          have hy5 := hy4.below hbc
          have hz5 := hz4.below hbc
          have hB5 := hB4.trans (hbc.mono hB4.size)
          clear Lx4 Ly4 Lz4 hx4 hy4 hz4 hB4 hbc lS lD lYZ
          have KS : Hid (∀ W, Below wc.heap.size wc W → ((W.cell? ⟨w.heap.size, 0, none⟩ = some (.bool n1) ∧ W.cell? ⟨w.heap.size, 1, none⟩ = some (.slice A xs.length c)) ∧ (W.cell? ⟨w.heap.size + 1, 0, none⟩ = some (.bool n2) ∧ W.cell? ⟨w.heap.size + 1, 1, none⟩ = some (.slice B ys.length d))) ∧ (W.cell? ⟨g, 0, none⟩ = some (.bool bs) ∧ W.cell? ⟨g, 1, none⟩ = some (.slice As ns cs)) ∧ W.cell? ⟨h, 0, none⟩ = some (.bool bd) ∧ W.cell? ⟨h, 1, none⟩ = some (.slice Ad nd cd)) := fun W hW => ⟨cells_of ⟨Lx5.below hW, Ly5.below hW⟩, cells_of ⟨Lg.below hW, Lh.below hW⟩⟩
          go_wp2_with fail
          go_region_held3 (fun W => ((W.cell? ⟨w.heap.size, 0, none⟩ = some (.bool n1) ∧ W.cell? ⟨w.heap.size, 1, none⟩ = some (.slice A xs.length c)) ∧ (W.cell? ⟨w.heap.size + 1, 0, none⟩ = some (.bool n2) ∧ W.cell? ⟨w.heap.size + 1, 1, none⟩ = some (.slice B ys.length d))) ∧ (W.cell? ⟨g, 0, none⟩ = some (.bool bs) ∧ W.cell? ⟨g, 1, none⟩ = some (.slice As ns cs)) ∧ W.cell? ⟨h, 0, none⟩ = some (.bool bd) ∧ W.cell? ⟨h, 1, none⟩ = some (.slice Ad nd cd))
            (first | exact KS.out _ k4 | exact KS.out _ k3 | exact KS.out _ k2 | exact KS.out _ k1 | exact KS.out _ (Below.refl _ _).drew)
            (first
              | (go_at_call 39; refine (radd_any _ (fun _ => False) _ _ n1 n2 xs ys (hx5.below (Below.refl _ _).drew) (hy5.below (Below.refl _ _).drew) (by omega) (by omega)).mono ?_; rintro e u1 ⟨v1, rfl, h1, hb1⟩; have k1 := below_undrew hb1; obtain ⟨b1, A1, m1, c1, rfl, h1⟩ := h1.op)
              | (go_at_call_of 17 (Value.agg #[Value.bool bs, Value.slice As ns cs]); refine (same_VV _ (fun _ => False) (Old _) _ _ _ _ (hS.below k1) h1 rfl).mono ?_; rintro e u2 ⟨rfl, hb2⟩; have k2 := k1.trans (hb2.mono k1.size))
              | (go_at_call 40; refine (rsub_any _ (fun _ => False) _ _ n1 n2 xs ys (hx5.below k2) (hy5.below k2) (by omega) (by omega)).mono ?_; rintro e u3 ⟨v3, rfl, h3, hb3⟩; have k3 := k2.trans (hb3.mono k2.size); obtain ⟨b3, A3, m3, c3, rfl, h3⟩ := h3.op)
              | (go_at_call_of 17 (Value.agg #[Value.bool bd, Value.slice Ad nd cd]); refine (same_VV _ (fun _ => False) (Old _) _ _ _ _ (hD.below k3) h3 rfl).mono ?_; rintro e u4 ⟨rfl, hb4⟩; have k4 := k3.trans (hb4.mono k3.size)))
          all_goals
            have hBu := hB5.trans (k4.mono hB5.size)
            have Lx6 := Lx5.below k4
            have Ly6 := Ly5.below k4
            have Lz6 := Lz5.below k4
            have Lg6 := Lg.below k4
            have Lh6 := Lh.below k4
            have hx6 := hx5.below k4
            have hy6 := hy5.below k4
            have hz6 := hz5.below k4
            have hS6 := hS.below k4
            have hD6 := hD.below k4
            clear KS k1 k2 k3 k4 hb1 hb2 hb3 hb4 h1 h3 Lx5 Ly5 Lz5 Lg Lh hx5 hy5 hz5 hS hD hB5
          go_wp2_with fail
          have KS : Hid (∀ W, Below u4.heap.size u4 W → ((W.cell? ⟨w.heap.size, 0, none⟩ = some (.bool n1) ∧ W.cell? ⟨w.heap.size, 1, none⟩ = some (.slice A xs.length c)) ∧ (W.cell? ⟨w.heap.size + 1, 0, none⟩ = some (.bool n2) ∧ W.cell? ⟨w.heap.size + 1, 1, none⟩ = some (.slice B ys.length d))) ∧ ((W.cell? ⟨g, 0, none⟩ = some (.bool bs) ∧ W.cell? ⟨g, 1, none⟩ = some (.slice As ns cs)) ∧ W.cell? ⟨h, 0, none⟩ = some (.bool bd) ∧ W.cell? ⟨h, 1, none⟩ = some (.slice Ad nd cd)) ∧ (W.cell? ⟨w.heap.size + 1 + 1, 0, none⟩ = some (.bool n3) ∧ W.cell? ⟨w.heap.size + 1 + 1, 1, none⟩ = some (.slice C zs.length f))) := fun W hW => ⟨cells_of ⟨Lx6.below hW, Ly6.below hW⟩, cells_of ⟨Lg6.below hW, Lh6.below hW⟩, (Lz6.below hW).cell 0, (Lz6.below hW).cell 1⟩
          go_region_held3 (fun W => ((W.cell? ⟨w.heap.size, 0, none⟩ = some (.bool n1) ∧ W.cell? ⟨w.heap.size, 1, none⟩ = some (.slice A xs.length c)) ∧ (W.cell? ⟨w.heap.size + 1, 0, none⟩ = some (.bool n2) ∧ W.cell? ⟨w.heap.size + 1, 1, none⟩ = some (.slice B ys.length d))) ∧ ((W.cell? ⟨g, 0, none⟩ = some (.bool bs) ∧ W.cell? ⟨g, 1, none⟩ = some (.slice As ns cs)) ∧ W.cell? ⟨h, 0, none⟩ = some (.bool bd) ∧ W.cell? ⟨h, 1, none⟩ = some (.slice Ad nd cd)) ∧ (W.cell? ⟨w.heap.size + 1 + 1, 0, none⟩ = some (.bool n3) ∧ W.cell? ⟨w.heap.size + 1 + 1, 1, none⟩ = some (.slice C zs.length f)))
            (first | exact KS.out _ k12 | exact KS.out _ k11 | exact KS.out _ k10 | exact KS.out _ k9 | exact KS.out _ k8 | exact KS.out _ k7 | exact KS.out _ k6 | exact KS.out _ k5 | exact KS.out _ k4 | exact KS.out _ k3 | exact KS.out _ k2 | exact KS.out _ k1 | exact KS.out _ (Below.refl _ _).drew)
            (first
              | (go_at_call_of 37 (Value.agg #[Value.bool n2, Value.slice B ys.length d]); go_at_call_of 37 (Value.agg #[Value.bool n1, Value.slice A xs.length c]); refine (add_any _ (fun _ => False) _ _ n2 n1 ys xs (hy6.below (Below.refl _ _).drew) (hx6.below (Below.refl _ _).drew) (by omega) (by omega)).mono ?_; rintro e x1 ⟨v1, rfl, h1, hb1⟩; have k1 := below_undrew hb1; obtain ⟨b1, A1, m1, c1, rfl, h1⟩ := h1.op)
              | (go_at_call_of 17 (Value.agg #[Value.bool b1, Value.slice A1 m1 c1]); refine (same_VV _ (Old _) (fun _ => False) _ _ _ _ h1 (hS6.below k1) (Int.add_comm _ _)).mono ?_; rintro e x2 ⟨rfl, hb2⟩; have k2 := k1.trans (hb2.mono k1.size))
              | (go_at_call_of 37 (Value.agg #[Value.bool bs, Value.slice As ns cs]); refine (add_any _ (fun _ => False) _ _ _ _ _ _ (hS6.below k2) (hz6.below k2) (by have := LS.out; omega) (by omega)).mono ?_; rintro e x3 ⟨v3, rfl, h3, hb3⟩; rw [sv_dig] at h3; have k3 := k2.trans (hb3.mono k2.size); obtain ⟨b3, A3, m3, c3, rfl, h3⟩ := h3.op)
              | (go_at_call_of 37 (Value.agg #[Value.bool n2, Value.slice B ys.length d]); go_at_call_of 37 (Value.agg #[Value.bool n3, Value.slice C zs.length f]); refine (add_any _ (fun _ => False) _ _ n2 n3 ys zs (hy6.below k3) (hz6.below k3) (by omega) (by omega)).mono ?_; rintro e x4 ⟨v4, rfl, h4, hb4⟩; have k4 := k3.trans (hb4.mono k3.size); have h34 := h3.below hb4; obtain ⟨b4, A4, m4, c4, rfl, h4⟩ := h4.op)
              | (go_at_call_of 37 (Value.agg #[Value.bool n1, Value.slice A xs.length c]); refine (add_any _ (fun _ => False) _ _ _ _ _ _ (hx6.below k4) (h4.weak (fun _ _ h => h.elim)) (by omega) (by have := LYZ.out; omega)).mono ?_; rintro e x5 ⟨v5, rfl, h5, hb5⟩; rw [sv_dig] at h5; have k5 := k4.trans (hb5.mono k4.size); have h35 := h34.below hb5; obtain ⟨b5, A5, m5, c5, rfl, h5⟩ := h5.op)
              | (go_at_call_of 17 (Value.agg #[Value.bool b3, Value.slice A3 m3 c3]); refine (same_VV _ (Old _) (Old _) _ _ _ _ h35 h5 (Int.add_assoc _ _ _)).mono ?_; rintro e x6 ⟨rfl, hb6⟩; have k6 := k5.trans (hb6.mono k5.size))
              | (go_at_call_of 38 (Value.agg #[Value.bool bs, Value.slice As ns cs]); refine (sub_any _ (fun _ => False) _ _ _ _ _ _ (hS6.below k6) (hy6.below k6) (by have := LS.out; omega) (by omega)).mono ?_; rintro e x7 ⟨v7, rfl, h7, hb7⟩; rw [sv_dig] at h7; have k7 := k6.trans (hb7.mono k6.size); obtain ⟨b7, A7, m7, c7, rfl, h7⟩ := h7.op)
              | (go_at_call_of 20 (Value.agg #[Value.bool n1, Value.slice A xs.length c]); refine (clean_any _ (fun _ => False) _ n1 xs (hx6.below k7) (by omega)).mono ?_; rintro e x8 ⟨v8, rfl, h8, hb8⟩; have k8 := k7.trans (hb8.mono k7.size); have h78 := h7.below hb8; obtain ⟨b8, A8, m8, c8, rfl, h8⟩ := h8.op)
              | (go_at_call_of 17 (Value.agg #[Value.bool b7, Value.slice A7 m7 c7]); refine (same_VV _ (Old _) (Old _) _ _ _ _ h78 h8 (Int.add_sub_cancel _ _)).mono ?_; rintro e x9 ⟨rfl, hb9⟩; have k9 := k8.trans (hb9.mono k8.size))
              | (go_at_call_of 38 (Value.agg #[Value.bool n2, Value.slice B ys.length d]); refine (sub_any _ (fun _ => False) _ _ n2 n1 ys xs (hy6.below k9) (hx6.below k9) (by omega) (by omega)).mono ?_; rintro e x10 ⟨v10, rfl, h10, hb10⟩; have k10 := k9.trans (hb10.mono k9.size); obtain ⟨b10, A10, m10, c10, rfl, h10⟩ := h10.op)
              | (go_at_call_of 27 (Value.agg #[Value.bool bd, Value.slice Ad nd cd]); refine (neg_any _ (fun _ => False) _ _ _ (hD6.below k10) (by have := LD.out; omega)).mono ?_; rintro e x11 ⟨v11, rfl, h11, hb11⟩; rw [sv_dig] at h11; have k11 := k10.trans (hb11.mono k10.size); have h1011 := h10.below hb11; obtain ⟨b11, A11, m11, c11, rfl, h11⟩ := h11.op)
              | (go_at_call_of 17 (Value.agg #[Value.bool b10, Value.slice A10 m10 c10]); refine (same_VV _ (Old _) (Old _) _ _ _ _ h1011 h11 (Int.neg_sub _ _).symm).mono ?_; rintro e x12 ⟨rfl, hb12⟩; have k12 := k11.trans (hb12.mono k11.size)))
          all_goals
            have hBv := hBu.trans (k12.mono hBu.size)
            clear KS
            try go_wp2_with fail
            go_ret
            exact ⟨rfl, hBv⟩
end Go.Proofs.Ytlbgnndjacagkaa
