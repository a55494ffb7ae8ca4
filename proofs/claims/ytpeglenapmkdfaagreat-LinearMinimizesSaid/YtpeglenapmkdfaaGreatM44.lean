/- Contracts of the functions that the statements reach, part 44. -/
import Derived.Test.YtpeglenapmkdfaaGreatRows
import Derived.Test.YtpeglenapmkdfaaGreatM21
import Derived.Test.YtpeglenapmkdfaaGreatM32
import Derived.Test.YtpeglenapmkdfaaGreatM43
set_option linter.unusedSimpArgs false
set_option linter.unusedVariables false

/- whole, row, same. -/
namespace Go.Proofs.YtpeglenapmkdfaaGreat
open Go.RowKit
attribute [local go_sem ↓] Go.wp_at_zero Go.wp_at_succ

set_option maxRecDepth 100000 in
set_option maxHeartbeats 4000000 in
theorem rwholeN_any (w : World) (z : Int) (h0 : -9223372036854775808 ≤ z) (h1 : z ≤ 9223372036854775807) :
    Calls Tryz.prog 23 #[.int .i64 z] w fun e w' => ∃ v', e = .returned v' ∧ RatV w' (Old w) v' (z : Rat) ∧ Below w.heap.size w w' := by
  have L := made1 w #[.bool false, .slice none 0 0, .bool false, .slice none 0 0] 44
  go_enter Tryz.func23, Tryz.ntmps23
  go_wp2_with fail
  refine (rratof_any _ z 1 (by decide) h0 h1 (by decide) (by decide)).mono ?_
  rintro e w1 ⟨v1, rfl, i1, hb1⟩
  rw [divInt_int] at i1
  obtain ⟨b1, A1, m1, c1, b1', A1', m1', c1', rfl, i1, -, -⟩ := i1.op
  have z1 := sz1 hb1
  have M := made1 w1 #[.bool b1, .slice A1 m1 c1, .bool b1', .slice A1' m1' c1'] 44
  obtain ⟨e4, g4, -⟩ := L.all (w' := w1.alloc (.cells #[.bool b1, .slice A1 m1 c1, .bool b1', .slice A1' m1' c1'] 44))
  obtain ⟨e6, g6, l6⟩ := L.all (w' := w1)
  obtain ⟨e5, g5, -⟩ := M.all (w' := w1.alloc (.cells #[.bool b1, .slice A1 m1 c1, .bool b1', .slice A1' m1' c1'] 44))
  have LF := Loc.fill4 (u := .bool b1) (v := .slice A1 m1 c1) (x := .bool b1') (y := .slice A1' m1' c1') (L.to (w' := w1))
  obtain ⟨e8, g8, -⟩ := LF.all (w' := ((((w1.setCell ⟨w.heap.size, 0, none⟩ (.bool b1)).setCell ⟨w.heap.size, 1, none⟩ (.slice A1 m1 c1)).setCell ⟨w.heap.size, 2, none⟩ (.bool b1')).setCell ⟨w.heap.size, 3, none⟩ (.slice A1' m1' c1')).alloc (.cells #[.bool b1, .slice A1 m1 c1, .bool b1', .slice A1' m1' c1'] 44))
  go_wp2_with fail
  refine bodyPost_ret (by simp [results, Tryz.results23, go_sem, e8, g8] <;> rfl) rfl ⟨_, rfl, RatV.out i1, bel⟩

set_option maxRecDepth 100000 in
set_option maxHeartbeats 4000000 in
theorem row_any (w : World) (g : Nat) (t : TypeId) (zs : List Int) (L : Loc w g t (zs.map (Value.int .i64)).toArray) (hz : ∀ z ∈ zs, -9223372036854775808 ≤ z ∧ z ≤ 9223372036854775807) (hn : zs.length ≤ 100) :
    Calls Tryz.prog 36 #[.slice (some ⟨g, 0, none⟩) zs.length zs.length] w fun e w' => ∃ v', e = .returned v' ∧ Nums 2 w' (fun _ => False) v' zs.length (zi zs) ∧ Below w.heap.size w w' := by
  obtain ⟨n, hnn⟩ : ∃ n, zs.length = n := ⟨_, rfl⟩
  rw [hnn] at hn
  rw [hnn]
  have HN := Lib.hid hnn
  have HZ := Lib.hid hz
  have HL := Lib.hid L
  have hgl := L.lt
  clear hnn hz L
  go_enter Tryz.func36, Tryz.ntmps36
  go_wp2_with fail
  go_loopw [3, 8] (fun v i wr => ∃ (c : Nat) (rs : List R4), c ≤ n ∧ i = .int .i64 c ∧ OwnR wr w.heap.size v rs ∧ rs.length = c ∧ ValL 2 wr (fun b => v.ownBlock = some b) rs (zi zs) ∧ Below w.heap.size w wr) (fun _ i _ => n - (intOf i).toNat)
  case atStart => exact ⟨0, [], by omega, rfl, OwnR.nil _ _, rfl, fun i r hr => by simp at hr, bel⟩
  case round =>
    obtain ⟨c, rs, hc, rfl, hown, hrl, hv, hB⟩ := hrel
    obtain ⟨wo, rfl⟩ : ∃ wo : World, wo = wr := ⟨_, rfl⟩
    have y5 := hB.size; (try simp only [World.size_alloc, size_set, size_drew, size_drewN] at y5)
    by_cases hlt : c < n
    · obtain ⟨z, he⟩ : ∃ z, zs[c]? = some z := ⟨_, List.getElem?_eq_getElem (by rw [HN.out]; exact hlt)⟩
      have x0 : wo.cell? ⟨g, c, none⟩ = some (.int .i64 z) := cell_keep (X := fun _ => False) (by rw [Loc.cell HL.out]; simp [he]) hgl id (.of_below hB)
      have hzz := HZ.out z (List.mem_of_getElem? he)
      have hq : zi zs c = (z : Rat) := by unfold zi; rw [List.getD_eq_getElem?_getD, he]; rfl
      have HQ := Lib.hid hq
      have k0 : (0 : Int) ≤ (c : Int) := by omega
      have k1 : (c : Int) < (n : Int) := by omega
      clear he hq
      go_wp2_with fail
      refine (rwholeN_any _ z hzz.1 hzz.2).mono ?_
      rintro e w3 ⟨v3, rfl, i3, hb3⟩
      obtain ⟨b3, A3, m3, c3, b3', A3', m3', c3', rfl, i3, -, -⟩ := i3.op
      have y3 := hb3.size; (try simp only [World.size_alloc, size_set, size_drew, size_drewN] at y3)
      have hbo : Below wo.heap.size wo (w3.alloc (.cells #[.bool b3, .slice A3 m3 c3, .bool b3', .slice A3' m3' c3'] 44)) := bel
      have hown7 : Hid (∀ b, u3.ownBlock = some b → b < wo.heap.size) := fun b hb => (hown.lt hb).1
      have hvv : ValL 2 (w3.alloc (.cells #[.bool b3, .slice A3 m3 c3, .bool b3', .slice A3' m3' c3'] 44)) (fun b => u3.ownBlock = some b) rs (zi zs) := hv.keep (Keep.of_below hbo)
      have hrr : RatL 2 (w3.alloc (.cells #[.bool b3, .slice A3 m3 c3, .bool b3', .slice A3' m3' c3'] 44)) (fun b => u3.ownBlock = some b) (R4.v ⟨b3, A3, m3, c3, b3', A3', m3', c3'⟩) (zi zs rs.length) := by
        rw [hrl, HQ.out]
        exact RatL.keep (RatL.weak (i3.len (rsz_int hzz.1 hzz.2)) (fun b _ hb => by have := hown7.out b hb; show b < _; omega)) kp
      go_wp2_with (at_builtin; refine wpList_pushR _ rfl _ _ rfl w.heap.size _ rs rfl (hown.below hbo) _ ⟨b3, A3, m3, c3, b3', A3', m3', c3'⟩ rfl (heap_alloc_new w3 _) (by omega) (by simp only [World.size_alloc]; omega) ?_)
      intro g5 cap w2 hown2 hg2 ho2 hl2
      have hb2 : Below w.heap.size w w2 := below_own (bel : Below w.heap.size w (w3.alloc (.cells #[.bool b3, .slice A3 m3 c3, .bool b3', .slice A3' m3' c3'] 44))) (hown.below hbo) hg2 (Nat.le_refl _) (by simp only [World.size_alloc]; omega)
      have hg3 := ValL.grow hvv hrr hg2 (ho2.imp id fun h => by rw [h, World.size_alloc])
      clear hvv hrr hbo hb3
      go_wp2_with fail
      go_roundw
      case rel =>
        refine ⟨c + 1, rs ++ [⟨b3, A3, m3, c3, b3', A3', m3', c3'⟩], by omega, by go_num, hown2, by simp [hrl], hg3.weak (fun b _ hb => ?_), hb2⟩
        injection hb with hb
        exact hb.symm
      case measure => simp only [intOf]; omega
    · obtain rfl : c = n := by omega
      go_wp2_with fail
      go_ret
      subst hrl
      exact ⟨_, rfl, hown.nums hv (fun _ _ h => h.elim) (fun _ _ h => h), hB⟩

set_option maxRecDepth 100000 in
set_option maxHeartbeats 4000000 in
theorem equalF_any (w : World) (v1 v2 : Value) (n1 n2 k : Nat) (f q : Nat → Rat) (h1 : Nums k w (fun _ => False) v1 n1 f) (h2 : Nums k w (fun _ => False) v2 n2 q) (hk : k ≤ 1000000) :
    Calls Tryz.prog 68 #[v1, v2, .func (Fn.func 27) #[] #[]] w fun e w' => Tells (n1 = n2 ∧ ∀ i, i < n1 → f i = q i) e ∧ Below w.heap.size w w' := by
  have H1 := Lib.hid h1
  have H2 := Lib.hid h2
  obtain ⟨A, c1, rfl, h1, l1, l2⟩ := h1.op
  obtain ⟨B, c2, rfl, h2, l3, l4⟩ := h2.op
  have lm : n1 ≤ 9223372036854775807 := by unfold maxLen at l2; omega
  clear h1 h2
  by_cases hne : n1 ≠ n2
  · have HV : Hid (¬ (n1 = n2 ∧ ∀ i, i < n1 → f i = q i)) := fun h => hne h.1
    have h4 : ((n1 : Int) == (n2 : Int)) = false := beq_eq_false_iff_ne.2 (by omega)
    have h5 : ((n1 : Int) != (n2 : Int)) = true := bne_iff_ne.2 (by omega)
    go_enter Tryz.func68, Tryz.ntmps68
    go_wp2_with fail
    go_ret
    exact ⟨Tells.no HV.out, bel⟩
  obtain rfl : n1 = n2 := Classical.not_not.1 hne
  clear hne
  go_enter Tryz.func68, Tryz.ntmps68
  go_wp2_with fail
  go_loopw [17] (fun i wr => ∃ (c : Nat), c ≤ n1 ∧ i = .int .i64 c ∧ Hid (∀ i, i < c → f i = q i) ∧ Below w.heap.size w wr) (fun i _ => n1 - (intOf i).toNat)
  case atStart => exact ⟨0, by omega, rfl, Lib.hid (fun i hi => absurd hi (by omega)), bel⟩
  case round =>
    obtain ⟨c, hc, rfl, hall, hB⟩ := hrel
    obtain ⟨wo, rfl⟩ : ∃ wo : World, wo = wr := ⟨_, rfl⟩
    have y5 := hB.size; (try simp only [World.size_alloc, size_set, size_drew, size_drewN] at y5)
    by_cases hlt : c < n1
    · obtain ⟨a, b3, A3, m3, c3, b3', A3', m3', c3', rfl, ha, -, x0, x1, x2, x3, r3⟩ := Nums.at (Nums.keep H1.out (.of_below hB)) hlt
      obtain ⟨a', b4, A4, m4, c4, b4', A4', m4', c4', rfl, ha', ha'', s0, s1, s2, s3, r4⟩ := Nums.at (Nums.keep H2.out (.of_below hB)) hlt
      replace x1 : wo.cell? ⟨(a.add (c * 4)).block, (a.add (c * 4)).off + 1, none⟩ = _ := x1
      replace x2 : wo.cell? ⟨(a.add (c * 4)).block, (a.add (c * 4)).off + 2, none⟩ = _ := x2
      replace x3 : wo.cell? ⟨(a.add (c * 4)).block, (a.add (c * 4)).off + 3, none⟩ = _ := x3
      have k0 : (0 : Int) ≤ (c : Int) := by omega
      have k1 : (c : Int) < (n1 : Int) := by omega
      clear s0 s1 s2 s3 r4 ha' ha''
      go_upto_region 5 with fail
      go_cut [7, 8] from 19 to 22 (fun p q W => p = .int .i64 c ∧ ∃ g, q = .pointer (some ⟨g, 0, none⟩) ∧ wo.heap.size ≤ g ∧ Loc W g 44 #[.bool b3, .slice A3 m3 c3, .bool b3', .slice A3' m3' c3'] ∧ Below wo.heap.size wo W)
      case first =>
        have M1 := made1 wo #[.bool b3, .slice A3 m3 c3, .bool b3', .slice A3' m3' c3'] 44
        go_wp2_with fail
        go_meet
        exact ⟨rfl, _, rfl, Nat.le_refl _, M1, bel⟩
      case rest =>
        obtain ⟨rfl, g8, rfl, hg8, M1, hB8⟩ := hcut
        obtain ⟨w8, rfl⟩ : ∃ w8 : World, w8 = wc := ⟨_, rfl⟩
        have y8 := hB8.size; (try simp only [World.size_alloc, size_set, size_drew, size_drewN] at y8)
        obtain ⟨a', b4, A4, m4, c4, b4', A4', m4', c4', e9, ha', ha'', s0, s1, s2, s3, r4⟩ := Nums.at (Nums.keep H2.out (.of_below (hB.trans (hB8.mono y5)))) hlt
        injection e9 with e9
        subst e9
        replace s1 : w8.cell? ⟨(a'.add (c * 4)).block, (a'.add (c * 4)).off + 1, none⟩ = _ := s1
        replace s2 : w8.cell? ⟨(a'.add (c * 4)).block, (a'.add (c * 4)).off + 2, none⟩ = _ := s2
        replace s3 : w8.cell? ⟨(a'.add (c * 4)).block, (a'.add (c * 4)).off + 3, none⟩ = _ := s3
        clear x0 x1 x2 x3
        have M2 := made1 w8 #[.bool b4, .slice A4 m4 c4, .bool b4', .slice A4' m4' c4'] 44
        have g8l := M1.lt
        have M1b : Loc (w8.alloc (.cells #[.bool b4, .slice A4 m4 c4, .bool b4', .slice A4' m4' c4'] 44)) g8 44 _ := M1.to
        obtain ⟨e1, f1, t1⟩ := M1b.all
        obtain ⟨e2, f2, t2⟩ := M2.all
        go_wp2_with fail
        refine (equal_any _ (fun _ => False) _ _ (f c) (q c) ((RatL.to r3).mono hk) ((RatL.to r4).mono hk)).mono ?_
        rintro e w9 ⟨he, hb9⟩
        have y9 := hb9.size; (try simp only [World.size_alloc, size_set, size_drew, size_drewN] at y9)
        have HLT := Lib.hid hlt
        by_cases hfq : f c = q c
        · have he := he.eq (b := true) ⟨fun _ => hfq, fun _ => rfl⟩
          have HFQ := Lib.hid hfq
          subst he
          clear hfq
          go_wp2_with fail
          go_roundw
          case rel =>
            refine ⟨c + 1, (by have h9 := HLT.out; omega), by go_num, Lib.hid (fun i hi => ?_), bel⟩
            by_cases hic : i < c
            · exact hall.out i hic
            · obtain rfl : i = c := by omega
              exact HFQ.out
          case measure => have h9 := HLT.out; simp only [intOf]; omega
        · have he := he.eq (b := false) ⟨fun h => (by cases h), fun h => absurd h hfq⟩
          have HFQ : Hid (¬ f c = q c) := hfq
          subst he
          clear hfq
          go_wp2_with fail
          go_ret
          exact ⟨Tells.no (fun h => HFQ.out (h.2 c HLT.out)), bel⟩
    · obtain rfl : c = n1 := by omega
      go_wp2_with fail
      go_ret
      exact ⟨Tells.yes ⟨by first | rfl | trivial, hall.out⟩, hB⟩
end Go.Proofs.YtpeglenapmkdfaaGreat

/- ref, tidy. -/
namespace Go.Proofs.YtpeglenapmkdfaaGreat
open Go.RowKit
attribute [local go_sem ↓] Go.wp_at_zero Go.wp_at_succ
attribute [local go_sem] beq_self_eq_true

theorem Mat.mono {k j : Nat} {w : World} {X : Nat → Prop} {v : Value} {m : Nat} {N : Nat → Nat} {F : Nat → Nat → Rat} (h : Mat k w X v m N F) (hj : k ≤ j) : Mat j w X v m N F := by
  obtain ⟨us, A, cap, h1, h2, h3, h4, h5, h6⟩ := h
  exact ⟨us, A, cap, h1, h2, h3, h4, h5, fun i u hu => (h6 i u hu).mono hj⟩
theorem Sys.mono {k j : Nat} {w : World} {v : Value} {m mb : Nat} {N : Nat → Nat} {F : Nat → Nat → Rat} {Bv : Nat → Rat} (h : Sys k w v m mb N F Bv) (hj : k ≤ j) : Sys j w v m mb N F Bv := by
  obtain ⟨A, c, B, d, rfl, h1, h2⟩ := h
  exact ⟨A, c, B, d, rfl, h1.mono hj, h2.mono hj⟩
/-- A list of one fraction. -/
theorem Rats.one {w : World} {g : Nat} {e : RF} {A B : Option Addr} {c d : Nat} (L : Loc w g 44 #[.bool e.n1, .slice A e.xs.length c, .bool e.n2, .slice B e.ys.length d]) (h : RatR w (fun _ => False) (.agg #[.bool e.n1, .slice A e.xs.length c, .bool e.n2, .slice B e.ys.length d]) e.n1 e.xs e.n2 e.ys) :
    Rats w (fun _ => False) (.slice (some ⟨g, 0, none⟩) 1 1) [e] := by
  refine ⟨_, _, rfl, Nat.le_refl _, by decide, fun _ => ⟨_, rfl, L.lt, fun i e' he => ?_⟩⟩
  have hi := (List.getElem?_eq_some_iff.1 he).1
  obtain rfl : i = 0 := by simp at hi; omega
  simp at he
  subst he
  rw [Nat.zero_mul, addr_zero]
  exact ⟨A, c, B, d, Loc.c 0 L, Loc.c 1 L, Loc.c 2 L, Loc.c 3 L, h⟩

set_option maxRecDepth 100000 in
set_option maxHeartbeats 8000000 in
theorem ref_any (w : World) (kind : Int) (C E G A B : Option Addr) (n1 n2 n3 c1 c2 c3 p c q d : Nat) (b b' : Bool) :
    Calls Tryz.prog 32 #[.agg #[.int .i64 kind, .slice C n1 c1, .slice E n2 c2, .slice G n3 c3, .bool b, .slice A p c, .bool b', .slice B q d]] w fun e w' => e = .returned (.agg #[.int .i64 kind, .slice C n1 c1, .slice E n2 c2, .slice G n3 c3, .bool b, .slice A p c, .bool b', .slice B q d]) ∧ Below w.heap.size w w' := by
  have L1 := made1 w #[.int .i64 kind, .slice C n1 c1, .slice E n2 c2, .slice G n3 c3, .bool b, .slice A p c, .bool b', .slice B q d] 51
  go_enter Tryz.func32, Tryz.ntmps32
  go_wp2_with fail
  have L2 := made2 w (.cells #[.int .i64 kind, .slice C n1 c1, .slice E n2 c2, .slice G n3 c3, .bool b, .slice A p c, .bool b', .slice B q d] 51) #[.int .i64 kind, .slice C n1 c1, .slice E n2 c2, .slice G n3 c3, .bool b, .slice A p c, .bool b', .slice B q d] 61
  obtain ⟨e8, g8, -⟩ := L2.all
  refine bodyPost_ret (by simp [results, Tryz.results32, go_sem, e8, g8] <;> rfl) rfl ⟨rfl, bel⟩

set_option maxRecDepth 100000 in
set_option maxHeartbeats 8000000 in
theorem tidy_any (w : World) (kind : Int) (v1 v2 v3 : Value) (A B : Option Addr) (c d : Nat) (lx ly lr : List RF) (e : RF) (h1 : Rats w (fun _ => False) v1 lx) (h2 : Rats w (fun _ => False) v2 ly) (h3 : Rats w (fun _ => False) v3 lr) (h4 : RatR w (fun _ => False) (.agg #[.bool e.n1, .slice A e.xs.length c, .bool e.n2, .slice B e.ys.length d]) e.n1 e.xs e.n2 e.ys) :
    Calls Tryz.prog 34 #[.agg #[.int .i64 kind, v1, v2, v3, .bool e.n1, .slice A e.xs.length c, .bool e.n2, .slice B e.ys.length d]] w fun e' w' => Tells (NB lx 10 ∧ NB ly 10 ∧ NB lr 10 ∧ e.few) e' ∧ Below w.heap.size w w' := by
  have H1 := Lib.hid h1
  have H2 := Lib.hid h2
  have H3 := Lib.hid h3
  have H4 := Lib.hid h4
  obtain ⟨C, c1, rfl, h1, a1, a2⟩ := h1.op
  obtain ⟨E, c2, rfl, h2, a3, a4⟩ := h2.op
  obtain ⟨G, c3, rfl, h3, a5, a6⟩ := h3.op
  clear h1 h2 h3 h4
  obtain ⟨p, hp⟩ : ∃ p, e.xs.length = p := ⟨_, rfl⟩
  obtain ⟨q, hq⟩ : ∃ q, e.ys.length = q := ⟨_, rfl⟩
  obtain ⟨bn1, hn1⟩ : ∃ b, e.n1 = b := ⟨_, rfl⟩
  obtain ⟨bn2, hn2⟩ : ∃ b, e.n2 = b := ⟨_, rfl⟩
  have HV1 : Hid (∀ W g, Below w.heap.size w W → Loc W g 44 #[.bool bn1, .slice A p c, .bool bn2, .slice B q d] → Rats W (fun _ => False) (.slice (some ⟨g, 0, none⟩) 1 1) [e]) := fun W g hW hL => by
    subst hp hq hn1 hn2
    exact Rats.one hL (H4.out.keep (.of_below hW))
  rw [hp, hq, hn1, hn2]
  clear hp hq hn1 hn2 H4
  have L1 := made1 w #[.int .i64 kind, .slice C lx.length c1, .slice E ly.length c2, .slice G lr.length c3, .bool bn1, .slice A p c, .bool bn2, .slice B q d] 51
  go_enter Tryz.func34, Tryz.ntmps34
  go_wp2_with fail
  refine (numbers_any _ _ lx 10 (H1.out.keep kp) (by decide)).mono ?_
  rintro e1 w1 ⟨⟨b, rfl, hb⟩, hb1⟩
  have z1 := sz1 hb1
  obtain ⟨q1, f1, -⟩ := L1.all (w' := w1)
  cases b
  · have HV : Hid (¬ (NB lx 10 ∧ NB ly 10 ∧ NB lr 10 ∧ e.few)) := fun h => by have := hb.out.2 h.1; cases this
    clear hb
    go_wp2_with fail
    go_ret
    exact ⟨Tells.no HV.out, bel⟩
  have N1 : Hid (NB lx 10) := hb.out.1 rfl
  clear hb
  go_wp2_with fail
  refine (numbers_any _ _ ly 10 (H2.out.keep kp) (by decide)).mono ?_
  rintro e1 w2 ⟨⟨b, rfl, hb⟩, hb2⟩
  have y2 := hb2.size; (try simp only [World.size_alloc, size_set, size_drew, size_drewN] at y2)
  clear q1 f1
  obtain ⟨q1, f1, -⟩ := L1.all (w' := w2)
  cases b
  · have HV : Hid (¬ (NB lx 10 ∧ NB ly 10 ∧ NB lr 10 ∧ e.few)) := fun h => by have := hb.out.2 h.2.1; cases this
    clear hb
    go_wp2_with fail
    go_ret
    exact ⟨Tells.no HV.out, bel⟩
  have N2 : Hid (NB ly 10) := hb.out.1 rfl
  clear hb
  go_wp2_with fail
  refine (numbers_any _ _ lr 10 (H3.out.keep kp) (by decide)).mono ?_
  rintro e1 w3 ⟨⟨b, rfl, hb⟩, hb3⟩
  have y3 := hb3.size; (try simp only [World.size_alloc, size_set, size_drew, size_drewN] at y3)
  clear q1 f1
  obtain ⟨q1, f1, -⟩ := L1.all (w' := w3)
  cases b
  · have HV : Hid (¬ (NB lx 10 ∧ NB ly 10 ∧ NB lr 10 ∧ e.few)) := fun h => by have := hb.out.2 h.2.2.1; cases this
    clear hb
    go_wp2_with fail
    go_ret
    exact ⟨Tells.no HV.out, bel⟩
  have N3 : Hid (NB lr 10) := hb.out.1 rfl
  clear hb
  have hw3 : Below w.heap.size w w3 := bel
  have M := made1 w3 #[.bool bn1, .slice A p c, .bool bn2, .slice B q d] 44
  go_wp2_with fail
  refine (numbers_any _ _ [e] 1 (HV1.out _ _ bel M) (by decide)).mono ?_
  rintro e1 w4 ⟨⟨b, rfl, hb⟩, hb4⟩
  have y4 := hb4.size; (try simp only [World.size_alloc, size_set, size_drew, size_drewN] at y4)
  cases b
  · have HV : Hid (¬ (NB lx 10 ∧ NB ly 10 ∧ NB lr 10 ∧ e.few)) := fun h => by
      have := hb.out.2 ⟨Nat.le_refl _, fun i e' he => by
        have hi := (List.getElem?_eq_some_iff.1 he).1
        obtain rfl : i = 0 := by simp at hi; omega
        simp at he
        rw [← he]; exact h.2.2.2⟩
      cases this
    clear hb
    go_wp2_with fail
    go_ret
    exact ⟨Tells.no HV.out, bel⟩
  have HV : Hid (NB lx 10 ∧ NB ly 10 ∧ NB lr 10 ∧ e.few) := ⟨N1.out, N2.out, N3.out, (hb.out.1 rfl).2 0 e rfl⟩
  clear hb
  go_wp2_with fail
  go_ret
  exact ⟨Tells.yes HV.out, bel⟩
end Go.Proofs.YtpeglenapmkdfaaGreat

