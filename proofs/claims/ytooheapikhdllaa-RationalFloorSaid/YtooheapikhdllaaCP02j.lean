/- For every input the law returns true: the law's walk, and the statement out of it. -/
import Derived.Test.YtooheapikhdllaaRows
import Derived.Test.YtooheapikhdllaaM7
set_option linter.unusedSimpArgs false
set_option linter.unusedVariables false

/- Arguments opened: a list of fractions. -/
namespace Go.Proofs.Ytooheapikhdllaa
open Go.ChangeShapes Go.WideShapes Go.ChangeAt Go.RowKit Go.Joins

theorem list_of {α : Type} (P : Nat → α → Prop) : ∀ n, (∀ i, i < n → ∃ e, P i e) → ∃ l : List α, l.length = n ∧ ∀ i e, l[i]? = some e → P i e
  | 0, _ => ⟨[], rfl, fun i e h => by simp at h⟩
  | n + 1, h => by
    obtain ⟨l, hl, hp⟩ := list_of P n (fun i hi => h i (by omega))
    obtain ⟨e, he⟩ := h n (by omega)
    refine ⟨l ++ [e], by simp [hl], fun i x hx => ?_⟩
    by_cases hi : i < n
    · rw [List.getElem?_append_left (by omega)] at hx
      exact hp i x hx
    · have hlt := (List.getElem?_eq_some_iff.1 hx).1
      simp at hlt
      obtain rfl : i = n := by omega
      rw [List.getElem?_append_right (by omega), hl] at hx
      simp at hx
      subst hx
      exact he

/-- A raw fraction's fields: signs and words. -/
structure RF where
  n1 : Bool
  xs : List Nat
  n2 : Bool
  ys : List Nat
/-- The element at an address: its four cells, and the fraction. -/
def RatAt (w : World) (X : Nat → Prop) (a : Addr) (e : RF) : Prop :=
  ∃ C c D d, w.cell? a = some (.bool e.n1) ∧ w.cell? (a.add 1) = some (.slice C e.xs.length c) ∧ w.cell? (a.add 2) = some (.bool e.n2) ∧ w.cell? (a.add 3) = some (.slice D e.ys.length d) ∧
    RatR w X (.agg #[.bool e.n1, .slice C e.xs.length c, .bool e.n2, .slice D e.ys.length d]) e.n1 e.xs e.n2 e.ys
/-- A list of raw fractions. -/
def Rats (w : World) (X : Nat → Prop) (v : Value) (l : List RF) : Prop :=
  ∃ A cap, v = .slice A l.length cap ∧ l.length ≤ cap ∧ cap ≤ maxLen ∧ (l.length ≠ 0 → ∃ a, A = some a ∧ a.block < w.heap.size ∧ ∀ i e, l[i]? = some e → RatAt w X (a.add (i * 4)) e)

theorem open_RatC {H : Type} {enc : TypeId × Value → H} {W : World} {base fuel : Nat} {c0 c1 c2 c3 : Value} {x : DataW H × List MemPlace}
    (h : DataW.trod enc Try.prog W base (fun _ => true) true fuel 27 [c0, c1, c2, c3] = some x) :
    ∃ (e : RF) (A : Option Addr) (c : Nat) (B : Option Addr) (d : Nat), c0 = .bool e.n1 ∧ c1 = .slice A e.xs.length c ∧ c2 = .bool e.n2 ∧ c3 = .slice B e.ys.length d ∧ RatR W (fun _ => False) (.agg #[c0, c1, c2, c3]) e.n1 e.xs e.n2 e.ys := by
  obtain ⟨xs, n, _, _, _, hlen, hg⟩ := DataW.trod_struct Try.underlying27 h
  match xs, hlen with
  | [y0, y1], _ =>
    have g0 : DataW.trod enc Try.prog W base (fun _ => true) true n 24 (([c0, c1, c2, c3].drop 0).take (Try.prog.cellsOf 24)) = [y0, y1][0]? := hg 0 _ rfl
    have g1 : DataW.trod enc Try.prog W base (fun _ => true) true n 24 (([c0, c1, c2, c3].drop 2).take (Try.prog.cellsOf 24)) = [y0, y1][1]? := hg 1 _ rfl
    rw [cellsInt] at g0 g1
    have h0 : DataW.trod enc Try.prog W base (fun _ => true) true n 24 [c0, c1] = some y0 := g0
    have h1 : DataW.trod enc Try.prog W base (fun _ => true) true n 24 [c2, c3] = some y1 := g1
    obtain ⟨b, A, c, zs, i1, rfl, rfl⟩ := open_IntC h0
    obtain ⟨b', A', c', us, i2, rfl, rfl⟩ := open_IntC h1
    exact ⟨⟨b, zs, b', us⟩, A, c, A', c', rfl, rfl, rfl, rfl, A, c, A', c', rfl, i1, i2⟩

theorem open_Rats {H : Type} {enc : TypeId × Value → H} {W : World} {base : Nat} {fuel : Nat} {v : Value} {x : DataW H × List MemPlace}
    (h : DataW.trod enc Try.prog W base (fun _ => true) true fuel 46 [v] = some x) : ∃ l, Rats W (fun _ => False) v l := by
  rcases DataW.trod_slice Try.underlying46 h with ⟨hcs, _⟩ | ⟨a, len, cap, elems, rest, n, _, hcs, _, hb, hl, hm, hlen, hel, _⟩
  · simp at hcs
    subst hcs
    exact ⟨[], none, 0, rfl, Nat.le_refl _, Nat.zero_le _, fun h => absurd rfl h⟩
  · simp at hcs
    subst hcs
    have key : ∀ i, i < len → ∃ e, RatAt W (fun _ => False) (a.add (i * 4)) e ∧ a.block < W.heap.size := fun i hi => by
      have hq := hel i hi
      rw [cellsRat, List.getElem?_eq_getElem (l := elems) (i := i) (by omega), Option.bind_eq_some_iff] at hq
      obtain ⟨cs, hcs, ht⟩ := hq
      obtain ⟨_, hn, hc⟩ := World.cells?_some hcs
      match cs, hn with
      | [c0, c1, c2, c3], _ =>
        obtain ⟨e, A, c, B, d, e0, e1, e2, e3, hr⟩ := open_RatC ht
        have hbl0 := World.cells?_block hcs (show 0 < 4 by decide)
        have hbl : a.block < W.heap.size := by
          have e : (a.add (i * 4)).block = a.block := by unfold Addr.add; split <;> rfl
          rw [e] at hbl0; exact hbl0
        refine ⟨e, ⟨A, c, B, d, ?_, ?_, ?_, ?_, ?_⟩, hbl⟩
        · rw [← e0]; exact hc 0 (by decide)
        · rw [← e1]; exact hc 1 (by decide)
        · rw [← e2]; exact hc 2 (by decide)
        · rw [← e3]; exact hc 3 (by decide)
        · rw [← e0, ← e1, ← e2, ← e3]; exact hr
    obtain ⟨l, hl', hp⟩ := list_of _ len (fun i hi => key i hi)
    subst hl'
    refine ⟨l, some a, cap, rfl, hl, hm, fun hz => ⟨a, rfl, ?_, fun i e he => (hp i e he).1⟩⟩
    obtain ⟨e, he⟩ := key 0 (by omega)
    exact he.2
theorem open_RatsV {H : Type} {enc : TypeId × Value → H} {W : World} {base : Nat} {r : Reach} {b0 : Nat} {v : Value} {d : DataW H} {p : List MemPlace}
    (hv : Value.okWide Try.prog W r b0 46 v) (h : DataW.Trod enc Try.prog W base (fun _ => true) true 46 v d p) : ∃ l, Rats W (fun _ => False) v l := by
  obtain ⟨a, len, cap, rfl⟩ := okWide_slice Try.underlying46 hv
  obtain ⟨fuel, hf⟩ := h
  exact open_Rats hf
end Go.Proofs.Ytooheapikhdllaa

/- rational.Sum and the reference's. -/
namespace Go.Proofs.Ytooheapikhdllaa
open Go.RowKit
attribute [local go_sem ↓] Go.wp_at_zero Go.wp_at_succ

def RF.val (e : RF) : Rat := rv e.n1 e.xs e.n2 e.ys
def sumR (l : List RF) : Rat := l.foldl (fun s e => s + e.val) 0
theorem sumR_take (l : List RF) (k : Nat) (e : RF) (h : l[k]? = some e) : sumR (l.take (k + 1)) = sumR (l.take k) + e.val := by
  unfold sumR
  rw [List.take_add_one, h, List.foldl_append]; rfl
theorem sumR_Rsz (l : List RF) (h : ∀ e ∈ l, Rsz 4 e.val) : ∀ k, Rsz (5 * k + 2) (sumR (l.take k))
  | 0 => by unfold sumR; rw [List.take_zero]; exact divInt_Rsz (n := 0) (d := 1) (by omega) (Nat.le_trans (dig_i64 0 (by decide) (by decide)) (by omega)) (Nat.le_trans (dig_i64 1 (by decide) (by decide)) (by omega))
  | k + 1 => by
    cases he : l[k]? with
    | none =>
      have hl : l.length ≤ k := List.getElem?_eq_none_iff.1 he
      have := sumR_Rsz l h k
      rw [List.take_of_length_le hl] at this
      rw [List.take_of_length_le (by omega)]
      exact this.mono (by omega)
    | some e =>
      rw [sumR_take l k e he]
      exact ((sumR_Rsz l h k).add (h e (List.mem_of_getElem? he))).mono (by omega)
theorem RatAt.on {w w' : World} {a : Addr} {e : RF} (h : RatAt w (fun _ => False) a e) (ha : a.block < w.heap.size) (hB : Below w.heap.size w w') : RatAt w' (fun _ => False) a e := by
  obtain ⟨C, c, D, d, h0, h1, h2, h3, hr⟩ := h
  have hk : Keep (fun _ => False) w w' := .of_below hB
  have key : ∀ (n : Nat) (u : Value), w.cell? (a.add n) = some u → w'.cell? (a.add n) = some u := fun n u hu => by
    have e : (a.add n).block = a.block := by unfold Addr.add; split <;> rfl
    have hb := hk.block (a.add n).block (by rw [e]; exact ha) id
    unfold World.cell? at hu ⊢
    rw [hb]; exact hu
  exact ⟨C, c, D, d, key 0 _ h0, key 1 _ h1, key 2 _ h2, key 3 _ h3, hr.keep hk⟩

set_option maxHeartbeats 4000000 in
theorem sum_rat (w : World) (v : Value) (l : List RF) (h : Rats w (fun _ => False) v l) (hl : l.length ≤ 8) (hs : ∀ e ∈ l, e.xs.length ≤ 4 ∧ e.ys.length ≤ 4) :
    Calls Try.prog 36 #[v] w fun e w' => ∃ v', e = .returned v' ∧ RatV w' (Old w) v' (sumR l) ∧ Below w.heap.size w w' := by
  obtain ⟨A, cap, rfl, hc1, hc2, hat⟩ := h
  have HAT := Lib.hid hat
  have HALL : Hid (∀ e ∈ l, Rsz 4 e.val) := fun e he => by
    obtain ⟨i, hi⟩ := List.getElem?_of_mem he
    have hne : l.length ≠ 0 := by have := (List.getElem?_eq_some_iff.1 hi).1; omega
    obtain ⟨a, rfl, hab, hel⟩ := hat hne
    obtain ⟨C, cc, D, d, g0, g1, g2, g3, gr⟩ := hel i e hi
    exact RatL.rsz (X := fun _ => False) (w := w) ⟨_, _, _, _, gr, (hs e he).1, (hs e he).2, rfl⟩ (by omega)
  have L := made1 w #[.bool false, .slice none 0 0, .bool false, .slice none 0 0] 27
  clear hat
  go_enter Try.func36, Try.ntmps36
  go_wp2_with fail
  refine (zero_rat _).mono ?_
  rintro e w1 ⟨v1, rfl, i1, hb1⟩
  obtain ⟨b1, A1, m1, c1, b1', A1', m1', c1', rfl, i1, -, -⟩ := i1.op
  have y1 := hb1.size; (try simp only [World.size_alloc, size_set, size_drew, size_drewN] at y1)
  have M1 := made1 w1 #[.bool b1, .slice A1 m1 c1, .bool b1', .slice A1' m1' c1'] 27
  go_wp2_with fail
  go_loopw [9] (fun i wr => ∃ (k : Nat) (b : Bool) (A : Option Addr) (m c : Nat) (b' : Bool) (A' : Option Addr) (m' c' : Nat), k ≤ l.length ∧ i = .int .i64 k ∧
      Loc wr w1.heap.size 27 #[.bool b, .slice A m c, .bool b', .slice A' m' c'] ∧ RatV wr (fun g => g ≤ w.heap.size ∨ g = w1.heap.size) (.agg #[.bool b, .slice A m c, .bool b', .slice A' m' c']) (sumR (l.take k)) ∧
      Loc wr w.heap.size 27 #[.bool false, .slice none 0 0, .bool false, .slice none 0 0] ∧ Below w.heap.size w wr) (fun i _ => l.length - (intOf i).toNat)
  case atStart => exact ⟨0, b1, A1, m1, c1, b1', A1', m1', c1', by omega, rfl, M1, RatV.out i1, L.to, bel⟩
  case round =>
    obtain ⟨k, b, A2, m, c, b', A', m', c', hk, rfl, N1, s1, NL, hB⟩ := hrel
    obtain ⟨wo, rfl⟩ : ∃ wo : World, wo = wr := ⟨_, rfl⟩
    clear i1 M1 L
    have y5 := hB.size; (try simp only [World.size_alloc, size_set, size_drew, size_drewN] at y5)
    have q1 := Loc.lt N1
    have q4 := Loc.lt NL
    by_cases hlt : k < l.length
    · obtain ⟨a, rfl, hab, hel⟩ := HAT.out (by omega)
      obtain ⟨C, cc, D, d, g0, g1, g2, g3, gr⟩ := (hel k l[k] (List.getElem?_eq_getElem hlt)).on (by unfold Addr.add; split <;> exact hab) hB
      replace g1 : wo.cell? ⟨(a.add (k * 4)).block, (a.add (k * 4)).off + 1, none⟩ = _ := g1
      replace g2 : wo.cell? ⟨(a.add (k * 4)).block, (a.add (k * 4)).off + 2, none⟩ = _ := g2
      replace g3 : wo.cell? ⟨(a.add (k * 4)).block, (a.add (k * 4)).off + 3, none⟩ = _ := g3
      have hlk := hs _ (List.getElem_mem hlt)
      have HT := Lib.hid (sumR_take l k l[k] (List.getElem?_eq_getElem hlt))
      generalize l[k] = E at *
      obtain ⟨n1, xs, n2, ys⟩ := E
      dsimp only at *
      have r2 : RatL 4 wo (fun _ => False) _ (RF.val ⟨n1, xs, n2, ys⟩) := ⟨_, _, _, _, gr, hlk.1, hlk.2, rfl⟩
      obtain ⟨e1, f1, -⟩ := Loc.all N1 (w' := wo.alloc (.cells #[.bool n1, .slice C xs.length cc, .bool n2, .slice D ys.length d] 27))
      have HR := Lib.hid (sumR_Rsz l HALL.out k)
      go_wp2_with fail
      refine (add_rat _ (fun _ => False) _ _ (sumR (l.take k)) (RF.val ⟨n1, xs, n2, ys⟩) (RatL.to ((s1.len HR.out).mono (by omega))) (RatL.to (r2.mono (by omega)))).mono ?_
      rintro e u1 ⟨v5, rfl, i5, hb5⟩
      rw [← HT.out] at i5
      obtain ⟨b5, A5, m5, c5, b5', A5', m5', c5', rfl, i5, -, -⟩ := i5.op
      have y8 := hb5.size; (try simp only [World.size_alloc, size_set, size_drew, size_drewN] at y8)
      clear e1 f1
      obtain ⟨e1, f1, -⟩ := Loc.all N1 (w' := u1)
      go_wp2_with fail
      go_roundw
      case rel => exact ⟨k + 1, b5, A5, m5, c5, b5', A5', m5', c5', by omega, by go_num, Loc.fill4 (Loc.to N1 (w' := u1)), RatV.out i5, Loc.to NL, bel⟩
      case measure => simp only [intOf]; omega
    · obtain rfl : k = l.length := by omega
      rw [List.take_length] at s1
      obtain ⟨e1, f1, -⟩ := Loc.all N1 (w' := wo)
      obtain ⟨e4, f4, -⟩ := Loc.all NL (w' := wo)
      go_wp2_with fail
      refine bodyPost_ret (by simp [results, Try.results36, go_sem, e4, f4] <;> rfl) rfl ⟨_, rfl, RatV.out s1, bel⟩
end Go.Proofs.Ytooheapikhdllaa

/- The reference's Sum. -/
namespace Go.Proofs.Ytooheapikhdllaa
open Go.RowKit
attribute [local go_sem ↓] Go.wp_at_zero Go.wp_at_succ

set_option maxHeartbeats 4000000 in
theorem rsum_rat (w : World) (v : Value) (l : List RF) (h : Rats w (fun _ => False) v l) (hl : l.length ≤ 8) (hs : ∀ e ∈ l, e.xs.length ≤ 4 ∧ e.ys.length ≤ 4) :
    Calls Try.prog 37 #[v] w fun e w' => ∃ v', e = .returned v' ∧ RatV w' (Old w) v' (sumR l) ∧ Below w.heap.size w w' := by
  obtain ⟨A, cap, rfl, hc1, hc2, hat⟩ := h
  have HAT := Lib.hid hat
  have HALL : Hid (∀ e ∈ l, Rsz 4 e.val) := fun e he => by
    obtain ⟨i, hi⟩ := List.getElem?_of_mem he
    have hne : l.length ≠ 0 := by have := (List.getElem?_eq_some_iff.1 hi).1; omega
    obtain ⟨a, rfl, hab, hel⟩ := hat hne
    obtain ⟨C, cc, D, d, g0, g1, g2, g3, gr⟩ := hel i e hi
    exact RatL.rsz (X := fun _ => False) (w := w) ⟨_, _, _, _, gr, (hs e he).1, (hs e he).2, rfl⟩ (by omega)
  have L := made1 w #[.bool false, .slice none 0 0, .bool false, .slice none 0 0] 27
  clear hat
  go_enter Try.func37, Try.ntmps37
  go_wp2_with fail
  refine (rzero_rat _).mono ?_
  rintro e w1 ⟨v1, rfl, i1, hb1⟩
  obtain ⟨b1, A1, m1, c1, b1', A1', m1', c1', rfl, i1, -, -⟩ := i1.op
  have y1 := hb1.size; (try simp only [World.size_alloc, size_set, size_drew, size_drewN] at y1)
  have M1 := made1 w1 #[.bool b1, .slice A1 m1 c1, .bool b1', .slice A1' m1' c1'] 27
  go_wp2_with fail
  go_loopw [4] (fun i wr => ∃ (k : Nat) (b : Bool) (A : Option Addr) (m c : Nat) (b' : Bool) (A' : Option Addr) (m' c' : Nat), k ≤ l.length ∧ i = .int .i64 k ∧
      Loc wr w1.heap.size 27 #[.bool b, .slice A m c, .bool b', .slice A' m' c'] ∧ RatV wr (fun g => g ≤ w.heap.size ∨ g = w1.heap.size) (.agg #[.bool b, .slice A m c, .bool b', .slice A' m' c']) (sumR (l.take k)) ∧
      Loc wr w.heap.size 27 #[.bool false, .slice none 0 0, .bool false, .slice none 0 0] ∧ Below w.heap.size w wr) (fun i _ => l.length - (intOf i).toNat)
  case atStart => exact ⟨0, b1, A1, m1, c1, b1', A1', m1', c1', by omega, rfl, M1, RatV.out i1, L.to, bel⟩
  case round =>
    obtain ⟨k, b, A2, m, c, b', A', m', c', hk, rfl, N1, s1, NL, hB⟩ := hrel
    obtain ⟨wo, rfl⟩ : ∃ wo : World, wo = wr := ⟨_, rfl⟩
    clear i1 M1 L
    have y5 := hB.size; (try simp only [World.size_alloc, size_set, size_drew, size_drewN] at y5)
    have q1 := Loc.lt N1
    have q4 := Loc.lt NL
    by_cases hlt : k < l.length
    · obtain ⟨a, rfl, hab, hel⟩ := HAT.out (by omega)
      obtain ⟨C, cc, D, d, g0, g1, g2, g3, gr⟩ := (hel k l[k] (List.getElem?_eq_getElem hlt)).on (by unfold Addr.add; split <;> exact hab) hB
      replace g1 : wo.cell? ⟨(a.add (k * 4)).block, (a.add (k * 4)).off + 1, none⟩ = _ := g1
      replace g2 : wo.cell? ⟨(a.add (k * 4)).block, (a.add (k * 4)).off + 2, none⟩ = _ := g2
      replace g3 : wo.cell? ⟨(a.add (k * 4)).block, (a.add (k * 4)).off + 3, none⟩ = _ := g3
      have hlk := hs _ (List.getElem_mem hlt)
      have HT := Lib.hid (sumR_take l k l[k] (List.getElem?_eq_getElem hlt))
      generalize l[k] = E at *
      obtain ⟨n1, xs, n2, ys⟩ := E
      dsimp only at *
      have r2 : RatL 4 wo (fun _ => False) _ (RF.val ⟨n1, xs, n2, ys⟩) := ⟨_, _, _, _, gr, hlk.1, hlk.2, rfl⟩
      obtain ⟨e1, f1, -⟩ := Loc.all N1 (w' := wo.drew)
      replace g0 : wo.drew.cell? _ = _ := g0
      replace g1 : wo.drew.cell? _ = _ := g1
      replace g2 : wo.drew.cell? _ = _ := g2
      replace g3 : wo.drew.cell? _ = _ := g3
      have HR := Lib.hid (sumR_Rsz l HALL.out k)
      go_wp2_with fail
      go_region_with (first
        | (go_at_call 39; refine (radd_rat _ (fun _ => False) _ _ (sumR (l.take k)) (RF.val ⟨n1, xs, n2, ys⟩) (RatL.to ((s1.len HR.out).mono (by omega))) (RatL.to (r2.mono (by omega)))).mono ?_; rintro e u1 ⟨v5, rfl, i5, hb5⟩; rw [← HT.out] at i5; obtain ⟨b5, A5, m5, c5, b5', A5', m5', c5', rfl, i5, -, -⟩ := i5.op; have y8 := hb5.size; (try simp only [World.size_alloc, size_set, size_drew, size_drewN] at y8); obtain ⟨e3, f3, -⟩ := Loc.all N1 (w' := u1)))
      all_goals
        clear e1 f1 e3 f3
        go_wp2_with fail
        go_roundw
        case rel => exact ⟨k + 1, b5, A5, m5, c5, b5', A5', m5', c5', by omega, by go_num, Loc.fill4 (Loc.to N1 (w' := u1)), RatV.out i5, Loc.to NL, bel⟩
        case measure => simp only [intOf]; omega
    · obtain rfl : k = l.length := by omega
      rw [List.take_length] at s1
      obtain ⟨e1, f1, -⟩ := Loc.all N1 (w' := wo)
      obtain ⟨e4, f4, -⟩ := Loc.all NL (w' := wo)
      go_wp2_with fail
      refine bodyPost_ret (by simp [results, Try.results37, go_sem, e4, f4] <;> rfl) rfl ⟨_, rfl, RatV.out s1, bel⟩
end Go.Proofs.Ytooheapikhdllaa

/- RationalFloor: the law's walk. -/
namespace Go.Proofs.Ytooheapikhdllaa
open Go.RowKit
attribute [local go_sem ↓] Go.wp_at_zero Go.wp_at_succ
attribute [local go_sem] beq_self_eq_true

theorem Rats.on {w w' : World} {v : Value} {l : List RF} (h : Rats w (fun _ => False) v l) (hB : Below w.heap.size w w') : Rats w' (fun _ => False) v l := by
  obtain ⟨A, cap, e, h1, h2, h3⟩ := h
  refine ⟨A, cap, e, h1, h2, fun hn => ?_⟩
  obtain ⟨a, ea, hb, hat⟩ := h3 hn
  refine ⟨a, ea, Nat.lt_of_lt_of_le hb hB.size, fun i e he => (hat i e he).on ?_ hB⟩
  unfold Addr.add; split <;> exact hb

theorem floor_len {x : Rat} {k : Nat} (h : Rsz k x) : (dig x.floor.natAbs).length ≤ k := by
  refine Nat.le_trans (dig_len_mono ?_) h.1
  rw [Rat.floor_def]
  exact Int.natAbs_ediv_le_natAbs _ _
theorem rnew_V (w : World) (X : Nat → Prop) (v1 v2 : Value) (z y : Int) (h1 : IntV w X v1 z) (h2 : IntV w X v2 y) (hy : y ≠ 0) (hs1 : (dig z.natAbs).length ≤ 10000000) (hs2 : (dig y.natAbs).length ≤ 10000000) :
    Calls Try.prog 16 #[v1, v2] w fun e w' => ∃ v', e = .returned (.tuple #[v', .int .i64 0]) ∧ RatV w' (Old w) v' (Rat.divInt z y) ∧ Below w.heap.size w w' := by
  have := rnew_any w X v1 v2 _ _ _ _ h1 h2 (by rw [val_dig]; omega) hs1 hs2
  rw [sv_dig, sv_dig] at this
  exact this
theorem rcompare_le (w : World) (X : Nat → Prop) (v1 v2 : Value) (x y : Rat) (h1 : RatL 1000000 w X v1 x) (h2 : RatL 1000000 w X v2 y) (h : x ≤ y) :
    Calls Try.prog 31 #[v1, v2] w fun e w' => ∃ q : Int, q ≤ 0 ∧ e = .returned (.int .i64 q) ∧ Below w.heap.size w w' :=
  (rcompare_rat w X v1 v2 x y h1 h2).mono fun e w' hh => ⟨_, (rcmp_le x y).2 h, hh.1, hh.2⟩
theorem rcompare_lt (w : World) (X : Nat → Prop) (v1 v2 : Value) (x y : Rat) (h1 : RatL 1000000 w X v1 x) (h2 : RatL 1000000 w X v2 y) (h : x < y) :
    Calls Try.prog 31 #[v1, v2] w fun e w' => ∃ q : Int, q < 0 ∧ e = .returned (.int .i64 q) ∧ Below w.heap.size w w' :=
  (rcompare_rat w X v1 v2 x y h1 h2).mono fun e w' hh => by
    refine ⟨_, ?_, hh.1, hh.2⟩
    have h3 : ¬ rcmp y x ≤ 0 := fun h4 => Rat.not_le.2 h ((rcmp_le y x).1 h4)
    rw [rcmp_neg] at h3
    omega
theorem one_len' : (dig (1 : Int).natAbs).length ≤ 2 := dig_i64 1 (by decide) (by decide)
theorem divInt_one (z : Int) : Rat.divInt z 1 = (z : Rat) := by rw [Rat.divInt_eq_div]; have : ((1 : Int) : Rat) = 1 := rfl; grind

set_option maxHeartbeats 8000000 in
theorem floor_walk (w : World) (v : Value) (l : List RF) (h : Rats w (fun _ => False) v l) :
    Calls Try.prog 9 #[v] w fun e w' => e = .returned (.bool true) ∧ Below w.heap.size w w' := by
  have HAL := h
  obtain ⟨A, cap, rfl, hc1, hc2, hat⟩ := h
  have HAT := Lib.hid hat
  clear hat
  go_enter Try.func9, Try.ntmps9
  go_wp2_with fail
  refine (rknown_any _).mono ?_
  rintro e w1 ⟨rfl, hb1⟩
  have y1 := hb1.size; (try simp only [World.size_alloc, size_set, size_drew, size_drewN] at y1)
  by_cases hl8 : 8 < l.length
  · go_wp2_with fail
    go_ret
    exact ⟨rfl, bel⟩
  · go_wp2_with fail
    go_loopw [17] (fun i wr => ∃ k : Nat, k ≤ l.length ∧ i = .int .i64 k ∧ Hid (∀ j e, j < k → l[j]? = some e → e.xs.length ≤ 4 ∧ e.ys.length ≤ 4) ∧ Below w.heap.size w wr) (fun i _ => l.length - (intOf i).toNat)
    case atStart => exact ⟨0, by omega, rfl, Lib.hid (fun j e hj => by omega), bel⟩
    case round =>
      obtain ⟨k, hk, rfl, hg, hB⟩ := hrel
      obtain ⟨wo, rfl⟩ : ∃ wo : World, wo = wr := ⟨_, rfl⟩
      have y5 := hB.size; (try simp only [World.size_alloc, size_set, size_drew, size_drewN] at y5)
      by_cases hlt : k < l.length
      · obtain ⟨a, rfl, hab, hel⟩ := HAT.out (by omega)
        obtain ⟨C, cc, D, d, g0, g1, g2, g3, gr⟩ := (hel k l[k] (List.getElem?_eq_getElem hlt)).on (by unfold Addr.add; split <;> exact hab) hB
        replace g1 : wo.cell? ⟨(a.add (k * 4)).block, (a.add (k * 4)).off + 1, none⟩ = _ := g1
        replace g2 : wo.cell? ⟨(a.add (k * 4)).block, (a.add (k * 4)).off + 2, none⟩ = _ := g2
        replace g3 : wo.cell? ⟨(a.add (k * 4)).block, (a.add (k * 4)).off + 3, none⟩ = _ := g3
        have HLK := Lib.hid (List.getElem?_eq_getElem hlt)
        generalize l[k] = E at *
        obtain ⟨n1, xs, n2, ys⟩ := E
        dsimp only at *
        go_wp2_with fail
        refine (few_any _ (fun _ => False) _ _ _ _ _ gr.to).mono ?_
        rintro e w2 ⟨he, hb2⟩
        have y2 := hb2.size; (try simp only [World.size_alloc, size_set, size_drew, size_drewN] at y2)
        by_cases hf : xs.length ≤ 4 ∧ ys.length ≤ 4
        · rw [decide_eq_true hf] at he
          subst he
          have HF := Lib.hid hf
          clear hf
          go_wp2_with fail
          go_roundw
          case rel =>
            refine ⟨k + 1, by omega, by go_num, Lib.hid (fun j e hj hje => ?_), bel⟩
            by_cases hjk : j < k
            · exact hg.out j e hjk hje
            · obtain rfl : j = k := by omega
              rw [HLK.out] at hje
              injection hje with hje
              subst hje
              exact HF.out
          case measure => simp only [intOf]; omega
        · rw [decide_eq_false hf] at he
          subst he
          clear hf
          go_wp2_with fail
          go_ret
          exact ⟨rfl, bel⟩
      · obtain rfl : k = l.length := by omega
        have HS := Lib.hid (fun (e : RF) (he : e ∈ l) => (let ⟨j, hj⟩ := List.getElem?_of_mem he; hg.out j e (List.getElem?_eq_some_iff.1 hj).1 hj : e.xs.length ≤ 4 ∧ e.ys.length ≤ 4))
        have HZ : Hid (Rsz 42 (sumR l)) := by
          have hall : ∀ e ∈ l, Rsz 4 e.val := fun e he => by
            obtain ⟨i, hi⟩ := List.getElem?_of_mem he
            have hne : l.length ≠ 0 := by have := (List.getElem?_eq_some_iff.1 hi).1; omega
            obtain ⟨a, rfl, hab, hel⟩ := HAT.out hne
            obtain ⟨C, cc, D, d, g0, g1, g2, g3, gr⟩ := hel i e hi
            exact RatL.rsz (X := fun _ => False) (w := w) ⟨_, _, _, _, gr, (HS.out e he).1, (HS.out e he).2, rfl⟩ (by omega)
          have := sumR_Rsz l hall l.length
          rw [List.take_length] at this
          exact this.mono (by omega)
        clear hg
        go_wp2_with fail
        refine (sum_rat _ _ l (HAL.on hB) (by omega) HS.out).mono ?_
        rintro e w2 ⟨v2, rfl, i2, hb2⟩
        obtain ⟨x, hx⟩ : ∃ x, sumR l = x := ⟨_, rfl⟩
        rw [hx] at i2 HZ
        have HX := Lib.hid hx
        clear hx
        obtain ⟨b2, A2, m2, c2, b2', A2', m2', c2', rfl, i2, -, -⟩ := i2.op
        have y2 := hb2.size; (try simp only [World.size_alloc, size_set, size_drew, size_drewN] at y2)
        have M2 := made1 w2 #[.bool b2, .slice A2 m2 c2, .bool b2', .slice A2' m2' c2'] 27
        go_wp2_with fail
        go_region_held3 (fun W => ((W.cell? ⟨w2.heap.size, 0, none⟩ = some (.bool b2) ∧ W.cell? ⟨w2.heap.size, 1, none⟩ = some (.slice A2 m2 c2)) ∧ W.cell? ⟨w2.heap.size, 2, none⟩ = some (.bool b2') ∧ W.cell? ⟨w2.heap.size, 3, none⟩ = some (.slice A2' m2' c2')))
          (exact ⟨⟨Loc.c 0 M2, Loc.c 1 M2⟩, Loc.c 2 M2, Loc.c 3 M2⟩)
          (first
            | (go_at_call 37; refine (rsum_rat _ _ l (HAL.on bel) (by omega) HS.out).mono ?_; rintro e u1 ⟨v3, rfl, i3, hb3⟩; rw [HX.out] at i3; obtain ⟨b3, A3, m3, c3, b3', A3', m3', c3', rfl, i3, -, -⟩ := i3.op; have y3 := hb3.size; (try simp only [World.size_alloc, size_set, size_drew, size_drewN] at y3))
            | (go_at_call 17; refine (rsame_VV _ (fun _ => False) (fun _ => False) _ _ _ _ (RatV.to i2) (RatV.to i3) rfl).mono ?_; rintro e u2 ⟨rfl, hb4⟩; have y4 := hb4.size; (try simp only [World.size_alloc, size_set, size_drew, size_drewN] at y4)))
        all_goals
          go_wp2_with fail
          refine (rratof_any _ 1 1 (by decide) (by decide) (by decide) (by decide) (by decide)).mono ?_
          rintro e w3 ⟨v5, rfl, i5, hb5⟩
          rw [show Rat.divInt 1 1 = 1 from rfl] at i5
          obtain ⟨b5, A5, m5, c5, b5', A5', m5', c5', rfl, i5, j5, -⟩ := i5.op
          have y6 := hb5.size; (try simp only [World.size_alloc, size_set, size_drew, size_drewN] at y6)
          have M5 := made1 w3 #[.bool b5, .slice A5 m5 c5, .bool b5', .slice A5' m5' c5'] 27
          go_wp2_with fail
          have HFL := Lib.hid (floor_len HZ.out)
          rw [show (Rat.num 1) = 1 from rfl] at j5
          have H1 : Hid ((x.floor : Rat) ≤ x) := Rat.floor_le x
          have H2 : Hid (x < (x.floor : Rat) + 1) := by have := Rat.lt_floor_add_one x; rw [Rat.intCast_add] at this; exact this
          have HN : Hid (Rsz 42 (x.floor : Rat)) := by rw [← divInt_one]; exact divInt_Rsz (by omega) HFL.out (Nat.le_trans one_len' (by omega))
          have HO : Hid (Rsz 2 (1 : Rat)) := by rw [show (1 : Rat) = Rat.divInt 1 1 from rfl]; exact divInt_Rsz (by omega) one_len' one_len'
          go_upto_region 16 with fail
          go_cut [8, 9] (fun v e W => ∃ (g : Nat) (b : Bool) (A : Option Addr) (m c : Nat) (b' : Bool) (A' : Option Addr) (m' c' : Nat), v = .pointer (some ⟨g, 0, none⟩) ∧ e = .int .i64 0 ∧ Loc W g 27 #[.bool b, .slice A m c, .bool b', .slice A' m' c'] ∧ RatV W (fun _ => False) (.agg #[.bool b, .slice A m c, .bool b', .slice A' m' c']) (x.floor : Rat) ∧ Below (w3.heap.size + 1) (w3.alloc (.cells #[.bool b5, .slice A5 m5 c5, .bool b5', .slice A5' m5' c5'] 27)) W)
          case first =>
            go_region_held3 (fun W => (((W.cell? ⟨w2.heap.size, 0, none⟩ = some (.bool b2) ∧ W.cell? ⟨w2.heap.size, 1, none⟩ = some (.slice A2 m2 c2)) ∧ W.cell? ⟨w2.heap.size, 2, none⟩ = some (.bool b2') ∧ W.cell? ⟨w2.heap.size, 3, none⟩ = some (.slice A2' m2' c2')) ∧ W.cell? ⟨w3.heap.size, 0, none⟩ = some (.bool b5) ∧ W.cell? ⟨w3.heap.size, 1, none⟩ = some (.slice A5 m5 c5)))
              (exact ⟨⟨⟨Loc.c 0 M2, Loc.c 1 M2⟩, Loc.c 2 M2, Loc.c 3 M2⟩, Loc.c 0 M5, Loc.c 1 M5⟩)
              (first
                | (go_at_call 38; refine (floor_rat _ (fun _ => False) _ x (RatL.to ((i2.len HZ.out).mono (by omega)))).mono ?_; rintro e u3 ⟨v6, rfl, i6, hb6⟩; obtain ⟨b6, A6, m6, c6, rfl, i6, -, -⟩ := i6.opb; have y7 := hb6.size; (try simp only [World.size_alloc, size_set, size_drew, size_drewN] at y7))
                | (go_at_call 16; refine (rnew_V _ (fun _ => False) _ _ x.floor 1 (IntV.to i6) (IntV.to j5) (by decide) (Nat.le_trans HFL.out (by omega)) (Nat.le_trans one_len' (by omega))).mono ?_; rintro e u4 ⟨v7, rfl, i7, hb7⟩; rw [divInt_one] at i7; obtain ⟨b7, A7, m7, c7, b7', A7', m7', c7', rfl, i7, -, -⟩ := i7.op; have y8 := hb7.size; (try simp only [World.size_alloc, size_set, size_drew, size_drewN] at y8); (first
                  | (have q := (made2 w3 (.cells #[.bool b5, .slice A5 m5 c5, .bool b5', .slice A5' m5' c5'] 27) #[.bool false, .slice none 0 0, .bool false, .slice none 0 0] 27).all (w' := u4); have h7 := (made2 w3 (.cells #[.bool b5, .slice A5 m5 c5, .bool b5', .slice A5' m5' c5'] 27) #[.bool false, .slice none 0 0, .bool false, .slice none 0 0] 27).to (w' := u4); obtain ⟨e7, g7, l7⟩ := q)
                  | (have q := (made1 u3 #[.bool false, .slice none 0 0, .bool false, .slice none 0 0] 27).all (w' := u4); have h7 := (made1 u3 #[.bool false, .slice none 0 0, .bool false, .slice none 0 0] 27).to (w' := u4); obtain ⟨e7, g7, l7⟩ := q)
                  | skip)))
            all_goals
              go_wp2_with fail
              go_meet
              first
                | (have q := Loc.fill4 (u := .bool b7) (v := .slice A7 m7 c7) (x := .bool b7') (y := .slice A7' m7' c7') h7; exact ⟨_, _, _, _, _, _, _, _, _, rfl, rfl, q, RatV.to i7, bel⟩)
                | exact ⟨_, _, _, _, _, _, _, _, _, rfl, rfl, made1 u4 _ _, RatV.to i7, bel⟩
          case rest =>
            obtain ⟨g8, b8, A8, m8, c8, b8', A8', m8', c8', rfl, rfl, M8, i8, hB8⟩ := hcut
            obtain ⟨w8, rfl⟩ : ∃ w8 : World, w8 = wc := ⟨_, rfl⟩
            have y9 := hB8.size; (try simp only [World.size_alloc, size_set, size_drew, size_drewN] at y9)
            have hB9 : Below (w3.alloc (.cells #[.bool b5, .slice A5 m5 c5, .bool b5', .slice A5' m5' c5'] 27)).heap.size (w3.alloc (.cells #[.bool b5, .slice A5 m5 c5, .bool b5', .slice A5' m5' c5'] 27)) w8 := by rw [World.size_alloc]; exact hB8
            have N2 : Loc w8 _ _ _ := Loc.to M2
            have N5 : Loc w8 _ _ _ := Loc.to M5
            have n2 : RatV w8 (fun _ => False) _ x := RatV.to i2
            have n5 : RatV w8 (fun _ => False) _ 1 := RatV.to i5
            have k5 : IntV w8 (fun _ => False) _ 1 := IntV.to j5
            have hBB : Below w.heap.size w w8 := bel
            clear M2 M5 i2 i5 j5 hb4 hb5 hB8 hB9 i3 hb3
            have hq5 := Loc.lt N5
            go_wp2_with fail
            go_region_held3 (fun W => ((W.cell? ⟨w2.heap.size, 0, none⟩ = some (.bool b2) ∧ W.cell? ⟨w2.heap.size, 1, none⟩ = some (.slice A2 m2 c2)) ∧ W.cell? ⟨w2.heap.size, 2, none⟩ = some (.bool b2') ∧ W.cell? ⟨w2.heap.size, 3, none⟩ = some (.slice A2' m2' c2')) ∧ ((W.cell? ⟨w3.heap.size, 0, none⟩ = some (.bool b5) ∧ W.cell? ⟨w3.heap.size, 1, none⟩ = some (.slice A5 m5 c5)) ∧ W.cell? ⟨w3.heap.size, 2, none⟩ = some (.bool b5') ∧ W.cell? ⟨w3.heap.size, 3, none⟩ = some (.slice A5' m5' c5')) ∧ ((W.cell? ⟨g8, 0, none⟩ = some (.bool b8) ∧ W.cell? ⟨g8, 1, none⟩ = some (.slice A8 m8 c8)) ∧ W.cell? ⟨g8, 2, none⟩ = some (.bool b8') ∧ W.cell? ⟨g8, 3, none⟩ = some (.slice A8' m8' c8')))
              (exact ⟨⟨⟨Loc.c 0 N2, Loc.c 1 N2⟩, Loc.c 2 N2, Loc.c 3 N2⟩, ⟨⟨Loc.c 0 N5, Loc.c 1 N5⟩, Loc.c 2 N5, Loc.c 3 N5⟩, ⟨⟨Loc.c 0 M8, Loc.c 1 M8⟩, Loc.c 2 M8, Loc.c 3 M8⟩⟩)
              (first
                | (go_at_call_of 31 (#[Value.agg #[Value.bool b8, Value.slice A8 m8 c8, Value.bool b8', Value.slice A8' m8' c8'], Value.agg #[Value.bool b2, Value.slice A2 m2 c2, Value.bool b2', Value.slice A2' m2' c2']]); refine (rcompare_le _ (fun _ => False) _ _ (x.floor : Rat) x (RatL.to ((i8.len HN.out).mono (by omega))) (RatL.to ((n2.len HZ.out).mono (by omega))) H1.out).mono ?_; rintro e u5 ⟨q1, hq1, rfl, hb10⟩; have y10 := hb10.size; (try simp only [World.size_alloc, size_set, size_drew, size_drewN] at y10))
                | (go_at_call 39; refine (radd_rat _ (fun _ => False) _ _ (x.floor : Rat) 1 (RatL.to ((i8.len HN.out).mono (by omega))) (RatL.to ((n5.len HO.out).mono (by omega)))).mono ?_; rintro e u6 ⟨v11, rfl, i11, hb11⟩; obtain ⟨b11, A11, m11, c11, b11', A11', m11', c11', rfl, i11, -, -⟩ := i11.op; have y11 := hb11.size; (try simp only [World.size_alloc, size_set, size_drew, size_drewN] at y11))
                | (go_at_call_of 31 (#[Value.agg #[Value.bool b2, Value.slice A2 m2 c2, Value.bool b2', Value.slice A2' m2' c2'], Value.agg #[Value.bool b11, Value.slice A11 m11 c11, Value.bool b11', Value.slice A11' m11' c11']]); refine (rcompare_lt _ (fun _ => False) _ _ x ((x.floor : Rat) + 1) (RatL.to ((n2.len HZ.out).mono (by omega))) (RatL.to ((i11.len (HN.out.add HO.out)).mono (by omega))) H2.out).mono ?_; rintro e u7 ⟨q2, hq2, rfl, hb12⟩; have y12 := hb12.size; (try simp only [World.size_alloc, size_set, size_drew, size_drewN] at y12))
                | (go_at_call 38; refine (floor_rat _ (fun _ => False) _ x (RatL.to ((n2.len HZ.out).mono (by omega)))).mono ?_; rintro e u8 ⟨v13, rfl, i13, hb13⟩; obtain ⟨b13, A13, m13, c13, rfl, i13, -, -⟩ := i13.opb; have y13 := hb13.size; (try simp only [World.size_alloc, size_set, size_drew, size_drewN] at y13))
                | (go_at_call 17; refine (rsame_VV _ (fun _ => False) (fun _ => False) _ _ _ _ (RatV.of (q := (x.floor : Rat)) (IntV.to i13) (IntV.to k5)) (RatV.to i8) rfl).mono ?_; rintro e u9 ⟨rfl, hb14⟩; have y14 := hb14.size; (try simp only [World.size_alloc, size_set, size_drew, size_drewN] at y14)))
            all_goals
              go_wp2_with fail
              go_ret
              exact ⟨rfl, bel⟩
end Go.Proofs.Ytooheapikhdllaa

/- The statement 'RationalFloor' out of its walk. The frame is the guide's own (proof-skeleton), printed by lawgen.py. -/
namespace Go.Proofs.Ytooheapikhdllaa.rationalFloor
open Go.ChangeShapes Go.WideShapes Go.ChangeAt Go.RowKit Go.Proofs.Ytooheapikhdllaa
open Go.ChangeMaps (open_string shut_string)
set_option linter.unusedVariables false

set_option maxRecDepth 100000 in
theorem lifted (os : Os) (started : os.Started) (H : Type) (enc : TypeId × Value → H) :
    ReturnsInHanded {} Try.checked os 9 .any (Rows.rationalFloorSpec.pre6 enc Try.prog Try.f9 Rows.rationalFloorRow.domain false) (Rows.rationalFloorSpec.post enc Try.prog Try.f9 false true false false) := by
  refine returnsInHanded_of_change (C := Try.checked) own started (by kernel_rfl) Try.func9
    (ChangeSpec.witness6 (enc := enc) (C := Try.checked) false ⟨#[], #[.slice none 0 0], []⟩ 8 (by kernel_rfl) (by kernel_rfl) (by kernel_rfl) (by kernel_rfl)) ?_
  intro W base args ds gs before hval0 hW hcnd _
  have hval : ∀ (j : Nat) t v, Try.f9.params[j]? = some t → args[j]? = some v → Value.okWide Try.prog W .any base t v := hval0
  have hW' := hW
  obtain ⟨p, q, hA0, hV, rfl, hfz, hnd⟩ := hW
  have hA : DataW.TrodAll enc Try.prog W 0 (fun _ => true) true Try.f9.params.toList args.toList ds p := hA0
  rw [Try.params9] at hA hval
  obtain ⟨v0, vs0, d0, ds0, p0, q0, hargs, rfl, rfl, h0, r0⟩ := trodAll_cons hA
  obtain ⟨rfl, rfl, rfl⟩ := trodAll_nil r0
  obtain rfl : args = #[v0] := by cases args; simp_all
  obtain ⟨rfl, rfl⟩ := trodVars_none hV
  have lt0 : ∀ x ∈ p0, x.block < W.heap.size := by obtain ⟨m, hm⟩ := h0; exact DataW.trod_lt m _ _ _ hm
  have k0 := fun (W' : World) (bel : Below W.heap.size W W') => Below.trod laidOut (by kernel_rfl) (of_decide_eq_true (by kernel_rfl)) h0 bel lt0
  obtain ⟨l0, o0⟩ := open_RatsV (hval 0 46 v0 rfl rfl) h0
  refine (floor_walk W v0 l0 o0).mono fun e W' ⟨he, bel⟩ => ?_
  subst he
  exact ⟨_, rfl, _, _, _, [], _, [], hW', trodAll_mk1 (shut_bool Try.underlying4 _), (trodAll_cons_mk (k0 _ bel) trodAll_mk0), rfl, bel.frame _, fun h => by cases h⟩

theorem over : Rows.rationalFloorRow.holds Try.pinned (OpenSpec.ofChange Rows.rationalFloorSpec) :=
  OpenClaim.holds_of_wide 9 Try.f9 rfl rfl rfl rfl rfl rfl rfl ⟨rfl, rfl, rfl, rfl, rfl⟩ rfl rfl rfl rfl rfl (by kernel_rfl) Try.func9 (by kernel_rfl)
    (of_decide_eq_true (by kernel_rfl)) (by unfold Func.isWrapper; first | (rw [if_pos (by decide +kernel)]; kernel_rfl) | (rw [if_neg (by decide +kernel)]; exact ⟨rfl, rfl⟩))
    (fun os started H enc _ => lifted os started H enc)

/-- The statement: for every input the law returns true; each argument reads behind the call as it read before. -/
theorem proved : Rows.RationalFloorSaid := over
end Go.Proofs.Ytooheapikhdllaa.rationalFloor

