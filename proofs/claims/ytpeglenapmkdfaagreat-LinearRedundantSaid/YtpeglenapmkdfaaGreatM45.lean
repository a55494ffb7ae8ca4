/- Contracts of the functions that the statements reach, part 45. -/
import Derived.Test.YtpeglenapmkdfaaGreatRows
import Derived.Laws.OwnMore
import Derived.Laws.Cover3
import Derived.Test.YtpeglenapmkdfaaGreatM44
set_option linter.unusedSimpArgs false
set_option linter.unusedVariables false

/- slices.Clone at the two lists; lists of lists that grow. -/
namespace Go.Proofs.YtpeglenapmkdfaaGreat
open Go.RowKit
attribute [local go_sem ↓] Go.wp_at_zero Go.wp_at_succ

theorem eql_nilM (w : World) (a : Addr) (l c : Nat) : (binOp .eql 22 (.slice (some a) l c) (.slice none 0 0)).run Tryz.prog w = .ok (.bool false) w := by
  simp only [binOp]
  simp [run_equal_slice_nil w 22 23 (some a) l c Tryz.underlying22]
theorem eql_nilR (w : World) (a : Addr) (l c : Nat) : (binOp .eql 23 (.slice (some a) l c) (.slice none 0 0)).run Tryz.prog w = .ok (.bool false) w := by
  simp only [binOp]
  simp [run_equal_slice_nil w 23 44 (some a) l c Tryz.underlying23]
attribute [local go_sem] eql_nilM eql_nilR
theorem info_rats : (Tryz.prog.info? 23).map (fun i => (i.zero, i.size, i.bytes)) = some (some (.slice none 0 0), 1, 24) := by kernel_rfl
/-- A list of lists that lies in a block of its own, at or above base. -/
def OwnL (w : World) (base : Nat) (v : Value) (us : List Value) : Prop := w.ownsRow base 23 1 v us.length us
def isL (u : Value) : Prop := ∃ B p c, u = .slice B p c
theorem isL.one {u : Value} (h : isL u) : u.oneCell' = true := by
  obtain ⟨B, p, c, rfl⟩ := h; rfl
theorem OwnL.below {w w' : World} {base : Nat} {v : Value} {us : List Value} (h : OwnL w base v us) (hb : Below w.heap.size w w') : OwnL w' base v us := by
  refine ⟨h.1, ?_⟩
  rcases h.2 with ⟨h', hn⟩ | ⟨g', cap', cur, h', h3, hg', h1, h2, hsz, htake⟩
  · exact .inl ⟨h', hn⟩
  · exact .inr ⟨g', cap', cur, h', h3, by rw [hb.block g' (Array.getElem?_eq_some_iff.1 hg').1]; exact hg', h1, h2, hsz, htake⟩
theorem OwnL.mat {w : World} {base g k cap M : Nat} {us : List Value} {N : Nat → Nat} {F : Nat → Nat → Rat} (h : OwnL w base (.slice (some ⟨g, 0, none⟩) M cap) us) (hM : us.length = M) (hn : 0 < M) (hu : ∀ i u, us[i]? = some u → Nums k w (fun _ => False) u (N i) (F i)) :
    Mat k w (fun _ => False) (.slice (some ⟨g, 0, none⟩) M cap) M N F := by
  subst hM
  have hg := h.lt g rfl
  have h1 : us.length ≤ cap ∧ cap ≤ maxLen := by
    rcases h.2 with ⟨h', _⟩ | ⟨g', cap', cur, h', _, _, h1, h2, _⟩
    · simp at h'
    · simp only [Value.slice.injEq, Option.some.injEq, Addr.mk.injEq, and_true, true_and] at h'
      obtain ⟨rfl, rfl⟩ := h'
      exact ⟨h1, h2⟩
  refine ⟨us, _, _, rfl, rfl, h1.1, h1.2, fun _ => ⟨_, rfl, hg.2, id, fun i u hu => ?_⟩, hu⟩
  have e : (⟨g, 0, none⟩ : Addr).add i = ⟨g, i, none⟩ := by simp [Addr.add]; intro h; omega
  have hi := (List.getElem?_eq_some_iff.1 hu).1
  rw [e, World.ownsRow.cellAt h i (by omega)]
  exact hu
theorem wp_pushL {o : Oper} {a : Act} {K : Act → World → Prop} {Q : Exit → Act → World → Prop} (w : World) (s x : Operand) (ho : o.op = .call { callee := .builtin .append, args := #[s, x], argTypes := #[22, 22] })
    (base : Nat) (v : Value) (us : List Value) (hs : a.eval s = v) (hown : OwnL w base v us) (ad : Addr) (c m T : Nat) (news : List Value) (hx : a.eval x = .slice (some ad) m c) (hlen : news.length = m) (hT : us.length + m = T) (hnews : ∀ j u, news[j]? = some u → w.cell? (ad.add j) = some u)
    (h1 : ∀ u ∈ news, isL u) (hm : 0 < m) (hn : T ≤ 2000) (hbase : base ≤ w.heap.size)
    (h : ∀ g cap w', OwnL w' base (.slice (some ⟨g, 0, none⟩) T cap) (us ++ news) → w.grownBy w' v.ownBlock → (v.ownBlock = some g ∨ g = w.heap.size) → g < w'.heap.size → K (a.put o.dst (.slice (some ⟨g, 0, none⟩) T cap)) w') :
    Oper.wp Tryz.prog o a w K Q := by
  obtain ⟨i, hi, hz0, hz1, hz2⟩ := info_parts info_rats
  subst hT
  refine wp_append_lies w s x 22 ho base 23 i _ 1 24 Tryz.underlying22 hi hz0 hz1 hz2 rfl (by decide) v us.length us hs hown ad m c news hx (by omega) hnews (fun u hu => (h1 u hu).one) hm (by unfold maxLen; omega) (by omega) hbase _ rfl ?_
  intro g cap w' h1 h2 h3 h4
  refine h g cap w' ?_ h2 h3 h4
  unfold OwnL
  rw [List.length_append, hlen]
  exact h1
theorem wpList_pushL {ops : Array Oper} {rest : List Oper} {o : Oper} {a : Act} {Q : Exit → Act → World → Prop} (w : World) (hgd : o.guard = none) (s x : Operand) (ho : o.op = .call { callee := .builtin .append, args := #[s, x], argTypes := #[22, 22] })
    (base : Nat) (v : Value) (us : List Value) (hs : a.eval s = v) (hown : OwnL w base v us) (ad : Addr) (c m T : Nat) (news : List Value) (hx : a.eval x = .slice (some ad) m c) (hlen : news.length = m) (hT : us.length + m = T) (hnews : ∀ j u, news[j]? = some u → w.cell? (ad.add j) = some u)
    (h1 : ∀ u ∈ news, isL u) (hm : 0 < m) (hn : T ≤ 2000) (hbase : base ≤ w.heap.size)
    (h : ∀ g cap w', OwnL w' base (.slice (some ⟨g, 0, none⟩) T cap) (us ++ news) → w.grownBy w' v.ownBlock → (v.ownBlock = some g ∨ g = w.heap.size) → g < w'.heap.size → wpList Tryz.prog ops Q rest (a.put o.dst (.slice (some ⟨g, 0, none⟩) T cap)) w') : wpList Tryz.prog ops Q (o :: rest) a w :=
  wpList_plain hgd fun _ hK => wp_pushL w s x ho base v us hs hown ad c m T news hx hlen hT hnews h1 hm hn hbase fun g cap w' h1 h2 h3 h4 => hK _ _ (h g cap w' h1 h2 h3 h4)
theorem step_pushL {ops : Array Oper} {o : Oper} {a : Act} {K : Act → World → Prop} {Q : Exit → Act → World → Prop} {E : Prop} (w : World) (hgd : o.guard = none) (s x : Operand) (ho : o.op = .call { callee := .builtin .append, args := #[s, x], argTypes := #[22, 22] })
    (base : Nat) (v : Value) (us : List Value) (hs : a.eval s = v) (hown : OwnL w base v us) (ad : Addr) (c m T : Nat) (news : List Value) (hx : a.eval x = .slice (some ad) m c) (hlen : news.length = m) (hT : us.length + m = T) (hnews : ∀ j u, news[j]? = some u → w.cell? (ad.add j) = some u)
    (h1 : ∀ u ∈ news, isL u) (hm : 0 < m) (hn : T ≤ 2000) (hbase : base ≤ w.heap.size)
    (h : ∀ g cap w', OwnL w' base (.slice (some ⟨g, 0, none⟩) T cap) (us ++ news) → w.grownBy w' v.ownBlock → (v.ownBlock = some g ∨ g = w.heap.size) → g < w'.heap.size → K (a.put o.dst (.slice (some ⟨g, 0, none⟩) T cap)) w') :
    if Region.wanted o (yielded ops a.tmps) = true then Oper.wp Tryz.prog o a w K Q else E := by
  have hw : Region.wanted o (yielded ops a.tmps) = true := by simp [Region.wanted, hgd]
  rw [if_pos hw]
  exact wp_pushL w s x ho base v us hs hown ad c m T news hx hlen hT hnews h1 hm hn hbase h

theorem flat_mem : ∀ (rs : List R4) (u : Value), u ∈ flat rs → u.oneCell' = true
  | [], u, h => by simp [flat] at h
  | r :: rs, u, h => by
    simp only [flat, List.mem_cons] at h
    rcases h with rfl | rfl | rfl | rfl | h
    · rfl
    · rfl
    · rfl
    · rfl
    · exact flat_mem rs u h
theorem flat_all {P : Nat → Value → Prop} (rs : List R4) (h : ∀ i r, rs[i]? = some r → P (i * 4) (.bool r.b) ∧ P (i * 4 + 1) (.slice r.A r.m r.c) ∧ P (i * 4 + 2) (.bool r.b') ∧ P (i * 4 + 3) (.slice r.A' r.m' r.c')) (j : Nat) (u : Value) (hu : (flat rs)[j]? = some u) : P j u := by
  have hj := (List.getElem?_eq_some_iff.1 hu).1
  rw [flat_len] at hj
  have hi : j / 4 < rs.length := by omega
  have hr := List.getElem?_eq_getElem hi
  obtain ⟨a0, a1, a2, a3⟩ := flat_get rs _ _ hr
  obtain ⟨p0, p1, p2, p3⟩ := h _ _ hr
  rcases (show j = j / 4 * 4 ∨ j = j / 4 * 4 + 1 ∨ j = j / 4 * 4 + 2 ∨ j = j / 4 * 4 + 3 by omega) with e | e | e | e
  · rw [e] at hu ⊢; rw [a0] at hu; injection hu with hu; subst hu; exact p0
  · rw [e] at hu ⊢; rw [a1] at hu; injection hu with hu; subst hu; exact p1
  · rw [e] at hu ⊢; rw [a2] at hu; injection hu with hu; subst hu; exact p2
  · rw [e] at hu ⊢; rw [a3] at hu; injection hu with hu; subst hu; exact p3
/-- A list of fractions appended to an empty one. -/
theorem wpList_catR {ops : Array Oper} {rest : List Oper} {o : Oper} {a : Act} {Q : Exit → Act → World → Prop} (w : World) (hgd : o.guard = none) (s x : Operand) (ho : o.op = .call { callee := .builtin .append, args := #[s, x], argTypes := #[23, 23] })
    (base : Nat) (v : Value) (hs : a.eval s = v) (hown : OwnR w base v []) (ad : Addr) (c m : Nat) (rs : List R4) (hx : a.eval x = .slice (some ad) m c) (hlen : rs.length = m) (hnews : ∀ j u, (flat rs)[j]? = some u → w.cell? (ad.add j) = some u)
    (hm : 0 < m) (hn : m ≤ 2000) (hbase : base ≤ w.heap.size)
    (h : ∀ g cap w', OwnR w' base (.slice (some ⟨g, 0, none⟩) m cap) rs → w.grownBy w' v.ownBlock → (v.ownBlock = some g ∨ g = w.heap.size) → g < w'.heap.size → wpList Tryz.prog ops Q rest (a.put o.dst (.slice (some ⟨g, 0, none⟩) m cap)) w') : wpList Tryz.prog ops Q (o :: rest) a w := by
  obtain ⟨i, hi, hz0, hz1, hz2⟩ := info_parts info_rat
  refine wpList_plain hgd fun _ hK => ?_
  refine wp_append_lies w s x 23 ho base 44 i _ 4 64 Tryz.underlying23 hi hz0 hz1 hz2 rfl (by decide) v 0 [] hs hown ad m c (flat rs) hx (by rw [flat_len, hlen]) hnews (flat_mem rs) hm (by unfold maxLen; omega) (by omega) hbase _ rfl ?_
  intro g cap w' h1 h2 h3 h4
  rw [Nat.zero_add] at h1 ⊢
  refine hK _ _ (h g cap w' ?_ h2 h3 h4)
  unfold OwnR
  rw [hlen]
  exact h1

set_option maxRecDepth 100000 in
set_option maxHeartbeats 4000000 in
theorem cloneM_any (w : World) (a : Addr) (cap m : Nat) (us : List Value) (hc : ∀ i u, us[i]? = some u → w.cell? (a.add i) = some u) (hb : a.block < w.heap.size) (hl : us.length = m) (h1 : 0 < m) (h2 : m ≤ 1000) (hu : ∀ u ∈ us, isL u) :
    Calls Tryz.prog 24 #[.slice (some a) m cap] w fun e w' => ∃ g c', e = .returned (.slice (some ⟨g, 0, none⟩) m c') ∧ OwnL w' w.heap.size (.slice (some ⟨g, 0, none⟩) m c') us ∧ Below w.heap.size w w' := by
  have HC := Lib.hid hc
  have HU := Lib.hid hu
  clear hc hu
  have hown : OwnL (w.alloc (.cells #[] 23)) w.heap.size (.slice (some ⟨w.heap.size, 0, none⟩) 0 0) [] := World.ownsRow_lit w #[] 0 (Nat.le_refl _) (by decide) rfl
  go_enter Tryz.func24, Tryz.ntmps24
  go_wp2_with (at_builtin; refine wpList_pushL _ rfl _ _ rfl w.heap.size _ [] rfl hown a cap m m us rfl hl (by simp) (fun j u hj => cell_keep (X := fun _ => False) (HC.out j u hj) (by rw [add_block]; exact hb) id kp) HU.out h1 (by omega) (by simp only [World.size_alloc]; omega) ?_)
  intro g cap2 w2 hown2 hg2 ho2 hl2
  have hb2 : Below w.heap.size w w2 := below_own (bel : Below w.heap.size w (w.alloc (.cells #[] 23))) hown hg2 (Nat.le_refl _) (by simp only [World.size_alloc]; omega)
  go_wp2_with fail
  go_ret
  exact ⟨g, cap2, rfl, hown2, hb2⟩
set_option maxRecDepth 100000 in
set_option maxHeartbeats 4000000 in
theorem cloneR_any (w : World) (v : Value) (m k : Nat) (f : Nat → Rat) (h : Nums k w (fun _ => False) v m f) (h1 : 0 < m) (h2 : m ≤ 1000) :
    Calls Tryz.prog 25 #[v] w fun e w' => ∃ g c' rs, e = .returned (.slice (some ⟨g, 0, none⟩) m c') ∧ OwnR w' w.heap.size (.slice (some ⟨g, 0, none⟩) m c') rs ∧ rs.length = m ∧ ValL k w' (fun b => w.heap.size ≤ b) rs f ∧ Below w.heap.size w w' := by
  obtain ⟨rs, A, cap, hl, rfl, l1, l2, h3, hv⟩ := h
  obtain ⟨a, rfl, hb, -, hc⟩ := h3 (by omega)
  have HC : Hid (∀ j u, (flat rs)[j]? = some u → w.cell? (a.add j) = some u) := flat_all (P := fun j u => w.cell? (a.add j) = some u) rs (fun i r hr => by
    have := hc i r hr
    have e2 : ∀ i j, (a.add i).add j = a.add (i + j) := fun i j => addr_add_add a i j
    rw [e2, e2, e2] at this
    exact this)
  have HV : Hid (ValL k w (fun b => w.heap.size ≤ b) rs f) := hv.weak (fun b hb h => absurd hb (by have : w.heap.size ≤ b := h; omega))
  have hown : OwnR (w.alloc (.cells #[] 44)) w.heap.size (.slice (some ⟨w.heap.size, 0, none⟩) 0 0) [] := World.ownsRow_lit w #[] 0 (Nat.le_refl _) (by decide) rfl
  clear hc h3 hv
  go_enter Tryz.func25, Tryz.ntmps25
  go_wp2_with (at_builtin; refine wpList_catR _ rfl _ _ rfl w.heap.size _ rfl hown a cap m rs rfl hl (fun j u hj => cell_keep (X := fun _ => False) (HC.out j u hj) (by rw [add_block]; exact hb) id kp) h1 (by omega) (by simp only [World.size_alloc]; omega) ?_)
  intro g cap2 w2 hown2 hg2 ho2 hl2
  have hb2 : Below w.heap.size w w2 := below_own (bel : Below w.heap.size w (w.alloc (.cells #[] 44))) hown hg2 (Nat.le_refl _) (by simp only [World.size_alloc]; omega)
  go_wp2_with fail
  go_ret
  exact ⟨g, cap2, rs, rfl, hown2, hl, HV.out.keep (.of_below hb2), hb2⟩
end Go.Proofs.YtpeglenapmkdfaaGreat

/- A system with one equation more. -/
namespace Go.Proofs.YtpeglenapmkdfaaGreat
open Go.RowKit

def Nx (m : Nat) (N : Nat → Nat) (n : Nat) : Nat → Nat := fun i => if i < m then N i else n
def Fx (m : Nat) (F : Nat → Nat → Rat) (f : Nat → Rat) : Nat → Nat → Rat := fun i => if i < m then F i else f
def Bx (m : Nat) (B : Nat → Rat) (b : Rat) : Nat → Rat := fun i => if i < m then B i else b
theorem ext_of {m : Nat} {N : Nat → Nat} {F : Nat → Nat → Rat} {Bv f : Nat → Rat} {b : Rat} (hv : VS m m N) (hm : m ≤ 79) : Ext m N (Nx m N (N 0)) F (Fx m F f) Bv (Bx m Bv b) := by
  obtain ⟨h1, h2, h3, h4, h5, h6⟩ := hv
  have e0 : Nx m N (N 0) 0 = N 0 := by unfold Nx; rw [if_pos (by omega)]
  refine ⟨⟨by omega, by omega, rfl, by rw [e0]; exact h4, by rw [e0]; exact h5, fun i hi => ?_⟩, e0, fun i hi j _ => by unfold Fx; rw [if_pos hi], fun i hi => by unfold Bx; rw [if_pos hi]⟩
  rw [e0]
  unfold Nx
  split
  · exact h6 i (by assumption)
  · rfl
section
variable {w : World} {base g cap m n k : Nat} {us : List Value} {u : Value} {N : Nat → Nat} {F : Nat → Nat → Rat} {f B : Nat → Rat} {rs : List R4} {r : R4} {b : Rat}
theorem OwnL.more (h : OwnL w base (.slice (some ⟨g, 0, none⟩) (m + 1) cap) (us ++ [u])) (hl : us.length = m) (hu : ∀ i u, us[i]? = some u → Nums k w (fun _ => False) u (N i) (F i)) (hu2 : Nums k w (fun _ => False) u n f) :
    Mat k w (fun _ => False) (.slice (some ⟨g, 0, none⟩) (m + 1) cap) (m + 1) (Nx m N n) (Fx m F f) := by
  refine h.mat (by simp [hl]) (by omega) (fun i v hv => ?_)
  by_cases hi : i < m
  · rw [List.getElem?_append_left (by omega)] at hv
    have := hu i v hv
    unfold Nx Fx
    rw [if_pos hi, if_pos hi]
    exact this
  · have hlt := (List.getElem?_eq_some_iff.1 hv).1
    simp at hlt
    obtain rfl : i = us.length := by omega
    simp at hv
    subst hv
    unfold Nx Fx
    rw [if_neg hi, if_neg hi]
    exact hu2
theorem OwnR.more (h : OwnR w base (.slice (some ⟨g, 0, none⟩) (m + 1) cap) (rs ++ [r])) (hl : rs.length = m) (hv : ValL k w (fun b => b = g) (rs ++ [r]) f) : Nums k w (fun _ => False) (.slice (some ⟨g, 0, none⟩) (m + 1) cap) (m + 1) f := by
  have := h.nums hv (Y := fun _ => False) (fun _ _ h => h.elim) (fun _ _ h => h)
  rw [show (rs ++ [r]).length = m + 1 by simp [hl]] at this
  exact this
theorem ValL.bx (h : ValL k w (fun b => base ≤ b) rs B) (hl : rs.length = m) : ValL k w (fun b => base ≤ b) rs (Bx m B b) := h.congr (fun i hi => by unfold Bx; rw [if_pos (by omega)])
theorem bx_last : Bx m B b m = b := by unfold Bx; rw [if_neg (by omega)]
end
/-- The rows of a matrix that is read, as values. -/
theorem Mat.rows {w : World} {k m cap : Nat} {a : Addr} {N : Nat → Nat} {F : Nat → Nat → Rat} (h : Mat k w (fun _ => False) (.slice (some a) m cap) m N F) (hm : 0 < m) :
    ∃ us : List Value, us.length = m ∧ a.block < w.heap.size ∧ (∀ i u, us[i]? = some u → w.cell? (a.add i) = some u) ∧ (∀ i u, us[i]? = some u → Nums k w (fun _ => False) u (N i) (F i)) ∧ ∀ u ∈ us, isL u := by
  obtain ⟨us, A1, cap1, h1, h2, h3, h4, h5, h6⟩ := h
  injection h2 with e1 e2 e3
  subst e1
  obtain ⟨a', ea, hb, -, hc⟩ := h5 (by omega)
  injection ea with ea
  subst ea
  refine ⟨us, h1, hb, hc, h6, fun u hu => ?_⟩
  obtain ⟨i, hi, rfl⟩ := List.mem_iff_getElem.1 hu
  obtain ⟨B, c, e, -⟩ := (h6 i _ (List.getElem?_eq_getElem hi)).op
  exact ⟨B, _, c, e⟩
/-- The first row's cell, if there is a row; else any cell that is known. -/
theorem first_row {w : World} {L : List (List RF)} {A : Option Addr} {m cap : Nat} (h : RMat w (.slice A m cap) L) (hm : L.length = m) (a1 : Addr) (u1 : Value) (h1 : w.cell? a1 = some u1) (hb : a1.block < w.heap.size) :
    ∃ (a0 : Addr) (u0 : Value), Hid (∀ W, Keep (fun _ => False) w W → W.cell? a0 = some u0) ∧ Hid (0 < m → A = some a0 ∧ ∃ D d, u0 = .slice D (lens L 0) d) := by
  by_cases h0 : 0 < m
  · have he := List.getElem?_eq_getElem (l := L) (i := 0) (by omega)
    obtain ⟨a, B, c, rfl, hb, hc, -, -, -⟩ := h.at he
    rw [addr_zero] at hc
    exact ⟨a, _, fun W hW => cell_keep hc hb id hW, fun _ => ⟨rfl, B, c, by rw [lens_get he]⟩⟩
  · exact ⟨a1, u1, fun W hW => cell_keep h1 hb id hW, fun h => absurd h h0⟩
end Go.Proofs.YtpeglenapmkdfaaGreat

/- Blocks of different types do not touch each other. -/
namespace Go.Proofs.YtpeglenapmkdfaaGreat
open Go.RowKit
attribute [local go_sem ↓] Go.wp_at_zero Go.wp_at_succ
attribute [local go_sem] eql_nilM eql_nilR
set_option maxRecDepth 100000 in
set_option maxHeartbeats 4000000 in
theorem cloneRX_any (w : World) (X : Nat → Prop) (v : Value) (m k : Nat) (f : Nat → Rat) (h : Nums k w X v m f) (h1 : 0 < m) (h2 : m ≤ 1000) :
    Calls Tryz.prog 25 #[v] w fun e w' => ∃ g c' rs, e = .returned (.slice (some ⟨g, 0, none⟩) m c') ∧ OwnR w' w.heap.size (.slice (some ⟨g, 0, none⟩) m c') rs ∧ rs.length = m ∧ ValL k w' X rs f ∧ Below w.heap.size w w' := by
  obtain ⟨rs, A, cap, hl, rfl, l1, l2, h3, hv⟩ := h
  obtain ⟨a, rfl, hb, -, hc⟩ := h3 (by omega)
  have HC : Hid (∀ j u, (flat rs)[j]? = some u → w.cell? (a.add j) = some u) := flat_all (P := fun j u => w.cell? (a.add j) = some u) rs (fun i r hr => by
    have := hc i r hr
    have e2 : ∀ i j, (a.add i).add j = a.add (i + j) := fun i j => addr_add_add a i j
    rw [e2, e2, e2] at this
    exact this)
  have HV := Lib.hid hv
  have hown : OwnR (w.alloc (.cells #[] 44)) w.heap.size (.slice (some ⟨w.heap.size, 0, none⟩) 0 0) [] := World.ownsRow_lit w #[] 0 (Nat.le_refl _) (by decide) rfl
  clear hc h3 hv
  go_enter Tryz.func25, Tryz.ntmps25
  go_wp2_with (at_builtin; refine wpList_catR _ rfl _ _ rfl w.heap.size _ rfl hown a cap m rs rfl hl (fun j u hj => cell_keep (X := fun _ => False) (HC.out j u hj) (by rw [add_block]; exact hb) id kp) h1 (by omega) (by simp only [World.size_alloc]; omega) ?_)
  intro g cap2 w2 hown2 hg2 ho2 hl2
  have hb2 : Below w.heap.size w w2 := below_own (bel : Below w.heap.size w (w.alloc (.cells #[] 44))) hown hg2 (Nat.le_refl _) (by simp only [World.size_alloc]; omega)
  go_wp2_with fail
  go_ret
  exact ⟨g, cap2, rs, rfl, hown2, hl, HV.out.keep (.of_below hb2), hb2⟩
theorem own_mono {w : World} {base base2 sz n : Nat} {e : TypeId} {v : Value} {xs : List Value} (h : w.ownsRow base e sz v n xs) (hb : base2 ≤ base) : w.ownsRow base2 e sz v n xs :=
  ⟨h.1, h.2.imp id fun ⟨g, cap, cur, h1, h2, h3⟩ => ⟨g, cap, cur, h1, Nat.le_trans hb h2, h3⟩⟩
section
variable {W W1 : World} {h base base2 sz sz2 n n2 k B : Nat} {t e e2 : TypeId} {cs : Array Value} {v v2 : Value} {xs xs2 : List Value} {rs : List R4} {f : Nat → Rat}
theorem loc_other (hown : W.ownsRow base e sz v n xs) (hg : W.grownBy W1 v.ownBlock) (L : Loc W h t cs) (hne : t ≠ e) : Loc W1 h t cs := by
  refine (hg.block h L.lt (fun eq => ?_)).trans L
  rcases hown.2 with ⟨rfl, _⟩ | ⟨g, cap, cur, rfl, _, hgg, _⟩
  · cases eq
  · injection eq with eq
    simp at eq
    subst eq
    unfold Loc at L
    rw [hgg] at L
    injection L with L
    injection L with e1 e2 e3
    exact hne e2.symm
theorem own_other (hown : W.ownsRow base e sz v n xs) (hg : W.grownBy W1 v.ownBlock) (h2 : W.ownsRow base2 e2 sz2 v2 n2 xs2) (hne : e2 ≠ e) : W1.ownsRow base2 e2 sz2 v2 n2 xs2 := by
  refine h2.kept hg ?_
  rcases h2.2 with ⟨rfl, _⟩ | ⟨g, cap, cur, rfl, _, hgg, _⟩
  · exact .inl rfl
  · right
    intro eq
    rcases hown.2 with ⟨rfl, _⟩ | ⟨g', cap', cur', rfl, _, hgg', _⟩
    · cases eq
    · injection eq with eq
      simp at eq
      subst eq
      rw [hgg] at hgg'
      injection hgg' with L
      injection L with e1 e2 e3
      exact hne e2
theorem val_grow (hown : W.ownsRow B e sz v n xs) (hg : W.grownBy W1 v.ownBlock) (hv : ValL k W (fun b => B ≤ b) rs f) : ValL k W1 (fun b => B ≤ b) rs f :=
  hv.keep ((Keep.refl _ W).grown hg (fun g hgg => .inl (hown.lt g hgg).1))
theorem OwnR.more2 {g cap m : Nat} {r : R4} (h : OwnR W base (.slice (some ⟨g, 0, none⟩) (m + 1) cap) (rs ++ [r])) (hl : rs.length = m) (hv : ValL k W (fun b => base ≤ b) (rs ++ [r]) f) : Nums k W (fun _ => False) (.slice (some ⟨g, 0, none⟩) (m + 1) cap) (m + 1) f :=
  h.more hl (hv.weak (fun b _ hb => by rw [hb]; exact (h.lt rfl).2))
end
def ozero8 : Array Value := #[.int .i64 0, .slice none 0 0, .slice none 0 0, .slice none 0 0, .bool false, .slice none 0 0, .bool false, .slice none 0 0]
theorem ozero8_noW : ∀ u ∈ (#[.int .i64 0, .slice none 0 0, .slice none 0 0, .slice none 0 0, .bool false, .slice none 0 0, .bool false, .slice none 0 0] : Array Value), noW u := ocs 0 none none none 0 0 0 0 0 0 false none 0 0 false none 0 0
end Go.Proofs.YtpeglenapmkdfaaGreat

/- A store into a block of another type. -/
namespace Go.Proofs.YtpeglenapmkdfaaGreat
open Go.RowKit
theorem own_loc {W W1 : World} {h base2 sz2 n2 : Nat} {t e2 : TypeId} {cs : Array Value} {v2 : Value} {xs2 : List Value} (L : Loc W h t cs) (h2 : W.ownsRow base2 e2 sz2 v2 n2 xs2) (hne : t ≠ e2) (hk : Keep (fun b => b = h) W W1) : W1.ownsRow base2 e2 sz2 v2 n2 xs2 := by
  refine ⟨h2.1, ?_⟩
  rcases h2.2 with hn | ⟨g, cap, cur, rfl, hb, hgg, rest⟩
  · exact .inl hn
  · refine .inr ⟨g, cap, cur, rfl, hb, ?_, rest⟩
    rw [hk.block g (Array.getElem?_eq_some_iff.1 hgg).1 (fun eq => ?_)]
    · exact hgg
    · replace eq : g = h := eq
      subst eq
      unfold Loc at L
      rw [hgg] at L
      injection L with L
      injection L with e1 e2 e3
      exact hne e2.symm
theorem val_loc {W W1 : World} {h g k : Nat} {t : TypeId} {cs : Array Value} {rs : List R4} {f : Nat → Rat} (hv : ValL k W (fun b => b = g) rs f) (L : Loc W h t cs) (hc : ∀ u ∈ cs, noW u) (hk : Keep (fun b => b = g ∨ b = h) W W1) : ValL k W1 (fun b => b = g) rs f :=
  fun i r hr => (((hv i r hr).off L hc).keep hk).weak (fun b _ h => .inl h)
theorem ValL.mono {W : World} {k j : Nat} {X : Nat → Prop} {rs : List R4} {f : Nat → Rat} (h : ValL k W X rs f) (hj : k ≤ j) : ValL j W X rs f := fun i r hr => (h i r hr).mono hj
theorem nils_noW : ∀ u ∈ (#[.slice none 0 0, .slice none 0 0] : Array Value), noW u := fun u hu => by
  simp at hu
  subst hu
  exact noW_slice _ _ _
end Go.Proofs.YtpeglenapmkdfaaGreat

