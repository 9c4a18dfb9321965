/- The contract of Split: its walk. -/
import Derived.Test.YtbekkdlgibijdaaUnK
namespace Go.Proofs.Ytbekkdlgibijdaa
open Go.RowKit Go.Shelf
attribute [local go_sem] Oper.semAt_some

theorem append_KU {W w1 : World} {n₁ B : Nat} {size : Nat} {v v' u : Value} {k : Nat} {xs : List Value} {tmp : Obj} (hrow : W.ownsRow n₁ 66 size v k xs) (hgrow : (W.alloc tmp).grownBy w1 v.ownBlock) (hbx : Boxed W B 73 u) : KU W (w1.setCell ⟨B, 0, none⟩ v') := by
  have hs := hgrow.size
  rw [World.size_alloc] at hs
  refine ⟨fun i cs t fr e ht => ?_, by simp; omega⟩
  have hi := block_lt e
  have hB : i ≠ B := fun e2 => by
    subst e2
    rw [show W.heap[i]? = _ from hbx] at e; cases e; exact ht (by decide)
  rw [heap_setCell_other _ _ _ _ hB, hgrow.block i (by simp; omega) (fun e2 => ?_), Below.heap_alloc _ _ _ hi]
  · exact e
  · obtain ⟨cs2, h2⟩ := own_type hrow i e2.symm
    rw [e] at h2; cases h2; exact ht (by decide)
theorem KU_b {w : World} (W : World) (l : Nat) (o o' : Obj) (_ : w.heap.size ≤ l) (h : W.heap[l]? = some o) (hc : o.isCells = false) (_ : o.isWalk = false) : KU W (W.putObj l o') := by
  have hg := grownBy_putObj' W l o'
  refine ⟨fun k cs t fr e _ => (hg.block k (block_lt e) (fun e2 => ?_)).trans e, hg.size⟩
  cases e2
  rw [h] at e; cases e; cases hc
theorem KU.of {a b : World} (h : Below a.heap.size a b) : KU a b := ⟨kept_below h, h.size⟩
theorem bytes_form {w : World} {lo : Nat} {v : Value} {l : List UInt8} (h : BytesAt w lo v l) : ∃ A m c, v = .slice A m c := by
  obtain ⟨A, c, hv, _⟩ := h
  exact ⟨_, _, _, hv⟩
theorem one_cells {lo : Nat} {x : UX} {W : World} (h : UG lo x W) : ∀ u ∈ cellU x, u.oneCell' = true := by
  obtain ⟨A, m, c, hv⟩ := bytes_form h
  intro u hu
  simp only [cellU, List.mem_cons, List.not_mem_nil, or_false] at hu
  rcases hu with rfl | rfl
  · rfl
  · rw [hv]; rfl
theorem own_mono66 {w : World} {base base' size n : Nat} {v : Value} {xs : List Value} (h : w.ownsRow base 66 size v n xs) (hb : base' ≤ base) : w.ownsRow base' 66 size v n xs := by
  refine ⟨h.1, h.2.imp id ?_⟩
  rintro ⟨g, cap, cur, hv, hg, hr⟩
  exact ⟨g, cap, cur, hv, Nat.le_trans hb hg, hr⟩
/-- What the loop of Split keeps. -/
def SplitI (W : World) (B : Nat) (pre : List UX) (W' : World) : Prop := (((∃ v, Boxed W' B 73 v ∧ W'.ownsRow (B + 4) 66 2 v pre.length (rowU pre) ∧ True) ∧ (∀ x ∈ pre, UG W.heap.size x W')) ∧ Below W.heap.size W W') ∧ B + 4 ≤ W'.heap.size
theorem splitI_own (W : World) (B N : Nat) (hN : W.heap.size ≤ N) : OwnFrom N (SplitI W B) := OwnFrom.and (OwnFrom.and (OwnFrom.and (Own.from (holdsRow_own (B + 4) B 73 66 2 (fun pre => pre.length) (fun pre => rowU pre) (fun _ _ => True)) _) (all_own _ _)) (ownFrom_below (Nat.le_refl _) hN)) (size_own _ _)
theorem splitI_itc (W : World) (B : Nat) (s : List UX) (X Y : World) (h : SplitI W B s X) (hic : Itc [67, 87, 93] W.heap.size X Y) : SplitI W B s Y := by
  obtain ⟨⟨⟨⟨v, hv, hrow, _⟩, hall⟩, hB⟩, h5⟩ := h
  exact ⟨⟨⟨⟨v, hic.same _ _ hv (fun _ _ _ e => by cases e; decide), row_itc hrow hic (by decide), trivial⟩, fun x hx => bytes_itc (hall x hx) hic (by decide)⟩, hB.trans hic.below⟩, Nat.le_trans h5 hic.below.size⟩
set_option maxRecDepth 100000 in
set_option maxHeartbeats 4000000 in
theorem split_any (v0 : Value) (b : List UInt8) (W : World) (h : BytesR W v0 b) (hl : b.length ≤ 4294967295) :
    Calls Try.prog 39 #[v0] W (SplitPost b W) := by
  obtain ⟨i0, hi, hz0, hz1, hz2⟩ := info_parts info66c
  have HH := Lib.hid h
  obtain ⟨A0, c0, hv0, _, _⟩ := h
  obtain ⟨n0, hn0⟩ : ∃ n, n = b.length := ⟨_, rfl⟩
  rw [← hn0] at hv0
  have HN0 := Lib.hid hn0
  subst hv0
  clear hn0
  refine (callsIn_wide (n := 8)).1 ?_
  refine callsIn_of_wp_marks Try.func39 rfl trivial ?_ rfl
  simp only [Try.ntmps39, List.size_toArray, List.length_cons, List.length_nil, Nat.reduceAdd, Nat.reduceSub, Array.replicate_succ, Array.replicate_zero, List.push_toArray, List.append_toArray, List.nil_append, List.cons_append]
  have hwide : ∀ k, Fence.wide.fn k := fun _ => trivial
  have hdep : Fence.wide.depth = none := rfl
  have hrnd : Fence.wide.round = none := rfl
  gi_wp2_with fail
  refine (callsIn_wide.2 (new34_any _ b _ HH.out (by omega))).mono ?_
  rintro e w1 ⟨wb, cb, rfl, hwb, hcb, hK, hB1⟩
  have HK := Lib.hid (And.intro hwb (And.intro hcb (And.intro hK hB1)))
  clear hwb hcb hK hB1
  gi_wp2_with fail
  refine (callsIn_wide.2 (units_any _ _ _)).mono ?_
  rintro e W0 ⟨rfl, hW0⟩
  obtain ⟨B, hBe⟩ : ∃ B, B = w1.heap.size := ⟨_, rfl⟩
  obtain ⟨hwb, hcb, hK, hB1⟩ := HK.out
  have hb2 : Below w1.heap.size w1 (((w1.alloc (.cells #[.slice none 0 0] 73)).alloc (.cells #[.int .i64 0] 67))) := ((Below.refl _ w1).alloc (Nat.le_refl _) _).alloc (by simp) _
  have hb4 : Below w1.heap.size w1 W0 := by rw [hW0]; exact (hb2.alloc (by simp; omega) _).alloc (by simp; omega) _
  have hO : Boxed W0 B 73 (.slice none 0 0) := by
    rw [hW0, hBe]
    exact (((Boxed.new w1 73 (.slice none 0 0)).alloc _).alloc _).alloc _
  have he : W0.heap[B + 1]? = some (.cells #[.int .i64 0] 67 (0, 0)) := by
    have h1 := Boxed.new (w1.alloc (.cells #[.slice none 0 0] 73)) 67 (.int .i64 0)
    rw [World.size_alloc] at h1
    rw [hW0, hBe]
    exact (h1.alloc _).alloc _
  have hx1 : W0.heap[B + 1 + 1]? = some (.cells #[.pointer (some ⟨wb, 0, none⟩)] 63 (0, 0)) := by
    have h1 := Boxed.new ((w1.alloc (.cells #[.slice none 0 0] 73)).alloc (.cells #[.int .i64 0] 67)) 63 (.pointer (some ⟨wb, 0, none⟩))
    rw [World.size_alloc, World.size_alloc] at h1
    rw [hW0, hBe]
    exact h1.alloc _
  have hx2 : W0.heap[B + 1 + 1 + 1]? = some (.cells #[.pointer (some ⟨B + 1, 0, none⟩)] 101 (0, 0)) := by
    have h1 := Boxed.new (((w1.alloc (.cells #[.slice none 0 0] 73)).alloc (.cells #[.int .i64 0] 67)).alloc (.cells #[.pointer (some ⟨wb, 0, none⟩)] 63)) 101 (.pointer (some ⟨w1.heap.size + 1, 0, none⟩))
    rw [World.size_alloc, World.size_alloc, World.size_alloc] at h1
    rw [hW0, hBe]
    exact h1
  have hst : UnSt W0 (B + 1 + 1) (B + 1 + 1 + 1) (B + 1) wb cb W.heap.size 0 0 false b 0 := ⟨hx1, hx2, he, hK.later hb4⟩
  have hB0 : Below W.heap.size W W0 := hB1.trans (hb4.mono hB1.size)
  have hsz : W0.heap.size = B + 4 := by rw [hW0, hBe]; simp
  have hWB : W.heap.size ≤ B := by rw [hBe]; exact hB1.size
  simp only [World.size_alloc]
  rw [← hBe]
  have HST := Lib.hid hst
  have HO := Lib.hid hO
  have HB0 := Lib.hid hB0
  have HWC := Lib.hid (And.intro hwb hcb)
  clear hwb hcb hK hB1 hb2 hb4 he hx1 hx2 hst hO hB0 hW0 hBe HK
  gi_wp2_with fail
  refine range_h rfl (by omega) (gf := 54) (lb := #[.pointer (some ⟨B + 1 + 1, 0, none⟩), .pointer (some ⟨B + 1 + 1 + 1, 0, none⟩)]) rfl trivial (enters_of Try.func54 (by kernel_rfl) rfl)
    (units_gives 7 W.heap.size (B + 1 + 1) (B + 1 + 1 + 1) (B + 1) wb cb W.heap.size 0 b (by omega) HWC.out.1 HWC.out.2 (by omega) W0 HST.out (by omega)) (fun X Y hic k o hk ho => hic.same _ _ hk (fun _ _ _ e => by subst e; cases ho)) KU.trans KU_b (Below.refl _ _) (fun _ => rfl)
    (SplitI W B) (splitI_own W B _ (by omega)) (splitI_itc W B) (fin_own _ _ _ _ _ _)
    ⟨⟨⟨⟨_, HO.out, World.ownsRow_nil _ _ _ _, trivial⟩, by simp⟩, HB0.out⟩, by omega⟩
    (fun x a' W' => UG W.heap.size x W' ∧ ∃ Bx, W'.heap[Bx]? = some (.cells (cellU x).toArray 66 (0, 0)) ∧ a' = { tmps := #[.slice A0 n0 c0, undef, .slice none 0 0, .int .i64 0, .pointer (some ⟨wb, 0, none⟩), .pointer (some ⟨B, 0, none⟩), .pointer (some ⟨B + 1, 0, none⟩), .pointer (some ⟨Bx, 0, none⟩), .slice A0 n0 c0, .pointer (some ⟨wb, 0, none⟩), .pointer (some ⟨wb, 0, none⟩), .func (.func 54) #[] #[.pointer (some ⟨B + 1 + 1, 0, none⟩), .pointer (some ⟨B + 1 + 1 + 1, 0, none⟩)], .agg #[.int .i64 (x.1.1 : Nat), x.2], undef, undef, undef, undef, undef, undef, undef, undef, undef, undef, undef, undef, undef, undef], defers := [] })
    (fun x a' s X Y row hs hg hr => by obtain ⟨e0, Bx, e1, e2⟩ := hs; exact ⟨bytes_own e0 hg (fun r e => (hr r e).2), Bx, blk_own Bx 66 (fun (_ : Unit) => (cellU x).toArray) () X Y row e1 hg (fun r e => (hr r e).2), e2⟩)
    ?assign ?body ?done
  case assign =>
    rintro l pre x W1 K ⟨⟨⟨⟨v, hv, hrow, _⟩, hall⟩, hB⟩, h5⟩ hG hK
    obtain ⟨⟨cd, dl⟩, rv⟩ := x
    obtain ⟨A, m, c, hrv⟩ := bytes_form hG
    simp only at hrv
    subst hrv
    simp only [encU]
    have hs1 := hB.size
    have hb2 := (Below.refl W1.heap.size W1).alloc (Nat.le_refl _) (.cells #[.int .i64 (cd : Nat), .slice A m c] 66)
    have HB2 := Lib.hid hb2
    have HALL := Lib.hid hall
    have HG := Lib.hid hG
    clear hb2 hall hG
    gi_wp2
    exact hK _ _ ((KeepsOthers.alloc _ _).from _) (KU.of HB2.out) ⟨⟨⟨⟨v, hv.alloc _, hrow.alloc _, trivial⟩, fun x hx => BytesAt.later (HALL.out x hx) HB2.out⟩, hB.alloc hs1 _⟩, by simp; omega⟩ ⟨BytesAt.later HG.out HB2.out, W1.heap.size, heap_alloc_new _ _, rfl⟩
  case body =>
    rintro l pre x a' W1 hl ⟨r, hr⟩ ⟨⟨⟨⟨v, hv, hrow, _⟩, hall⟩, hB⟩, h5⟩ ⟨hG, Bx, hBx, rfl⟩ hlt
    obtain ⟨⟨cd, dl⟩, rv⟩ := x
    obtain ⟨A, m, c, hrv⟩ := bytes_form hG
    simp only at hrv
    subst hrv
    have hc := hv.cell
    have hs1 := hB.size
    have hrl : (cellU ((cd, dl), .slice A m c)).toArray = #[.int .i64 (cd : Nat), .slice A m c] := rfl
    rw [hrl] at hBx
    clear hrl
    have r0 := cell_of_row _ _ 0 _ _ _ hBx
    have r1 := cell_of_row _ _ 1 _ _ _ hBx
    simp only [List.getElem?_toArray, List.getElem?_cons_zero, List.getElem?_cons_succ] at r0 r1
    have HALL := Lib.hid hall
    have HG := Lib.hid hG
    clear hBx hr hall hG
    have h1c : ∀ u ∈ cellU ((cd, dl), .slice A m c), u.oneCell' = true := one_cells HG.out
    have H1C := Lib.hid h1c
    clear h1c
    gi_wp2_with (gi_at_builtin; refine wpListIn_append_own _ rfl _ _ 73 rfl (B + 4) 66 i0 (.agg #[.int .i64 0, .slice none 0 0]) 2 32 Try.underlying73 hi hz0 hz1 hz2 rfl (by decide) v pre.length (rowU pre) rfl (hrow.alloc _) ⟨W1.heap.size, 0, none⟩ 1 1 (cellU ((cd, dl), .slice A m c)) rfl rfl (cells_new _ (cellU ((cd, dl), .slice A m c)).toArray _) H1C.out (by unfold maxLen; omega) (by omega) (by simp; omega) ?_; intro v' w1 hown' hgrow _; obtain ⟨g', cap', rfl⟩ := ownsRow_succ hown'; obtain ⟨hv1, hv2, hr2, hk2, hb2⟩ := hv.appended (n₀ := W.heap.size) (by decide) (own_mono66 hrow (by omega)) hs1 hWB (own_mono66 hown' (by omega)) hgrow; have hc1 := hv1.cell; have hf1 := hv1.frozen)
    have hku := append_KU hrow hgrow hv (v' := .slice (some ⟨g', 0, none⟩) (pre.length + 1) cap')
    refine ⟨hk2.from _, hku, ⟨⟨⟨⟨_, hv2, ?_, trivial⟩, ?_⟩, hB.trans hb2⟩, by have := hb2.size; omega⟩⟩
    · rw [rowU_snoc, List.length_append]
      exact hown'.kept (grownBy_setCell' w1 B _) (.inr (hv1.not_row (by decide) hown').symm)
    · intro y hy
      rcases List.mem_append.1 hy with hy | hy
      · exact BytesAt.kept (HALL.out y hy) hku.1 (by decide)
      · rw [List.mem_singleton] at hy
        subst hy
        exact BytesAt.kept HG.out hku.1 (by decide)
  case done =>
    rintro D ys W1 hD ⟨m, size, ended, hcnt, hys, hee, hwk⟩ ⟨⟨⟨⟨v, hv, hrow, _⟩, hall⟩, hB⟩, h5⟩ hK
    have hc := hv.cell
    obtain ⟨E, hE⟩ : ∃ E, E = errU b m := ⟨_, rfl⟩
    rw [← hE] at hee
    have he0 : W1.cell? ⟨B + 1, 0, none⟩ = some (.int .i64 E) := cell_of_row _ _ 0 _ _ _ hee
    have hL := fun V (hV : Below W1.heap.size W1 V) => left36_any (hwk.later hV) (by omega)
    have hend := hwk.bound
    obtain ⟨L, hLe⟩ : ∃ L, L = b.length - endU b m := ⟨_, rfl⟩
    rw [← hLe] at hL
    have HL := Lib.hid hL
    have HF := Lib.hid (And.intro hcnt (And.intro hys (And.intro hall (And.intro hrow hB))))
    have hsp : ∀ R, R = splitE b m → R = (if E = 0 ∧ 0 < L then 272 else E) := fun R hR => by
      rw [hR]; unfold splitE; rw [← hE]
      have : (endU b m < b.length) ↔ (0 < L) := by omega
      simp only [this]
    have HSP := Lib.hid hsp
    clear hE hL hLe hcnt hys hall hrow hee hwk hend hsp hB
    have fin : ∀ (V : World) (R : Int), Below W1.heap.size W1 V → R = (if E = 0 ∧ 0 < L then 272 else E) → SplitPost b W (.returned (.tuple #[v, .int .i64 R])) (V.putObj D (.deferred none)) := fun V R hV hR => by
      obtain ⟨h1, h2, h3, h4, h5⟩ := HF.out
      have hKV := block_later hK hV
      refine ⟨v, ys, m, by rw [hR, ← HSP.out _ rfl], h1, h2, own_mono66 (ownsRow_putObj (h4.kept (below_grown hV) (by cases v.ownBlock <;> simp)) _ hKV rfl) (by omega), fun x hx => ?_, (h5.trans (hV.mono h5.size)).trans (belowK_b (w := W0) (n₀ := W.heap.size) (by omega) V D _ _ hD hKV rfl rfl)⟩
      exact bytes_own ((h3 x hx).later hV) (grownBy_putObj' V D _) (fun r e => by cases e; exact ⟨_, hKV, rfl⟩)
    have FIN := Lib.hid fin
    clear fin
    by_cases h0 : E = 0
    · subst h0
      by_cases hl0 : 0 < L
      · have hl1 : (0 : Int) < (L : Int) := by omega
        gi_wp2_with fail
        refine (callsIn_wide.2 (HL.out _ (Below.refl _ _))).mono ?_
        rintro e W2 ⟨rfl, hb2⟩
        have hc2 := cell_later hc hb2
        have hK2 := block_later hK hb2
        have HB2 := Lib.hid hb2
        clear hc he0 hK hb2
        gi_wp2
        refine ⟨by simp, .inl ⟨_, _, rfl, run_takeDeferred hK2, ?_⟩⟩
        refine ⟨_, results_tmp2 rfl _ _ _, ?_⟩
        exact FIN.out W2 272 HB2.out (by simp [hl0])
      · have hl1 : ¬ (0 : Int) < (L : Int) := by omega
        gi_wp2_with fail
        refine (callsIn_wide.2 (HL.out _ (Below.refl _ _))).mono ?_
        rintro e W2 ⟨rfl, hb2⟩
        have hc2 := cell_later hc hb2
        have he2 := cell_later he0 hb2
        have hK2 := block_later hK hb2
        have HB2 := Lib.hid hb2
        clear hc he0 hK hb2
        gi_wp2_with fail
        refine wpIn_wide.2 ?_
        go_quiet (fail)
        gi_wp2
        refine ⟨by simp, .inl ⟨_, _, rfl, run_takeDeferred hK2, ?_⟩⟩
        refine ⟨_, results_tmp2 rfl _ _ _, ?_⟩
        exact FIN.out _ 0 (HB2.out.trans (below_drawn _ _ _)) (by simp [hl0])
    · have h0b : (E == 0) = false := by simp [h0]
      gi_wp2_with fail
      refine wpIn_wide.2 ?_
      go_quiet (fail)
      gi_wp2
      refine ⟨by simp, .inl ⟨_, _, rfl, run_takeDeferred hK, ?_⟩⟩
      refine ⟨_, results_tmp2 rfl _ _ _, ?_⟩
      exact FIN.out _ E (below_drawn _ _ _) (by simp [h0])
end Go.Proofs.Ytbekkdlgibijdaa
