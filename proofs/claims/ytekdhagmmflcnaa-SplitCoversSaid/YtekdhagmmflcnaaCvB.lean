/- The law SplitCovers: one part's places. -/
import Derived.Test.YtekdhagmmflcnaaCvA
import Derived.Test.YtekdhagmmflcnaaCvP
import Derived.Test.YtekdhagmmflcnaaStE
namespace Go.Proofs.Ytekdhagmmflcnaa.splitCovers
open Go.RowKit Go.Shelf

theorem cell_later {V V' : World} {a : Addr} {u : Option Value} (hu : ∃ x, u = some x) (h : V.cell? a = u) (hb : Below V.heap.size V V') : V'.cell? a = u := by
  obtain ⟨x, rfl⟩ := hu
  exact (hb.cell (block_lt_of_cell h)).trans h
theorem rect_in (w h m n : Int) (k : Nat) {t : Nat} (ht : t < 4) : ∃ u, (rectL w h m n k)[t]? = some u := ⟨_, List.getElem?_eq_getElem (by simp [rectL]; omega)⟩
theorem block_later {V V' : World} {B : Nat} {o : Obj} (h : V.heap[B]? = some o) (hb : Below V.heap.size V V') : V'.heap[B]? = some o := (hb.block _ (Array.getElem?_eq_some_iff.1 h).1).trans h

/-- What is known behind k parts and p places more: the four numbers, the places, the least and the greatest side, the list. -/
structure Cov (w : World) (a b m n : Int) (ba bb bm bn S gl : Nat) (k : Nat) (p : Int) (V : World) : Prop where
  lt : S + 3 ≤ V.heap.size
  xa : Boxed V ba 3 (.int .i64 a)
  xb : Boxed V bb 3 (.int .i64 b)
  xm : Boxed V bm 3 (.int .i64 m)
  xn : Boxed V bn 3 (.int .i64 n)
  sb : Boxed V (S + 1) 41 (.slice (some ⟨S, 0, none⟩) (a * b).toNat (a * b).toNat)
  row : ∃ zs : List Int, State a b m n k p zs ∧ V.heap[S]? = some (.cells (zs.map (Value.int .i64)).toArray 3 (0, 0))
  wide : ∃ lo hi : Int, V.heap[S + 2]? = some (.cells #[.int .i64 lo, .int .i64 hi] 22 (0, 0)) ∧ a / m ≤ lo ∧ lo ≤ a ∧ 0 ≤ hi ∧ hi ≤ a / m + 1
  list : ∀ k t, k < cntI a b m n → t < 4 → V.cell? ⟨gl, k * 4 + t, none⟩ = (rectL a b m n k)[t]?
  bel : Below w.heap.size w V
theorem Cov.below {w : World} {a b m n : Int} {ba bb bm bn S gl k : Nat} {p : Int} {V V' : World} (h : Cov w a b m n ba bb bm bn S gl k p V) (hb : Below V.heap.size V V') : Cov w a b m n ba bb bm bn S gl k p V' := by
  obtain ⟨zs, hz, hzr⟩ := h.row
  obtain ⟨lo, hi, hw, hw2⟩ := h.wide
  exact ⟨by have := hb.size; have := h.lt; omega, boxed_after h.xa hb, boxed_after h.xb hb, boxed_after h.xm hb, boxed_after h.xn hb, boxed_after h.sb hb, ⟨zs, hz, block_later hzr hb⟩, ⟨lo, hi, block_later hw hb, hw2⟩, fun k t hk ht => cell_later (rect_in _ _ _ _ k ht) (h.list k t hk ht) hb, below2 h.bel hb⟩
theorem list_set {V : World} {gl : Nat} {a b m n : Int} (h : ∀ k t, k < cntI a b m n → t < 4 → V.cell? ⟨gl, k * 4 + t, none⟩ = (rectL a b m n k)[t]?) (B o : Nat) (hne : gl ≠ B) (v : Value) :
    ∀ k t, k < cntI a b m n → t < 4 → (V.setCell ⟨B, o, none⟩ v).cell? ⟨gl, k * 4 + t, none⟩ = (rectL a b m n k)[t]? := fun k t hk ht =>
  (World.cell?_of_block (w := V) (Below.heap_setCell V ⟨B, o, none⟩ v gl hne) (a := ⟨gl, k * 4 + t, none⟩)).trans (h k t hk ht)
theorem wrap64_id {x : Int} (h0 : 0 ≤ x) (h1 : x ≤ 100000) : wrap64 x = x := by unfold wrap64; omega
theorem set_map (zs : List Int) (q : Nat) (v : Int) : ((zs.map (Value.int .i64)).toArray.setIfInBounds q (.int .i64 v)) = ((zs.set q v).map (Value.int .i64)).toArray := by
  apply Array.ext'
  simp [List.map_set]

theorem cov_start (w wc w5 : World) {a b m n : Int} {b7 b8 b9 b10 gl N : Nat} (hr : rightI a b m n = true) (hN : a * b = (N : Int)) (h7 : Boxed wc b7 3 (.int .i64 a)) (h8 : Boxed wc b8 3 (.int .i64 b)) (h9 : Boxed wc b9 3 (.int .i64 m)) (h10 : Boxed wc b10 3 (.int .i64 n)) (hB : Below w.heap.size w wc)
    (hb5 : Below (((wc.alloc (.cells (madeCells #[.int .i64 0] N) 3)).alloc (.cells #[.slice (some ⟨wc.heap.size, 0, none⟩) N N] 41)).alloc (.cells #[.int .i64 a, .int .i64 0] 22)).heap.size (((wc.alloc (.cells (madeCells #[.int .i64 0] N) 3)).alloc (.cells #[.slice (some ⟨wc.heap.size, 0, none⟩) N N] 41)).alloc (.cells #[.int .i64 a, .int .i64 0] 22)) w5)
    (hc : ∀ j, j < cntI a b m n * 4 → w5.cell? ⟨gl, j, none⟩ = (partsL a b m n (List.range (cntI a b m n)))[j]?) : Cov w a b m n b7 b8 b9 b10 wc.heap.size gl 0 0 w5 := by
  obtain ⟨a0, a1, b0, b1, m0, m1, n0, n1⟩ := rightI_yes hr
  have e1 : (wc.alloc (.cells (madeCells #[.int .i64 0] N) 3)).heap.size = wc.heap.size + 1 := by simp
  have e2 : ((wc.alloc (.cells (madeCells #[.int .i64 0] N) 3)).alloc (.cells #[.slice (some ⟨wc.heap.size, 0, none⟩) N N] 41)).heap.size = wc.heap.size + 2 := by simp
  have e3 : (((wc.alloc (.cells (madeCells #[.int .i64 0] N) 3)).alloc (.cells #[.slice (some ⟨wc.heap.size, 0, none⟩) N N] 41)).alloc (.cells #[.int .i64 a, .int .i64 0] 22)).heap.size = wc.heap.size + 3 := by simp
  have hb3 : Below wc.heap.size wc (((wc.alloc (.cells (madeCells #[.int .i64 0] N) 3)).alloc (.cells #[.slice (some ⟨wc.heap.size, 0, none⟩) N N] 41)).alloc (.cells #[.int .i64 a, .int .i64 0] 22)) := (((Below.refl _ wc).alloc (Nat.le_refl _) _).alloc (by omega) _).alloc (by omega) _
  have hb4 := below2 hb3 hb5
  have a1' := heap_alloc_new wc (.cells (madeCells #[.int .i64 0] N) 3)
  have a2' := heap_alloc_new (wc.alloc (.cells (madeCells #[.int .i64 0] N) 3)) (.cells #[.slice (some ⟨wc.heap.size, 0, none⟩) N N] 41)
  have a3' := heap_alloc_new ((wc.alloc (.cells (madeCells #[.int .i64 0] N) 3)).alloc (.cells #[.slice (some ⟨wc.heap.size, 0, none⟩) N N] 41)) (.cells #[.int .i64 a, .int .i64 0] 22)
  have hNN : (a * b).toNat = N := by omega
  have d0 := Int.ediv_nonneg (show 0 ≤ a by omega) (show 0 ≤ m by omega)
  have d1 := Int.ediv_le_self m (show 0 ≤ a by omega)
  rw [e1] at a2'
  rw [e2] at a3'
  refine ⟨by have := hb5.size; omega, boxed_after h7 hb4, boxed_after h8 hb4, boxed_after h9 hb4, boxed_after h10 hb4, ?_, ⟨_, start hr, ?_⟩, ⟨a, 0, ?_, by omega, by omega, by omega, by omega⟩, fun k t hk ht => (hc (k * 4 + t) (by omega)).trans (parts_get a b m n hk ht), hB.trans (hb4.mono hB.size)⟩
  · rw [hNN]
    exact (hb5.block _ (by omega)).trans ((Below.heap_alloc _ _ _ (by omega)).trans a2')
  · rw [hNN]
    refine (hb5.block _ (by omega)).trans ((Below.heap_alloc _ _ _ (by omega)).trans ((Below.heap_alloc _ _ _ (by omega)).trans (a1'.trans ?_)))
    congr 2
    apply Array.ext'
    rw [toList_madeCells_one]
    simp
  · exact (hb5.block _ (by omega)).trans a3'

theorem cov_call (w V : World) (a b m n : Int) (ba bb bm bn S gl bi k : Nat) (hr : rightI a b m n = true) (ha : a ≤ 60) (hb : b ≤ 60) (hk : k < (m * n).toNat) (hM : Cov w a b m n ba bb bm bn S gl k 0 V)
    (hi : Boxed V bi 3 (.int .i64 (k : Nat))) (hbi : S + 3 ≤ bi) (hord : ba < S ∧ bb < S ∧ bm < S ∧ bn < S ∧ S + 3 ≤ gl) (hw : w.heap.size ≤ S) :
    Calls Try.prog 21 #[.func (.func 17) #[] #[.pointer (some ⟨S + 1, 0, none⟩), .pointer (some ⟨ba, 0, none⟩), .pointer (some ⟨bb, 0, none⟩), .pointer (some ⟨bm, 0, none⟩), .pointer (some ⟨bn, 0, none⟩), .pointer (some ⟨bi, 0, none⟩)], .pointer (some ⟨V.heap.size, 0, none⟩)]
      (V.alloc (.cells #[.int .i64 (fromI a m (colI m k)), .int .i64 (fromI b n (rowI m n k)), .int .i64 (wideI a m k), .int .i64 (highI b m n k)] 28)) fun e w' =>
      e = .returned (.tuple #[]) ∧ Cov w a b m n ba bb bm bn S gl (k + 1) 0 w' := by
  obtain ⟨o1, o2, o3, o4, o5⟩ := hord
  obtain ⟨a0, a1, b0, b1, m0, m1, n0, n1⟩ := rightI_yes hr
  have hlV := hi.lt
  refine (points1_any (fromI a m (colI m k)) (fromI b n (rowI m n k)) (wideI a m k) (highI b m n k) V.heap.size 17 _ _
    (fun p V1 => Cov w a b m n ba bb bm bn S gl k (p : Nat) V1 ∧ Boxed V1 bi 3 (.int .i64 (k : Nat)) ∧ Rct V1 V.heap.size (fromI a m (colI m k)) (fromI b n (rowI m n k)) (wideI a m k) (highI b m n k))
    (fun _ => False) (fun _ _ => by kernel_rfl) (fun p V1 h => h.2.2) ?_ ⟨?_, ?_, ?_⟩).mono ?_
  · rintro hsW hsH i j V1 ⟨hC, hi1, hR⟩ hiw hjh
    obtain ⟨zs, hz, hzr⟩ := hC.row
    have e1 : ((j * (wideI a m k).toNat + i : Nat) : Int) = (j : Int) * wideI a m k + i := idx_at (by obtain ⟨_, _⟩ := sideI_yes hsW; omega)
    rw [e1] at hz
    obtain ⟨⟨x0, x1, y0, y1⟩, hof, hq, hz2⟩ := step hr hk (by omega : (0 : Int) ≤ i) hiw (by omega : (0 : Int) ≤ j) hjh hz
    obtain ⟨l0, l1⟩ := at_lt x0 x1 y0 y1
    have hab := Int.mul_le_mul ha hb (by omega) (by omega : (0 : Int) ≤ 60)
    rw [wrap64_id (by omega) (by omega), wrap64_id (by omega) (by omega)]
    generalize hx : fromI a m (colI m k) + (i : Int) = x at *
    generalize hy : fromI b n (rowI m n k) + (j : Int) = y at *
    have hc : V1.cell? ⟨S, (y * a + x).toNat, none⟩ = some (.int .i64 0) := by
      rw [cell_of_row _ _ _ _ _ _ hzr]
      simp [hq]
    have hf : V1.frozen? ⟨S, (y * a + x).toNat, none⟩ = false := frozen_of_row _ _ _ _ _ hzr
    have hlen : y * a + x < ((a * b).toNat : Nat) := by omega
    refine (cov1_any x y a b m n k (S + 1) ba bb bm bn bi S _ _ V1 _ rfl hC.sb hC.xa hC.xb hC.xm hC.xn hi1 hc hf x0 (by omega) l0 (by omega) hlen hof ⟨by omega, by omega, by omega, by omega, by omega, by omega⟩).mono ?_
    rintro e V2 ⟨rfl, hb2⟩
    refine .inl ⟨rfl, ?_, boxed_after (boxed_else hi1 (by omega) _ _) hb2, block_later (splitStops.rct_other hR (by omega) _ _) hb2⟩
    have hz3 := heap_setCell_same V1 S (y * a + x).toNat _ _ (.int .i64 1) hzr
    rw [set_map] at hz3
    have hC2 : Cov w a b m n ba bb bm bn S gl k ((j * (wideI a m k).toNat + i + 1 : Nat) : Int) (V1.setCell ⟨S, (y * a + x).toNat, none⟩ (.int .i64 1)) := by
      obtain ⟨lo, hi', hw1, hw2⟩ := hC.wide
      refine ⟨by simpa using hC.lt, boxed_else hC.xa (by omega) _ _, boxed_else hC.xb (by omega) _ _, boxed_else hC.xm (by omega) _ _, boxed_else hC.xn (by omega) _ _, boxed_else hC.sb (by omega) _ _, ⟨_, ?_, hz3⟩, ⟨lo, hi', (Below.heap_setCell V1 ⟨S, (y * a + x).toNat, none⟩ (.int .i64 1) _ (by show S + 2 ≠ S; omega)).trans hw1, hw2⟩, list_set hC.list _ _ (by omega) _, hC.bel.setCell (p := ⟨S, (y * a + x).toNat, none⟩) (by show w.heap.size ≤ S; omega) _⟩
      rw [Int.natCast_add, e1]
      exact hz2
    exact hC2.below hb2
  · exact hM.below ((Below.refl _ V).alloc (Nat.le_refl _) _)
  · exact boxed_after hi ((Below.refl _ V).alloc (Nat.le_refl _) _)
  · exact heap_alloc_new V _
  · rintro e V2 ⟨rfl, h⟩
    refine ⟨rfl, ?_⟩
    have nx : ∀ p : Int, (wideI a m k * highI b m n k ≤ p ∨ wideI a m k ≤ 0 ∨ highI b m n k ≤ 0) → Cov w a b m n ba bb bm bn S gl k p V2 → Cov w a b m n ba bb bm bn S gl (k + 1) 0 V2 := fun p hp hC => by
      obtain ⟨zs, hz, hzr⟩ := hC.row
      exact ⟨hC.lt, hC.xa, hC.xb, hC.xm, hC.xn, hC.sb, ⟨zs, next hr hp hz, hzr⟩, hC.wide, hC.list, hC.bel⟩
    rcases h with ⟨hs, hC, _⟩ | ⟨hs, hC, _⟩ | h
    · simp only [Bool.and_eq_true] at hs
      obtain ⟨w0, w1⟩ := sideI_yes hs.1
      obtain ⟨g0, g1⟩ := sideI_yes hs.2
      refine nx _ (.inl ?_) hC
      rw [Int.natCast_mul, Int.toNat_of_nonneg (by omega), Int.toNat_of_nonneg (by omega)]
      exact Int.le_refl _
    · refine nx _ (.inr ?_) hC
      have wa := (from_wide (s := a) (p := m) (i := colI m k) m0).2
      have wb := (from_wide (s := b) (p := n) (i := rowI m n k) n0).2
      have da := Int.ediv_le_self m (show 0 ≤ a by omega)
      have db := Int.ediv_le_self n (show 0 ≤ b by omega)
      rw [Bool.and_eq_false_iff] at hs
      rcases hs with hs | hs
      · have := sideI_no hs
        unfold wideI at *
        omega
      · have := sideI_no hs
        unfold highI at *
        omega
    · exact h.elim
theorem cov_call2 (w V : World) (a b m n X Y Wd Hd : Int) (ba bb bm bn S gl bi k rb : Nat) (hX : X = fromI a m (colI m k)) (hY : Y = fromI b n (rowI m n k)) (hW : Wd = fromI a m (colI m k + 1) - fromI a m (colI m k)) (hH : Hd = fromI b n (rowI m n k + 1) - fromI b n (rowI m n k))
    (hr : rightI a b m n = true) (ha : a ≤ 60) (hb : b ≤ 60) (hk : k < cntI a b m n) (hM : Cov w a b m n ba bb bm bn S gl k 0 V)
    (hi : Boxed V bi 3 (.int .i64 (k : Nat))) (hbi : S + 3 ≤ bi) (hord : ba < S ∧ bb < S ∧ bm < S ∧ bn < S) (hgl : cntI a b m n = 0 ∨ S + 3 ≤ gl) (hw : w.heap.size ≤ S) (hrb : V.heap.size = rb) :
    Calls Try.prog 21 #[.func (.func 17) #[] #[.pointer (some ⟨S + 1, 0, none⟩), .pointer (some ⟨ba, 0, none⟩), .pointer (some ⟨bb, 0, none⟩), .pointer (some ⟨bm, 0, none⟩), .pointer (some ⟨bn, 0, none⟩), .pointer (some ⟨bi, 0, none⟩)], .pointer (some ⟨rb, 0, none⟩)]
      (V.alloc (.cells #[.int .i64 X, .int .i64 Y, .int .i64 Wd, .int .i64 Hd] 28)) fun e w' =>
      e = .returned (.tuple #[]) ∧ Cov w a b m n ba bb bm bn S gl (k + 1) 0 w' := by
  subst hX hY hW hH hrb
  refine cov_call w V a b m n ba bb bm bn S gl bi k hr ha hb ?_ hM hi hbi ⟨hord.1, hord.2.1, hord.2.2.1, hord.2.2.2, by omega⟩ hw
  unfold cntI at hk
  rw [if_pos hr] at hk
  exact hk
theorem Cov.wider {w : World} {a b m n : Int} {ba bb bm bn S gl k : Nat} {p : Int} {V : World} (h : Cov w a b m n ba bb bm bn S gl k p V) (o1 o2 : Obj) (lo hi : Int) (h1 : a / m ≤ lo) (h2 : lo ≤ a) (h3 : 0 ≤ hi) (h4 : hi ≤ a / m + 1)
    (hord : ba < S ∧ bb < S ∧ bm < S ∧ bn < S) (hgl : cntI a b m n = 0 ∨ S + 3 ≤ gl) (hw : w.heap.size ≤ S) :
    Cov w a b m n ba bb bm bn S gl k p ((((V.alloc o1).alloc o2).setCell ⟨S + 1 + 1, 0, none⟩ (.int .i64 lo)).setCell ⟨S + 1 + 1, 1, none⟩ (.int .i64 hi)) := by
  obtain ⟨x1, x2, x3, x4⟩ := hord
  have hb := h.below (((Below.refl _ V).alloc (Nat.le_refl _) o1).alloc (by simp) o2)
  generalize (V.alloc o1).alloc o2 = V2 at hb ⊢
  obtain ⟨lo', hi', hwd, _⟩ := hb.wide
  obtain ⟨zs, hz, hzr⟩ := hb.row
  have e1 := heap_setCell_same _ _ 1 _ _ (.int .i64 hi) (heap_setCell_same V2 (S + 2) 0 _ _ (.int .i64 lo) hwd)
  have bx : ∀ {B : Nat} {t : TypeId} {v : Value}, Boxed V2 B t v → B ≠ S + 1 + 1 → Boxed ((V2.setCell ⟨S + 1 + 1, 0, none⟩ (.int .i64 lo)).setCell ⟨S + 1 + 1, 1, none⟩ (.int .i64 hi)) B t v := fun h hne => boxed_else (boxed_else h hne _ _) hne _ _
  refine ⟨by simpa using hb.lt, bx hb.xa (by omega), bx hb.xb (by omega), bx hb.xm (by omega), bx hb.xn (by omega), bx hb.sb (by omega), ⟨zs, hz, ?_⟩, ⟨lo, hi, e1, h1, h2, h3, h4⟩, ?_, (hb.bel.setCell (p := ⟨S + 1 + 1, 0, none⟩) (by show w.heap.size ≤ S + 1 + 1; omega) _).setCell (p := ⟨S + 1 + 1, 1, none⟩) (by show w.heap.size ≤ S + 1 + 1; omega) _⟩
  · exact (Below.heap_setCell _ ⟨S + 1 + 1, 1, none⟩ _ _ (by show S ≠ S + 1 + 1; omega)).trans ((Below.heap_setCell _ ⟨S + 1 + 1, 0, none⟩ _ _ (by show S ≠ S + 1 + 1; omega)).trans hzr)
  · intro k' t hk' ht
    rcases hgl with hgl | hgl
    · omega
    · exact list_set (list_set hb.list _ _ (by omega) _) _ _ (by omega) _ k' t hk' ht
theorem cov_done {w : World} {a b m n : Int} {ba bb bm bn S gl : Nat} {V : World} {N : Nat} (hr : rightI a b m n = true) (hN : a * b = (N : Int)) (h : Cov w a b m n ba bb bm bn S gl (cntI a b m n) 0 V) :
    ∀ q, q < N → V.cell? ⟨S, q, none⟩ = some (.int .i64 1) := by
  intro q hq
  obtain ⟨zs, hz, hzr⟩ := h.row
  unfold cntI at hz
  rw [if_pos hr] at hz
  rw [cell_of_row _ _ _ _ _ _ hzr]
  have := full hr hz q (by omega)
  simp [this]
theorem box_wider (V : World) (k : Int) (o2 : Obj) (S : Nat) (hS : S + 3 ≤ V.heap.size) (x y : Value) : Boxed ((((V.alloc (.cells #[.int .i64 k] 3)).alloc o2).setCell ⟨S + 1 + 1, 0, none⟩ x).setCell ⟨S + 1 + 1, 1, none⟩ y) V.heap.size 3 (.int .i64 k) :=
  boxed_else (boxed_else ((Boxed.new V 3 (.int .i64 k)).alloc o2) (by omega) _ _) (by omega) _ _
end Go.Proofs.Ytekdhagmmflcnaa.splitCovers
