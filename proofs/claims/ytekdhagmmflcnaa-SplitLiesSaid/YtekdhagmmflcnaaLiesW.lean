/- The walk of the law SplitLies: it returns true. -/
import Derived.Test.YtekdhagmmflcnaaFirst
namespace Go.Proofs.Ytekdhagmmflcnaa
open Go.RowKit
/-- One cell of two lists of parts. -/
theorem cell_lt {w : World} {a : Addr} {v : Value} (h : w.cell? a = some v) : a.block < w.heap.size := block_lt_of_cell h
namespace splitLies

set_option maxRecDepth 100000 in
set_option maxHeartbeats 2000000 in
theorem walk (W : World) (w h m n x y : Int) :
    Calls Try.prog 3 #[.agg #[.int .i64 w, .int .i64 h], .agg #[.int .i64 m, .int .i64 n], .agg #[.int .i64 x, .int .i64 y]] W fun e w' => e = .returned (.bool true) ∧ Below W.heap.size W w' := by
  have hcn := cnt_le w h m n
  have b0 := ((heap_alloc_new W (.cells #[.int .i64 w, .int .i64 h] 22)))
  obtain ⟨W0, hW0⟩ : ∃ W0, W0 = ((W.alloc (.cells #[.int .i64 w, .int .i64 h] 22)).alloc (.cells #[.int .i64 m, .int .i64 n] 22)).alloc (.cells #[.int .i64 x, .int .i64 y] 22) := ⟨_, rfl⟩
  have h0 : W0.heap[W.heap.size]? = some (.cells #[.int .i64 w, .int .i64 h] 22) := by
    rw [hW0, heap_alloc_old _ _ _ (by simp; omega), heap_alloc_old _ _ _ (by simp)]; exact b0
  have h1 : W0.heap[W.heap.size + 1]? = some (.cells #[.int .i64 m, .int .i64 n] 22) := by
    have := heap_alloc_new (W.alloc (.cells #[.int .i64 w, .int .i64 h] 22)) (.cells #[.int .i64 m, .int .i64 n] 22)
    rw [World.size_alloc] at this
    rw [hW0, heap_alloc_old _ _ _ (by simp)]; exact this
  have h2 : W0.heap[W.heap.size + 1 + 1]? = some (.cells #[.int .i64 x, .int .i64 y] 22) := by
    have := heap_alloc_new ((W.alloc (.cells #[.int .i64 w, .int .i64 h] 22)).alloc (.cells #[.int .i64 m, .int .i64 n] 22)) (.cells #[.int .i64 x, .int .i64 y] 22)
    rw [World.size_alloc, World.size_alloc] at this
    rw [hW0]; exact this
  have hB : Below W.heap.size W W0 := by rw [hW0]; exact (((Below.refl _ W).alloc (Nat.le_refl _) _).alloc (by simp) _).alloc (by simp; omega) _
  have hsz : W.heap.size + 1 + 1 < W0.heap.size := by rw [hW0]; simp
  go_enter Try.func3, Try.ntmps3
  go_wp2_with fail
  rw [← hW0]
  clear hW0 b0
  refine (first12 _).mono ?_
  rintro e w1 ⟨rfl, hb1⟩
  have k00 := (hb1.cell (p := ⟨W.heap.size, 0, none⟩) (by simp; omega)).trans (cell_of_row _ _ 0 _ _ _ h0)
  have k01 := (hb1.cell (p := ⟨W.heap.size, 1, none⟩) (by simp; omega)).trans (cell_of_row _ _ 1 _ _ _ h0)
  have k10 := (hb1.cell (p := ⟨W.heap.size + 1, 0, none⟩) (by simp; omega)).trans (cell_of_row _ _ 0 _ _ _ h1)
  have k11 := (hb1.cell (p := ⟨W.heap.size + 1, 1, none⟩) (by simp; omega)).trans (cell_of_row _ _ 1 _ _ _ h1)
  have k20 := (hb1.cell (p := ⟨W.heap.size + 1 + 1, 0, none⟩) (by simp; omega)).trans (cell_of_row _ _ 0 _ _ _ h2)
  have k21 := (hb1.cell (p := ⟨W.heap.size + 1 + 1, 1, none⟩) (by simp; omega)).trans (cell_of_row _ _ 1 _ _ _ h2)
  simp only [List.getElem?_toArray, List.getElem?_cons_zero, List.getElem?_cons_succ] at k00 k01 k10 k11 k20 k21
  have hB1 := hB.trans (hb1.mono hB.size)
  clear hb1 hB h0 h1 h2 hsz
  go_wp2
  go_quiet (fail)
  clear k00 k01 k10 k11
  obtain ⟨w2, hw2⟩ : ∃ w2, w2 = w1.drewN nq := ⟨_, rfl⟩
  have hB2 : Below W.heap.size W w2 := by rw [hw2]; exact below_drewN hB1 _
  have j20 : w2.cell? ⟨W.heap.size + 1 + 1, 0, none⟩ = some (.int .i64 x) := by rw [hw2]; exact k20
  have j21 : w2.cell? ⟨W.heap.size + 1 + 1, 1, none⟩ = some (.int .i64 y) := by rw [hw2]; exact k21
  rw [← hw2]
  clear hw2 k20 k21 hB1
  go_wp2_with fail
  refine (list_any _ _ _ _ _).mono ?_
  rintro e w3 ⟨v1, rfl, hown1, hb3⟩
  obtain ⟨A1, cap1, g1, rfl, hA1, hcell1⟩ := own_shape hown1
  clear hown1
  have l20 := (hb3.cell (cell_lt j20)).trans j20
  have l21 := (hb3.cell (cell_lt j21)).trans j21
  have hB3 := below2 hB2 hb3
  clear j20 j21 hB2 hb3
  go_wp2_with fail
  refine (refList_any _ _ _ _ _).mono ?_
  rintro e w4 ⟨v2, rfl, hown2, hb4⟩
  obtain ⟨A2, cap2, g2, rfl, hA2, hcell2⟩ := own_shape hown2
  clear hown2
  have m20 := (hb4.cell (cell_lt l20)).trans l20
  have m21 := (hb4.cell (cell_lt l21)).trans l21
  have hB4 := below2 hB3 hb4
  have hc1 : ∀ k t, k < cntI w h m n → t < 4 → w4.cell? ⟨g1, k * 4 + t, none⟩ = (rectL w h m n k)[t]? := fun k t hk ht => by
    have hp := parts_get w h m n hk ht
    have hq := (hcell1 (k * 4 + t) (by omega)).trans hp
    obtain ⟨u, hu⟩ : ∃ u, (rectL w h m n k)[t]? = some u := ⟨_, List.getElem?_eq_getElem (by simp [rectL]; omega)⟩
    rw [hu] at hq ⊢
    exact (hb4.cell (cell_lt hq)).trans hq
  have hc2 : ∀ k t, k < cntI w h m n → t < 4 → w4.cell? ⟨g2, k * 4 + t, none⟩ = (rectL w h m n k)[t]? := fun k t hk ht => (hcell2 (k * 4 + t) (by omega)).trans (parts_get w h m n hk ht)
  have HC1 := Lib.hid hc1
  have HC2 := Lib.hid hc2
  have HA1 := Lib.hid hA1
  have HA2 := Lib.hid hA2
  clear l20 l21 hB3 hb4 hcell1 hcell2 hc1 hc2 hA1 hA2
  go_wp2_with (first
    | (go_at_call 9; refine (right_any _ _ _ _ _).mono ?_; rintro e w' ⟨rfl, rfl⟩)
    | (go_at_call 10; refine (refRight_any _ _ _ _ _).mono ?_; rintro e w' ⟨rfl, rfl⟩))
  go_loopw [54] (fun i wr => ∃ k : Nat, k ≤ cntI w h m n ∧ i = .int .i64 k ∧ Below w4.heap.size w4 wr) (fun i _ => (cntI w h m n - intOf i).toNat)
  case atStart => exact ⟨0, by omega, rfl, Below.refl _ _⟩
  case round =>
    obtain ⟨k, hk, rfl, hBr⟩ := hrel
    by_cases hlt : k < cntI w h m n
    · obtain rfl : A1 = some ⟨g1, 0, none⟩ := by
        rcases HA1.out with h | h
        · omega
        · exact h
      obtain rfl : A2 = some ⟨g2, 0, none⟩ := by
        rcases HA2.out with h | h
        · omega
        · exact h
      have d0 := HC1.out k 0 hlt (by omega)
      have d1 := HC1.out k 1 hlt (by omega)
      have d2 := HC1.out k 2 hlt (by omega)
      have d3 := HC1.out k 3 hlt (by omega)
      have f0 := HC2.out k 0 hlt (by omega)
      have f1 := HC2.out k 1 hlt (by omega)
      have f2 := HC2.out k 2 hlt (by omega)
      have f3 := HC2.out k 3 hlt (by omega)
      simp only [rectL, List.getElem?_cons_zero, List.getElem?_cons_succ, Nat.add_zero] at d0 d1 d2 d3 f0 f1 f2 f3
      have p0 := (hBr.cell (cell_lt d0)).trans d0
      have p1 := (hBr.cell (cell_lt d1)).trans d1
      have p2 := (hBr.cell (cell_lt d2)).trans d2
      have p3 := (hBr.cell (cell_lt d3)).trans d3
      have q0 := (hBr.cell (cell_lt f0)).trans f0
      have q1 := (hBr.cell (cell_lt f1)).trans f1
      have q2 := (hBr.cell (cell_lt f2)).trans f2
      have q3 := (hBr.cell (cell_lt f3)).trans f3
      clear d0 d1 d2 d3 f0 f1 f2 f3 m20 m21
      have i0 : (0 : Int) ≤ (k : Int) := by omega
      have i1 : (k : Int) < (cntI w h m n : Int) := by omega
      go_wp2
      go_quiet (fail)
      go_wp2
      exact ⟨⟨k + 1, by omega, by go_num, below_drewN hBr _⟩, by simp [intOf]; omega⟩
    · have n20 := (hBr.cell (cell_lt m20)).trans m20
      have n21 := (hBr.cell (cell_lt m21)).trans m21
      have hB5 := below2 hB4 hBr
      clear m20 m21 hB4
      go_wp2
      go_region_held3 (fun w' => w'.cell? ⟨W.heap.size + 1 + 1, 0, none⟩ = some (.int .i64 x) ∧ w'.cell? ⟨W.heap.size + 1 + 1, 1, none⟩ = some (.int .i64 y) ∧ Below W.heap.size W w')
        (first
          | exact ⟨n20, n21, hB5⟩
          | exact ⟨n20, n21, hB5.drew⟩
          | go_keep)
        (first
          | (go_at_call 11; refine (of_any _ _ _ _ _ _ _).mono ?_; rintro e w5 ⟨rfl, hb5⟩; have n20 := (hb5.cell (cell_lt n20)).trans n20; have n21 := (hb5.cell (cell_lt n21)).trans n21; (first | have hB5 := below2 hB5 hb5 | have hB5 := below2 hB5.drew hb5); clear hb5)
          | (go_at_call 12; refine (refOf_any _ _ _ _ _ _ _).mono ?_; rintro e w5 ⟨rfl, hb5⟩; have n20 := (hb5.cell (cell_lt n20)).trans n20; have n21 := (hb5.cell (cell_lt n21)).trans n21; (first | have hB5 := below2 hB5 hb5 | have hB5 := below2 hB5.drew hb5); clear hb5))
      go_wp2
      go_ret
      exact ⟨rfl, hB5⟩
end splitLies
end Go.Proofs.Ytekdhagmmflcnaa
