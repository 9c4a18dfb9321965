/- The contract of the document's Of. -/
import Derived.Test.YtekdhagmmflcnaaOfb
namespace Go.Proofs.Ytekdhagmmflcnaa
open Go.RowKit Go.Shelf

theorem own_shape {w : World} {base size n : Nat} {e : TypeId} {v : Value} {xs : List Value} (h : w.ownsRow base e size v n xs) :
    ∃ A cap g, v = .slice A n cap ∧ (n = 0 ∨ A = some ⟨g, 0, none⟩) ∧ ∀ j, j < n * size → w.cell? ⟨g, j, none⟩ = xs[j]? := by
  obtain ⟨hl, ⟨rfl, h0⟩ | ⟨g, cap, cur, hv, _, hh, _, _, _, ht⟩⟩ := h
  · subst h0; exact ⟨none, 0, 0, rfl, .inl rfl, fun j hj => by omega⟩
  · refine ⟨_, cap, g, hv, .inr rfl, fun j hj => ?_⟩
    rw [cell_of_row _ _ _ _ _ _ hh, ← ht, List.getElem?_take_of_lt hj]; simp
theorem parts_len (w h m n : Int) (N : Nat) : (partsL w h m n (List.range N)).length = N * 4 := by
  induction N with
  | zero => rfl
  | succ N ih => rw [List.range_succ, partsL_snoc, List.length_append, ih]; simp [rectL]; omega
theorem parts_get (w h m n : Int) {N k t : Nat} (hk : k < N) (ht : t < 4) : (partsL w h m n (List.range N))[k * 4 + t]? = (rectL w h m n k)[t]? := by
  induction N with
  | zero => omega
  | succ N ih =>
    rw [List.range_succ, partsL_snoc]
    by_cases h1 : k < N
    · rw [List.getElem?_append_left (by rw [parts_len]; omega)]; exact ih h1
    · obtain rfl : k = N := by omega
      rw [List.getElem?_append_right (by rw [parts_len]; omega), parts_len]
      congr 1; omega

set_option maxRecDepth 100000 in
set_option maxHeartbeats 2000000 in
theorem refOf_any (w h m n x y : Int) (W : World) :
    Calls Try.prog 12 #[.int .i64 w, .int .i64 h, .int .i64 m, .int .i64 n, .int .i64 x, .int .i64 y] W fun e w' => e = .returned (.int .i64 (ofI w h m n x y)) ∧ Below W.heap.size W w' := by
  have hcn := cnt_le w h m n
  go_enter Try.func12, Try.ntmps12
  go_wp2_with (go_at_call 8; refine (refList_any _ _ _ _ _).mono ?_; rintro e w1 ⟨v, rfl, hown, hB⟩; obtain ⟨A, cap, g, rfl, hA, hcell⟩ := own_shape hown)
  have hcells : ∀ k t, k < cntI w h m n → t < 4 → w1.cell? ⟨g, k * 4 + t, none⟩ = (rectL w h m n k)[t]? := fun k t hk ht => (hcell (k * 4 + t) (by omega)).trans (parts_get w h m n hk ht)
  have HC := Lib.hid hcells
  have HA := Lib.hid hA
  clear hcell hcells hA hown
  go_loopw [21] (fun i wr => ∃ k : Nat, k ≤ cntI w h m n ∧ i = .int .i64 k ∧ (∀ j ∈ List.range k, inAt w h m n x y j = false) ∧ Below w1.heap.size w1 wr) (fun i _ => (cntI w h m n - intOf i).toNat)
  case atStart => exact ⟨0, by omega, rfl, by simp, Below.refl _ _⟩
  case round =>
    obtain ⟨k, hk, rfl, hno, hBr⟩ := hrel
    have HNO := Lib.hid hno
    clear hno
    by_cases hlt : k < cntI w h m n
    · have hr := cnt_right hlt
      obtain ⟨⟨g0, g1⟩, g2, g3⟩ := rect_bd hr k
      obtain rfl : A = some ⟨g, 0, none⟩ := by
        rcases HA.out with h | h
        · omega
        · exact h
      have d0 := HC.out k 0 hlt (by omega)
      have d1 := HC.out k 1 hlt (by omega)
      have d2 := HC.out k 2 hlt (by omega)
      have d3 := HC.out k 3 hlt (by omega)
      simp only [rectL, List.getElem?_cons_zero, List.getElem?_cons_succ, Nat.add_zero] at d0 d1 d2 d3
      have e0 := (hBr.cell (block_lt_of_cell d0)).trans d0
      have e1 := (hBr.cell (block_lt_of_cell d1)).trans d1
      have e2 := (hBr.cell (block_lt_of_cell d2)).trans d2
      have e3 := (hBr.cell (block_lt_of_cell d3)).trans d3
      clear d0 d1 d2 d3 hr
      cases hin : inAt w h m n x y k with
      | true =>
        have hfin := Lib.hid (of_some hlt HNO.out hin)
        obtain ⟨⟨⟨t1, t2⟩, t3⟩, t4⟩ : ((fromI w m (colI m k) ≤ x ∧ x < fromI w m (colI m k) + (fromI w m (colI m k + 1) - fromI w m (colI m k))) ∧ fromI h n (rowI m n k) ≤ y) ∧ y < fromI h n (rowI m n k) + (fromI h n (rowI m n k + 1) - fromI h n (rowI m n k)) := by
          simpa only [inAt, inI, Bool.and_eq_true, decide_eq_true_eq] using hin
        clear hin
        go_wp2
        go_ret
        exact ⟨ret_eq hfin.out.symm, below2 hB (hBr.alloc hBr.size _)⟩
      | false =>
        have HIN := Lib.hid hin
        have ht : x < fromI w m (colI m k) ∨ (fromI w m (colI m k) ≤ x ∧ fromI w m (colI m k) + (fromI w m (colI m k + 1) - fromI w m (colI m k)) ≤ x) ∨ (fromI w m (colI m k) ≤ x ∧ x < fromI w m (colI m k) + (fromI w m (colI m k + 1) - fromI w m (colI m k)) ∧ y < fromI h n (rowI m n k)) ∨ (fromI w m (colI m k) ≤ x ∧ x < fromI w m (colI m k) + (fromI w m (colI m k + 1) - fromI w m (colI m k)) ∧ fromI h n (rowI m n k) ≤ y ∧ fromI h n (rowI m n k) + (fromI h n (rowI m n k + 1) - fromI h n (rowI m n k)) ≤ y) := by
          have h' : ¬ (((fromI w m (colI m k) ≤ x ∧ x < fromI w m (colI m k) + (fromI w m (colI m k + 1) - fromI w m (colI m k))) ∧ fromI h n (rowI m n k) ≤ y) ∧ y < fromI h n (rowI m n k) + (fromI h n (rowI m n k + 1) - fromI h n (rowI m n k))) := fun hc => by
            have : inAt w h m n x y k = true := by simpa only [inAt, inI, Bool.and_eq_true, decide_eq_true_eq] using hc
            rw [this] at hin; cases hin
          omega
        clear hin
        rcases ht with t1 | ⟨t1, t2⟩ | ⟨t1, t2, t3⟩ | ⟨t1, t2, t3, t4⟩
        all_goals
          go_wp2
          go_roundw
          case rel =>
            refine ⟨k + 1, by omega, by go_num, fun j hj => ?_, hBr.alloc hBr.size _⟩
            rw [List.range_succ] at hj
            rcases List.mem_append.1 hj with hj | hj
            · exact HNO.out j hj
            · simp at hj; subst hj; exact HIN.out
          case measure => simp [intOf]; omega
    · have hall : ∀ j ∈ List.range (cntI w h m n), inAt w h m n x y j = false := fun j hj => HNO.out j (List.mem_range.2 (by have := List.mem_range.1 hj; omega))
      have hfin := Lib.hid (of_none hall)
      clear hall
      go_wp2
      go_ret
      exact ⟨ret_eq hfin.out.symm, below2 hB hBr⟩
end Go.Proofs.Ytekdhagmmflcnaa
