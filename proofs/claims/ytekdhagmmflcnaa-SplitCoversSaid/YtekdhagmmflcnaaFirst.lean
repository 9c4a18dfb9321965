/- The first line of the laws on parts. -/
import Derived.Test.YtekdhagmmflcnaaROf
import Derived.Laws.StructEq
namespace Go.Proofs.Ytekdhagmmflcnaa
open Go.RowKit

theorem cnt_first : cntI 3 1 2 1 = 2 := by decide
theorem rect_f0 : rectL 3 1 2 1 0 = [.int .i64 0, .int .i64 0, .int .i64 1, .int .i64 1] := rfl
theorem rect_f1 : rectL 3 1 2 1 1 = [.int .i64 1, .int .i64 0, .int .i64 2, .int .i64 1] := rfl

set_option maxRecDepth 100000 in
set_option maxHeartbeats 1000000 in
theorem first12 (w : World) :
    Calls Try.prog 6 #[] w fun e w' => e = .returned (.bool true) ∧ Below w.heap.size w w' := by
  have e1 : ofI 3 1 2 1 2 0 = 1 := by decide
  have e2 : ofI 3 1 2 1 3 0 = -1 := by decide
  have e3 : rightI 3 1 2 1 = true := by decide
  have e4 : rightI 3 1 65 1 = false := by decide
  go_enter Try.func6, Try.ntmps6
  go_wp2_with fail
  refine (list_any _ _ _ _ _).mono ?_
  rw [cnt_first]
  rintro e w1 ⟨v, rfl, hown, hB⟩
  obtain ⟨A, cap, g, rfl, hA, hcell⟩ := own_shape hown
  obtain rfl : A = some ⟨g, 0, none⟩ := by
    rcases hA with h | h
    · cases h
    · exact h
  have hc : ∀ k t, k < 2 → t < 4 → w1.cell? ⟨g, k * 4 + t, none⟩ = (rectL 3 1 2 1 k)[t]? := fun k t hk ht => (hcell (k * 4 + t) (by omega)).trans (parts_get 3 1 2 1 hk ht)
  have c0 := hc 0 0 (by omega) (by omega)
  have c1 := hc 0 1 (by omega) (by omega)
  have c2 := hc 0 2 (by omega) (by omega)
  have c3 := hc 0 3 (by omega) (by omega)
  have c4 := hc 1 0 (by omega) (by omega)
  have c5 := hc 1 1 (by omega) (by omega)
  have c6 := hc 1 2 (by omega) (by omega)
  have c7 := hc 1 3 (by omega) (by omega)
  rw [rect_f0] at c0 c1 c2 c3
  rw [rect_f1] at c4 c5 c6 c7
  simp only [List.getElem?_cons_zero, List.getElem?_cons_succ, Nat.zero_mul, Nat.zero_add, Nat.one_mul, Nat.reduceAdd, Nat.add_zero] at c0 c1 c2 c3 c4 c5 c6 c7
  clear hc hcell hA hown
  go_wp2_with (first
    | (go_at_call 11; refine (of_any _ _ _ _ _ _ _).mono ?_; rintro e w2 ⟨rfl, hb2⟩; have hB := below2 hB hb2; clear hb2)
    | (go_at_call 9; refine (right_any _ _ _ _ _).mono ?_; rintro e w' ⟨rfl, rfl⟩))
  go_ret
  exact ⟨rfl, hB⟩
end Go.Proofs.Ytekdhagmmflcnaa
