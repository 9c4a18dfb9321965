/- The walk of the law LutFactors: it returns true. -/
import Derived.Test.YtinbiggchjhilaaLutf
namespace Go.Proofs.Ytinbiggchjhilaa
open Go.RowKit
theorem own_cell {w : World} {base n cap g : Nat} {e : TypeId} {xs : List Value} (h : w.ownsRow base e 1 (.slice (some ⟨g, 0, none⟩) n cap) n xs) {j : Nat} (hj : j < n) : w.cell? ⟨g, j, none⟩ = xs[j]? := by
  rcases h.2 with ⟨h0, _⟩ | ⟨g', cap', cur, hv, _, hh, _, _, _, ht⟩
  · cases h0
  · cases hv
    rw [cell_of_row _ _ _ _ _ _ hh, ← ht]
    rw [List.getElem?_take_of_lt (by omega)]; simp
theorem below3 {w a b c : World} (h1 : Below w.heap.size w a) (h2 : Below a.heap.size a b) (h3 : Below b.heap.size b c) : Below w.heap.size w c :=
  (h1.trans (h2.mono h1.size)).trans (h3.mono (h1.trans (h2.mono h1.size)).size)
theorem below2 {w a b : World} (h1 : Below w.heap.size w a) (h2 : Below a.heap.size a b) : Below w.heap.size w b := h1.trans (h2.mono h1.size)

namespace lutFactors
set_option maxRecDepth 100000 in
set_option maxHeartbeats 1000000 in
theorem walk (a0 : Int) (_w0 : (Lit.int .i64 a0).wf = true) (w : World) :
    Calls Try.prog 4 #[.int .i64 a0] w fun e w' => e = .returned (.bool true) ∧ Below w.heap.size w w' := by
  clear _w0
  go_enter Try.func4, Try.ntmps4
  go_wp2_with (first
    | (go_at_call 9; refine (first04 _).mono ?_; rintro e w0 ⟨rfl, hb0⟩)
    | (go_at_call 17; refine (factors_any _).mono ?_; rintro e w1 ⟨v, rfl, hown, hb1⟩; obtain ⟨g, cap, rfl⟩ := own_form hown (by decide)))
  have hB : Below w.heap.size w w1 := below2 hb0 hb1
  have hcells : ∀ j, j < 61 → w1.cell? ⟨g, j, none⟩ = some (.int .i64 (facI j)) := fun j hj => (own_cell hown hj).trans (facs_get hj)
  have HC := Lib.hid hcells
  clear hb0 hb1 hown hcells
  go_loop [11] (fun i => ∃ k : Nat, k ≤ 61 ∧ i = .int .i64 k) (fun i => (61 - intOf i).toNat)
  case atStart => exact ⟨0, by omega, rfl⟩
  case round =>
    obtain ⟨k, hk, rfl⟩ := hrel
    by_cases hlt : k < 61
    · have hc := HC.out k hlt
      go_wp2_with (go_at_call 18; refine (refFactor_any _ _).mono ?_; rintro e w' ⟨rfl, rfl⟩)
      go_round
      case rel => exact ⟨k + 1, by omega, by go_num⟩
      case measure => simp [intOf]; omega
    · obtain rfl : k = 61 := by omega
      go_wp2_with (first
        | (go_at_call 19; refine (factor_any _ _).mono ?_; rintro e w2 ⟨rfl, hb2⟩; have hB := below2 hB hb2; clear hb2)
        | (go_at_call 18; refine (refFactor_any _ _).mono ?_; rintro e w' ⟨rfl, rfl⟩)
        | (go_at_call 21; refine (refOffset_any _ _ _).mono ?_; rintro e w' ⟨rfl, rfl⟩)
        | (go_at_call 20; refine (offset_any _ _ _).mono ?_; rintro e w2 ⟨rfl, hb2⟩; have hB := below2 hB hb2; clear hb2))
      go_ret
      exact ⟨rfl, hB⟩
end lutFactors
end Go.Proofs.Ytinbiggchjhilaa
