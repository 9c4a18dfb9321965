/- The walk of the law LutSteps: it returns true. -/
import Derived.Test.YtinbiggchjhilaaLutf
namespace Go.Proofs.Ytinbiggchjhilaa.lutSteps
open Go.RowKit

set_option maxRecDepth 100000 in
set_option maxHeartbeats 1000000 in
theorem walk (a0 : Int) (_w0 : (Lit.int .i64 a0).wf = true) (a1 : Int) (_w1 : (Lit.int .i64 a1).wf = true) (w : World) :
    Calls Try.prog 3 #[.int .i64 a0, .int .i64 a1] w fun e w' => e = .returned (.bool true) ∧ Below w.heap.size w w' := by
  have hz := zero23
  clear _w0 _w1
  go_enter Try.func3, Try.ntmps3
  go_wp2_with (first
    | (go_at_call 9; refine (first04 _).mono ?_; rintro e w0 ⟨rfl, hb0⟩)
    | (go_at_call 10; refine (steps_any _).mono ?_; rintro e w1 ⟨rfl, hb1⟩)
    | (refine wpList_store_row rfl 23 _ _ rfl _ (stepsArr 256) rfl rfl _ _ (heap_alloc_new w1 _) info23 z256_size (stepsArr_all _) ?_; have hrow := setRow_heap (w1.alloc (.cells z256 23)) w1.heap.size _ (stepsArr 256) _ _ (heap_alloc_new w1 _))
    | (refine wpList_load_row rfl 23 _ rfl _ rfl _ _ _ _ hrow Try.underlying23 rfl info23 ?_))
  have hb2 : Below w.heap.size w w1 := hb0.trans (hb1.mono hb0.size)
  have hB : Below w.heap.size w ((w1.alloc (.cells z256 23)).setRow w1.heap.size (stepsArr 256)) := ((hb2.alloc hb2.size _).trans (below_setRow _ _ _ hb2.size))
  generalize (w1.alloc (.cells z256 23)).setRow w1.heap.size (stepsArr 256) = W at hB ⊢
  clear hrow hz
  go_loop [12] (fun i => ∃ k : Nat, k ≤ 256 ∧ i = .int .i64 k) (fun i => (256 - intOf i).toNat)
  case atStart => exact ⟨0, by omega, rfl⟩
  case round =>
    obtain ⟨k, hk, rfl⟩ := hrel
    by_cases hlt : k < 256
    · have hidx := idxSteps k hlt
      go_wp2_with (go_at_call 11; refine (refStep_any _ _).mono ?_; rintro e w' ⟨rfl, rfl⟩)
      go_round
      case rel => exact ⟨k + 1, by omega, by go_num⟩
      case measure => simp [intOf]; omega
    · go_wp2_with (first
        | (go_at_call 12; refine (step_any _ _).mono ?_; rintro e w' ⟨rfl, rfl⟩)
        | (go_at_call 11; refine (refStep_any _ _).mono ?_; rintro e w' ⟨rfl, rfl⟩)
        | (go_at_call 13; refine (less_any _ _).mono ?_; rintro e w' ⟨rfl, rfl⟩)
        | (go_at_call 14; refine (refLess_any _ _).mono ?_; rintro e w' ⟨rfl, rfl⟩)
        | (go_at_call 15; refine (more_any _ _).mono ?_; rintro e w' ⟨rfl, rfl⟩)
        | (go_at_call 16; refine (refMore_any _ _).mono ?_; rintro e w' ⟨rfl, rfl⟩))
      go_ret
      exact ⟨rfl, hB⟩
end Go.Proofs.Ytinbiggchjhilaa.lutSteps
