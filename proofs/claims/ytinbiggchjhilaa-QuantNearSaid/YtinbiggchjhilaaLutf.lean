/- The statements' common first line holds: shinglelaw04.first. -/
import Derived.Test.YtinbiggchjhilaaLute
namespace Go.Proofs.Ytinbiggchjhilaa
open Go.RowKit

set_option maxRecDepth 100000 in
set_option maxHeartbeats 1000000 in
theorem first04 (w : World) :
    Calls Try.prog 9 #[] w fun e w' => e = .returned (.bool true) ∧ Below w.heap.size w w' := by
  have hz := zero23
  have e1 : stepI 128 = 682 := by decide
  have e2 : stepI 255 = 1697 := by decide
  have e3 : facI 5 = 10 := by decide
  have e4 : offI 5 true = 4 := by decide
  have e5 : lessI 32768 = 32086 := by decide
  have e6 : moreI 32768 = 33444 := by decide
  have e7 : stepI 127 = 676 := by decide
  go_enter Try.func9, Try.ntmps9
  go_wp2_with (first
    | (go_at_call 10; refine (steps_any _).mono ?_; rintro e w1 ⟨rfl, hb1⟩)
    | (refine wpList_store_row rfl 23 _ _ rfl _ (stepsArr 256) rfl rfl _ _ (heap_alloc_new w1 _) info23 z256_size (stepsArr_all _) ?_; have hrow := setRow_heap (w1.alloc (.cells z256 23)) w1.heap.size _ (stepsArr 256) _ _ (heap_alloc_new w1 _); have hB1 : Below w.heap.size w ((w1.alloc (.cells z256 23)).setRow w1.heap.size (stepsArr 256)) := ((hb1.alloc hb1.size _).trans (below_setRow _ _ _ hb1.size)); have hs1 : w1.heap.size < ((w1.alloc (.cells z256 23)).setRow w1.heap.size (stepsArr 256)).heap.size := by simp)
    | (go_at_call 17; refine (factors_any _).mono ?_; rintro e w2 ⟨v, rfl, hown, hb2⟩; obtain ⟨g, cap, rfl⟩ := own_form hown (by decide); have hcell := (hb2.cell (p := ⟨w1.heap.size, 255, none⟩) hs1).trans ((cell_of_row _ _ _ _ _ _ hrow).trans (stepsArr_get 256 255 (by decide))))
    | (go_at_call 12; refine (step_any _ _).mono ?_; rintro e w' ⟨rfl, rfl⟩)
    | (go_at_call 11; refine (refStep_any _ _).mono ?_; rintro e w' ⟨rfl, rfl⟩)
    | (go_at_call 13; refine (less_any _ _).mono ?_; rintro e w' ⟨rfl, rfl⟩)
    | (go_at_call 15; refine (more_any _ _).mono ?_; rintro e w' ⟨rfl, rfl⟩)
    | (go_at_call 19; refine (factor_any _ _).mono ?_; rintro e w3 ⟨rfl, hb3⟩)
    | (go_at_call 20; refine (offset_any _ _ _).mono ?_; rintro e w4 ⟨rfl, hb4⟩))
  go_ret
  exact ⟨rfl, (((hB1.trans (hb2.mono hB1.size)).trans (hb3.mono (hB1.trans (hb2.mono hB1.size)).size)).trans (hb4.mono ((hB1.trans (hb2.mono hB1.size)).trans (hb3.mono (hB1.trans (hb2.mono hB1.size)).size)).size))⟩

theorem run_index_arr {P : Program} {t e : TypeId} {n : Nat} {cs : Array Value} {k : IntKind} {i : Int} {v : Value} {ie : TypeInfo} (h : P.underlying t = some (.array n e)) (he : P.plainKey e = true) (hi : P.info? e = some ie) (hs : ie.size = 1)
    (h0 : 0 ≤ i) (h1 : i < n) (hx : cs[i.toNat]? = some v) (w : World) : (Instr.index t (.agg cs) (.int k i)).run P w = .ok v w := by
  have hn : 0 ≤ i ∧ i < (n : Int) := ⟨h0, h1⟩
  simp [Instr.index, run_underlying h, asIntOf, hn, sizeOf, typeInfo, hi, hs, run_part_plain w he hx, Sem.run_bind]

theorem idxSteps (k : Nat) (hk : k < 256) (w : World) : (Instr.index 23 (.agg (stepsArr 256)) (.int .i64 (k : Int))).run Try.prog w = .ok (.int .i64 (stepI k)) w := by
  obtain ⟨i0, hi, hz0, hz1, hz2⟩ := info_parts info3
  refine run_index_arr Try.underlying23 (by kernel_rfl) hi hz1 (by omega) (by omega) ?_ w
  have := stepsArr_get 256 k hk
  rw [if_pos hk] at this
  simpa using this
end Go.Proofs.Ytinbiggchjhilaa
