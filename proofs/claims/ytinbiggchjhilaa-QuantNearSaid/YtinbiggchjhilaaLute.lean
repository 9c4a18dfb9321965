/- Contracts of lut.Steps, lut.Factors. -/
import Derived.Test.YtinbiggchjhilaaLutd
namespace Go.Proofs.Ytinbiggchjhilaa
open Go.RowKit

/-- 256 noughts -/
def z256 : Array Value := Array.replicate 256 (.int .i64 0)
theorem zero23 : ∀ w, (zeroValue 23).run Try.prog w = .ok (.agg z256) w := fun _ => by kernel_rfl
/-- the first k steps, then noughts -/
def stepsArr (k : Nat) : Array Value := ((List.range 256).map fun (j : Nat) => if j < k then Value.int .i64 (stepI j) else .int .i64 0).toArray
theorem stepsArr_0 : stepsArr 0 = z256 := by
  unfold stepsArr z256
  apply Array.ext
  · simp
  · intro i h1 h2
    simp
theorem stepsArr_size (k : Nat) : (stepsArr k).size = 256 := by simp [stepsArr]
theorem stepsArr_get (k j : Nat) (h : j < 256) : (stepsArr k)[j]? = some (if j < k then Value.int .i64 (stepI j) else .int .i64 0) := by
  simp [stepsArr, h]
theorem stepsArr_set (k : Nat) : (stepsArr k).setIfInBounds k (.int .i64 (stepI k)) = stepsArr (k + 1) := by
  apply Array.ext
  · simp [stepsArr]
  · intro i h1 h2
    simp only [Array.size_setIfInBounds, stepsArr_size] at h1
    rw [Array.getElem_setIfInBounds (by rw [stepsArr_size]; exact h1)]
    simp only [stepsArr]
    by_cases e : k = i
    · subst e; simp
    · rw [if_neg e]
      simp only [List.getElem_toArray, List.getElem_map, List.getElem_range]
      by_cases h : i < k
      · rw [if_pos h, if_pos (by omega)]
      · rw [if_neg h, if_neg (by omega)]
theorem stepsArr_all (k : Nat) : (stepsArr k).all (·.oneCell') = true := by
  rw [Array.all_eq_true_iff_forall_mem]
  intro x hx
  simp only [stepsArr, List.mem_toArray, List.mem_map, List.mem_range] at hx
  obtain ⟨j, _, rfl⟩ := hx
  split <;> rfl
/-- all steps -/
def stepsV : Value := .agg (stepsArr 256)

theorem z256_size : z256.size = (stepsArr 256).size := by rw [stepsArr_size]; unfold z256; exact Array.size_replicate
theorem info23 : (Try.prog.info? 23).map (·.size) = some (stepsArr 256).size := by rw [stepsArr_size]; kernel_rfl
theorem below_setRow {B : Nat} (w : World) (g : Nat) (cs : Array Value) (h : B ≤ g) : Below B w (w.setRow g cs) :=
  ⟨rfl, rfl, rfl, by simp, fun k hk => setRow_other w g k cs (by omega)⟩
attribute [irreducible] z256 stepsArr

set_option maxRecDepth 100000 in
set_option maxHeartbeats 1000000 in
theorem steps_any (w : World) :
    Calls Try.prog 10 #[] w fun e w' => e = .returned stepsV ∧ Below w.heap.size w w' := by
  have hz := zero23
  go_enter Try.func10, Try.ntmps10
  go_wp2_with fail
  have hB0 : Below w.heap.size w ((w.alloc (.cells z256 23)).alloc (.cells z256 23)) := ((Below.refl _ w).alloc (Nat.le_refl _) _).alloc (by simp) _
  have hz0 : ((w.alloc (.cells z256 23)).alloc (.cells z256 23)).heap[w.heap.size]? = some (.cells z256 23) := heap_alloc2_old w _ _
  have hz1 : ((w.alloc (.cells z256 23)).alloc (.cells z256 23)).heap[w.heap.size + 1]? = some (.cells z256 23) := heap_alloc2_new w _ _
  go_loopw [3] (fun i wr => ∃ k : Nat, k ≤ 256 ∧ i = .int .i64 k ∧ wr.heap[w.heap.size]? = some (.cells z256 23) ∧ wr.heap[w.heap.size + 1]? = some (.cells (stepsArr k) 23) ∧ Below w.heap.size w wr) (fun i _ => (256 - intOf i).toNat)
  case atStart => exact ⟨0, by omega, rfl, hz0, by rw [stepsArr_0]; exact hz1, hB0⟩
  case round =>
    obtain ⟨k, hk, rfl, h0, h1, hB⟩ := hrel
    by_cases hlt : k < 256
    · have hc := cell_of_row wr (w.heap.size + 1) k _ _ _ h1
      rw [stepsArr_get k k hlt, if_neg (by omega)] at hc
      have hf := frozen_of_row wr (w.heap.size + 1) k _ _ h1
      have H1 := Lib.hid h1
      have H0 := Lib.hid h0
      clear h0 h1 hz hz0 hz1
      go_wp2_with (go_at_call 12; refine (step_any _ _).mono ?_; rintro e w' ⟨rfl, rfl⟩)
      go_roundw
      case rel => exact ⟨k + 1, by omega, by go_num, by rw [heap_setCell_other _ _ _ _ (by simp)]; exact H0.out, by rw [heap_setCell_same _ _ _ _ _ _ H1.out, stepsArr_set], hB.setCell (by simp) _⟩
      case measure => simp [intOf]; omega
    · obtain rfl : k = 256 := by omega
      clear hz hz0 hz1
      have H1 := Lib.hid h1
      have H0 := Lib.hid h0
      clear h0 h1
      go_wp2_with (first | (refine wpList_load_row rfl 23 _ rfl _ rfl _ _ _ _ H1.out Try.underlying23 rfl info23 ?_) | (refine wpList_store_row rfl 23 _ _ rfl _ (stepsArr 256) rfl rfl _ _ H0.out info23 z256_size (stepsArr_all _) ?_))
      refine bodyPost_ret (v := stepsV) ?_ rfl ⟨rfl, ?_⟩
      · exact results_cell_row Try.results10 _ _ _ _ _ _ _ rfl (setRow_heap _ _ _ _ _ _ H0.out) Try.underlying23 rfl info23
      · exact hB.trans (below_setRow wr _ _ (Nat.le_refl _))

theorem info3 : (Try.prog.info? 3).map (fun i => (i.zero, i.size, i.bytes)) = some (some (.int .i64 0), 1, 8) := by kernel_rfl

/-- the first k factors -/
def facs (k : Nat) : List Value := (List.range k).map fun (j : Nat) => Value.int .i64 (facI j)
theorem facs_succ (k : Nat) : facs k ++ [.int .i64 (facI k)] = facs (k + 1) := by simp [facs, List.range_succ]
theorem facs_len (k : Nat) : (facs k).length = k := by simp [facs]
theorem facs_get {k j : Nat} (h : j < k) : (facs k)[j]? = some (.int .i64 (facI j)) := by simp [facs, h]

theorem own_below {B : Nat} {e : TypeId} {k : Nat} {v : Value} {n : Nat} {xs : List Value} {w w' : World} (h : w.ownsRow B e k v n xs) (hb : Below w.heap.size w w') : w'.ownsRow B e k v n xs := by
  obtain ⟨h1, h2⟩ := h
  refine ⟨h1, ?_⟩
  rcases h2 with h2 | ⟨g, cap, cur, hv, hg, hh, r⟩
  · exact .inl h2
  · exact .inr ⟨g, cap, cur, hv, hg, by rw [hb.block g (Array.getElem?_eq_some_iff.1 hh).1]; exact hh, r⟩

theorem own_form {w : World} {base size n : Nat} {e : TypeId} {v : Value} {xs : List Value} (h : w.ownsRow base e size v n xs) (hn : 0 < n) : ∃ g cap, v = .slice (some ⟨g, 0, none⟩) n cap := by
  rcases h.2 with ⟨_, h0⟩ | ⟨g, cap, _, hv, _⟩
  · omega
  · exact ⟨g, cap, hv⟩

set_option maxHeartbeats 1000000 in
theorem factors_any (w : World) :
    Calls Try.prog 17 #[] w fun e w' => ∃ v, e = .returned v ∧ w'.ownsRow w.heap.size 3 1 v 61 (facs 61) ∧ Below w.heap.size w w' := by
  obtain ⟨i0, hi, hz0, hz1, hz2⟩ := info_parts info3
  go_enter Try.func17, Try.ntmps17
  go_wp2
  go_loopw [1, 3] (fun v i wr => ∃ k : Nat, k ≤ 61 ∧ i = .int .i64 k ∧ wr.ownsRow w.heap.size 3 1 v k (facs k) ∧ Below w.heap.size w wr) (fun _ i _ => (61 - intOf i).toNat)
  case atStart => exact ⟨0, by omega, rfl, World.ownsRow_nil _ _ _ _, Below.refl _ _⟩
  case round =>
    obtain ⟨k, hk, rfl, hown, hB⟩ := hrel
    have hbk := facI_bd k
    by_cases hlt : k < 61
    · go_wp2_with (first | (go_at_call 19; refine (factor_any _ _).mono ?_; rintro e w1 ⟨rfl, hb1⟩; have hs1 := hb1.size; have hs := hB.size; have hown1 := own_below hown hb1) | (at_builtin; refine wpList_append_own _ rfl _ _ 27 rfl w.heap.size 3 i0 (.int .i64 0) 1 8 Try.underlying27 hi hz0 hz1 hz2 rfl (by decide) _ _ _ rfl (hown1.alloc _) ⟨w1.heap.size, 0, none⟩ 1 1 [.int .i64 (facI k)] rfl rfl (cell_one_new _ _ _) (by simp [Value.oneCell']) (by unfold maxLen; omega) (by omega) (by simp; omega) ?_; intro v' w2 hown2 hgrow _))
      go_roundw
      case rel => exact ⟨k + 1, by omega, by go_num, by rw [facs_succ] at hown2; exact hown2, (((hB.trans (hb1.mono hs)).alloc (by omega) _).grown hgrow (by simp; omega) (fun j hj => (hown1.lt j hj).1))⟩
      case measure => simp [intOf]; omega
    · obtain rfl : k = 61 := by omega
      go_wp2
      go_ret
      exact ⟨_, rfl, hown, hB⟩
end Go.Proofs.Ytinbiggchjhilaa
