/- sizes of 61 quantisers; the reference's bisection; the law closures that read and note. -/
import Derived.Test.YtdfhapcndofbdaaSl
import Derived.Sort.AtCall
namespace Go.Proofs.Ytdfhapcndofbdaa
open Go.RowKit

/-- the size of a quantiser out of a row of l sizes -/
def sizF (z : List Int) (l : Nat) (q : Nat) : Int := if l = 0 then 0 else z.getD (q % l) 0
def sizArr (z : List Int) (l k : Nat) : Array Value := ((List.range 61).map fun (j : Nat) => if j < k then Value.int .i64 (sizF z l j) else .int .i64 0).toArray
theorem sizArr_size (z : List Int) (l k : Nat) : (sizArr z l k).size = 61 := by simp [sizArr]
theorem sizArr_get (z : List Int) (l k j : Nat) (h : j < 61) : (sizArr z l k)[j]? = some (if j < k then Value.int .i64 (sizF z l j) else .int .i64 0) := by
  simp [sizArr, h]
theorem sizArr_set (z : List Int) (l k : Nat) : (sizArr z l k).setIfInBounds k (.int .i64 (sizF z l k)) = sizArr z l (k + 1) := by
  apply Array.ext
  · simp [sizArr]
  · intro i h1 h2
    simp only [Array.size_setIfInBounds, sizArr_size] at h1
    rw [Array.getElem_setIfInBounds (by rw [sizArr_size]; exact h1)]
    simp only [sizArr]
    by_cases h : k = i
    · subst h; simp
    · rw [if_neg h]
      simp only [List.getElem_toArray, List.getElem_map, List.getElem_range]
      by_cases h3 : i < k
      · rw [if_pos h3, if_pos (by omega)]
      · rw [if_neg h3, if_neg (by omega)]
theorem sizArr_0 (z : List Int) (l : Nat) : sizArr z l 0 = Array.replicate 61 (.int .i64 0) := by
  apply Array.ext
  · simp [sizArr]
  · intro i h1 h2
    simp [sizArr]
theorem sizArr_none (z : List Int) : ∀ k k', sizArr z 0 k = sizArr z 0 k' := by
  intro k k'
  unfold sizArr
  congr 1
  apply List.map_congr_left
  intro j _
  simp [sizF]

theorem make_ints : ∀ w, (Instr.makeSlice 22 (.int .i64 61) (.int .i64 61)).run Try.prog w = .ok (.slice (some ⟨w.heap.size, 0, none⟩) 61 61) (w.alloc (.cells (Array.replicate 61 (.int .i64 0)) 3)) := fun _ => by kernel_rfl
theorem make_bools : ∀ w, (Instr.makeSlice 33 (.int .i64 61) (.int .i64 61)).run Try.prog w = .ok (.slice (some ⟨w.heap.size, 0, none⟩) 61 61) (w.alloc (.cells (Array.replicate 61 (.bool false)) 4)) := fun _ => by kernel_rfl
theorem tmod_len {k l : Nat} (_hl : 0 < l) : (k : Int).tmod (l : Int) = ((k % l : Nat) : Int) := by
  rw [Int.tmod_eq_emod_of_nonneg (by omega)]; simp

set_option maxHeartbeats 1000000 in
theorem sizes_any (w : World) (a0 : Option Addr) (len0 cap0 : Nat) (z0 : List Int) (w0 : IsRow .i64 w a0 len0 cap0 z0) :
    Calls Try.prog 14 #[.slice a0 len0 cap0] w fun e w' => e = .returned (.slice (some ⟨w.heap.size, 0, none⟩) 61 61) ∧ w'.heap[w.heap.size]? = some (.cells (sizArr z0 len0 61) 3 (0, 0)) ∧ Below w.heap.size w w' := by
  have hlen := w0.len
  obtain ⟨b, off, hx, HC⟩ := w0.at
  have HC1 := Lib.hid HC
  have HX := Lib.hid hx
  clear hx w0 HC
  go_enter Try.func14, Try.ntmps14
  go_wp2_with (rw [make_ints])
  have hh := heap_alloc_new w (.cells (Array.replicate 61 (.int .i64 0)) 3)
  have hB := (Below.refl w.heap.size w).alloc (Nat.le_refl _) (.cells (Array.replicate 61 (.int .i64 0)) 3)
  rw [← sizArr_0 z0 len0] at hh hB ⊢
  generalize w.alloc (.cells (sizArr z0 len0 0) 3) = W at hh hB ⊢
  go_loopw [8] (fun i wr => ∃ k : Nat, k ≤ 61 ∧ i = .int .i64 k ∧ wr.heap[w.heap.size]? = some (.cells (sizArr z0 len0 k) 3 (0, 0)) ∧ Below w.heap.size w wr) (fun i _ => (61 - intOf i).toNat)
  case atStart => exact ⟨0, by omega, rfl, hh, hB⟩
  case round =>
    clear hh hB
    obtain ⟨k, hk, rfl, hh, hB⟩ := hrel
    by_cases hlt : k < 61
    · have hc := cell_of_row wr w.heap.size k _ _ _ hh
      rw [sizArr_get _ _ k k hlt, if_neg (by omega)] at hc
      have hf := frozen_of_row wr w.heap.size k _ _ hh
      have H1 := Lib.hid hh
      have HB := Lib.hid hB
      clear hh
      by_cases hl : len0 = 0
      · subst hl
        clear hB
        go_wp2
        go_roundw
        case rel => exact ⟨k + 1, by omega, by go_num, by rw [sizArr_none z0 (k + 1) k]; exact H1.out, HB.out⟩
        case measure => simp [intOf]; omega
      · obtain rfl : a0 = some ⟨b, off, none⟩ := by
          rcases HX.out with h | h
          · omega
          · exact h
        obtain ⟨hn', hn0, hn1⟩ := HC1.out (k % len0) (Nat.mod_lt _ (by omega))
        have hn := (hB.cell (block_lt_of_cell hn')).trans hn'
        have hm := tmod_len (k := k) (l := len0) (by omega)
        have hlm : k % len0 < len0 := Nat.mod_lt _ (by omega)
        have hz : z0.getD (k % len0) 0 = sizF z0 len0 k := by unfold sizF; rw [if_neg hl]
        rw [hz] at hn
        clear hn' hB hz hn0 hn1
        have hl' : ¬ (len0 : Int) = 0 := by omega
        have hm' := Lib.hid hm
        go_wp2_with (rw [hm'.out])
        have e : (wr.setCell ⟨w.heap.size, k, none⟩ (.int .i64 (sizF z0 len0 k))).heap[w.heap.size]? = _ := heap_setCell_same wr w.heap.size k _ _ _ H1.out
        rw [sizArr_set] at e
        exact ⟨⟨k + 1, by omega, by go_num, e, HB.out.setCell (Nat.le_refl _) _⟩, by simp [intOf]; omega⟩
    · obtain rfl : k = 61 := by omega
      have H1 := Lib.hid hh
      have HB := Lib.hid hB
      clear hh hB
      go_wp2
      go_ret
      exact ⟨rfl, H1.out, HB.out⟩

theorem betw_lo (s : Int → Int) (room : Int) (k : Nat) {a b : Int} (hab : a < b) (hs : s ((a + b) / 2) ≤ room) : betw s room (k + 1) a b = betw s room k a ((a + b) / 2) := by
  conv => lhs; unfold betw
  rw [if_pos hab, if_pos hs]
theorem betw_hi (s : Int → Int) (room : Int) (k : Nat) {a b : Int} (hab : a < b) (hs : ¬ s ((a + b) / 2) ≤ room) : betw s room (k + 1) a b = betw s room k ((a + b) / 2 + 1) b := by
  conv => lhs; unfold betw
  rw [if_pos hab, if_neg hs]
set_option maxHeartbeats 1000000 in
theorem between_any (s : Int → Int) (room : Int) (g : Nat) (w : World) (hc : ∀ j : Nat, j < 61 → w.cell? ⟨g, j, none⟩ = some (.int .i64 (s j))) :
    ∀ (k : Nat) (a b : Int), 0 ≤ a → a ≤ b → b ≤ 60 → b - a ≤ k →
    Calls Try.prog 23 #[.int .i64 room, .slice (some ⟨g, 0, none⟩) 61 61, .int .i64 a, .int .i64 b] w fun e w' => e = .returned (.int .i64 (betw s room k a b)) ∧ w' = w := by
  intro k
  induction k with
  | zero =>
    intro a b h0 h1 h2 h3
    clear hc
    go_enter Try.func23, Try.ntmps23
    go_wp2
    go_ret
    exact ⟨rfl, rfl⟩
  | succ k ih =>
    intro a b h0 h1 h2 h3
    by_cases hab : a < b
    · have hm : (((a + b) / 2).toNat : Int) = (a + b) / 2 := by omega
      have hcm := hc ((a + b) / 2).toNat (by omega)
      rw [hm] at hcm
      clear hc
      by_cases hs : s ((a + b) / 2) ≤ room
      · have IH := Lib.hid (ih a ((a + b) / 2) (by omega) (by omega) (by omega) (by omega))
        clear ih
        have hr : betw s room (k + 1) a b = betw s room k a ((a + b) / 2) := betw_lo s room k hab hs
        go_enter Try.func23, Try.ntmps23
        go_wp2_with (go_at_call 23; refine IH.out.mono ?_; rintro e w1 ⟨rfl, rfl⟩)
        go_ret
        exact ⟨ret_eq hr.symm, rfl⟩
      · have IH := Lib.hid (ih ((a + b) / 2 + 1) b (by omega) (by omega) (by omega) (by omega))
        clear ih
        have hr : betw s room (k + 1) a b = betw s room k ((a + b) / 2 + 1) b := betw_hi s room k hab hs
        go_enter Try.func23, Try.ntmps23
        go_wp2_with (go_at_call 23; refine IH.out.mono ?_; rintro e w1 ⟨rfl, rfl⟩)
        go_ret
        exact ⟨ret_eq hr.symm, rfl⟩
    · clear hc ih
      go_enter Try.func23, Try.ntmps23
      go_wp2
      go_ret
      exact ⟨ret_eq (betw_end _ _ _ _ _ (by omega)).symm, rfl⟩
theorem refPick_any (s : Int → Int) (room : Int) (g : Nat) (w : World) (hc : ∀ j : Nat, j < 61 → w.cell? ⟨g, j, none⟩ = some (.int .i64 (s j))) :
    Calls Try.prog 17 #[.int .i64 room, .slice (some ⟨g, 0, none⟩) 61 61] w fun e w' => e = .returned (.int .i64 (pickI s room)) ∧ w' = w := by
  have H := Lib.hid (between_any s room g w hc 60 0 60 (by omega) (by omega) (by omega) (by omega))
  clear hc
  go_enter Try.func17, Try.ntmps17
  go_wp2_with (go_at_call 23; refine H.out.mono ?_; rintro e w1 ⟨rfl, rfl⟩)
  go_ret
  exact ⟨rfl, rfl⟩

/-- RateLeast's closure: it reads a size through the variable s. -/
theorem least1_any (s : Int → Int) (ps g : Nat) (q : Int) (w : World) (hs : w.cell? ⟨ps, 0, none⟩ = some (.slice (some ⟨g, 0, none⟩) 61 61)) (h0 : 0 ≤ q) (h1 : q < 60)
    (hc : w.cell? ⟨g, q.toNat, none⟩ = some (.int .i64 (s q))) :
    Calls Try.prog 18 #[.int .i64 q, .pointer (some ⟨ps, 0, none⟩)] w fun e w' => e = .returned (.int .i64 (s q)) ∧ w' = w := by
  go_enter Try.func18, Try.ntmps18
  go_wp2
  go_ret
  exact ⟨rfl, rfl⟩
/-- RatePicks' closure: it notes that q is asked and reads its size. -/
theorem picks1_any (s : Int → Int) (pa ga ps gs : Nat) (q : Int) (w : World) (ha : w.cell? ⟨pa, 0, none⟩ = some (.slice (some ⟨ga, 0, none⟩) 61 61)) (hs : w.cell? ⟨ps, 0, none⟩ = some (.slice (some ⟨gs, 0, none⟩) 61 61))
    (h0 : 0 ≤ q) (h1 : q < 60) (hb : ∃ x, w.cell? ⟨ga, q.toNat, none⟩ = some (.bool x)) (hf : w.frozen? ⟨ga, q.toNat, none⟩ = false)
    (hne : ps ≠ ga ∧ gs ≠ ga ∧ pa ≠ ga) (hc : w.cell? ⟨gs, q.toNat, none⟩ = some (.int .i64 (s q))) :
    Calls Try.prog 16 #[.int .i64 q, .pointer (some ⟨pa, 0, none⟩), .pointer (some ⟨ps, 0, none⟩)] w fun e w' => e = .returned (.int .i64 (s q)) ∧ w' = w.setCell ⟨ga, q.toNat, none⟩ (.bool true) := by
  obtain ⟨x, hb⟩ := hb
  obtain ⟨n1, n2, n3⟩ := hne
  go_enter Try.func16, Try.ntmps16
  go_wp2
  go_ret
  exact ⟨rfl, rfl⟩
end Go.Proofs.Ytdfhapcndofbdaa
