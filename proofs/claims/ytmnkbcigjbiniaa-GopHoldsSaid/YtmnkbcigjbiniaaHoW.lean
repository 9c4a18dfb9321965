/- The law GopHolds: its walk. -/
import Derived.Test.YtmnkbcigjbiniaaHoS
import Derived.Test.YtmnkbcigjbiniaaFst
import Derived.Deep.OwnRows
import Derived.Deep.RegionHeld3
namespace Go.Proofs.Ytmnkbcigjbiniaa.gopHolds
open Go.RowKit
open Go.Maps (int_keyed)

theorem info4 : (Try.prog.info? 4).map (fun i => (i.zero, i.size, i.bytes)) = some (some (.bool false), 1, 1) := by kernel_rfl
/-- Which numbers have come, as a row of bools. -/
def Seen (w : World) (g N : Nat) (f : Nat → Bool) : Prop := ∃ cs, w.heap[g]? = some (.cells cs 4 (0, 0)) ∧ ∀ m, m < N → cs[m]? = some (.bool (f m))
theorem Seen.kept {w w' : World} {g N : Nat} {f : Nat → Bool} {row : Option Nat} (h : Seen w g N f) (hg : w.grownBy w' row) (hne : some g ≠ row) : Seen w' g N f := by
  obtain ⟨cs, h1, h2⟩ := h
  exact ⟨cs, (hg.block g (block_lt h1) hne).trans h1, h2⟩
theorem Seen.cell {w : World} {g N : Nat} {f : Nat → Bool} (h : Seen w g N f) {m : Nat} (hm : m < N) : w.cell? ⟨g, m, none⟩ = some (.bool (f m)) ∧ w.frozen? ⟨g, m, none⟩ = false := by
  obtain ⟨cs, h1, h2⟩ := h
  exact ⟨by rw [cell_of_row _ _ _ _ _ _ h1]; exact h2 m hm, frozen_of_row _ _ _ _ _ h1⟩
theorem Seen.set {w : World} {g N : Nat} {f : Nat → Bool} (h : Seen w g N f) {m : Nat} : Seen (w.setCell ⟨g, m, none⟩ (.bool true)) g N (fun i => f i || decide (i = m)) := by
  obtain ⟨cs, h1, h2⟩ := h
  refine ⟨_, heap_setCell_same _ _ m _ _ _ h1, fun i hi => ?_⟩
  have h3 := h2 i hi
  have hlt : i < cs.size := (Array.getElem?_eq_some_iff.1 h3).1
  by_cases c : i = m
  · subst c
    simp [hlt]
  · rw [Array.getElem?_setIfInBounds_ne (by omega), h3]
    simp [c]
theorem seen_made (w : World) (N : Nat) : Seen (w.alloc (.cells (madeCells #[.bool false] N) 4)) w.heap.size N (fun _ => false) := by
  refine ⟨_, heap_alloc_new w _, fun m hm => ?_⟩
  rw [← Array.getElem?_toList, toList_madeCells_one]
  simp [hm]

set_option maxRecDepth 20000 in
set_option maxHeartbeats 4000000 in
theorem walk_no (w : World) (n p b : Int) (hn0 : 0 ≤ n) (hn1 : n < 256) (hno : okA n p b = false) :
    Calls Try.prog 5 #[.int .u8 n, .agg #[.int .i64 p, .int .i64 b]] w fun e w' => e = .returned (.bool true) ∧ Below w.heap.size w w' := by
  have hbx := heap_alloc_new w (.cells #[.int .i64 p, .int .i64 b] 23)
  have hB0 := (Below.refl w.heap.size w).alloc (Nat.le_refl _) (.cells #[.int .i64 p, .int .i64 b] 23)
  have HBX := Lib.hid hbx
  have HB0 := Lib.hid hB0
  have hs : shots n p b = [] := by unfold shots cntA; rw [if_neg (by simp [hno])]; rfl
  have hq : rightG p b = true → n = 0 := fun h => by
    unfold okA at hno
    rw [h] at hno
    simp only [Bool.true_and, Bool.and_eq_false_iff, decide_eq_false_iff_not] at hno
    omega
  have HS := Lib.hid hs
  have HQ := Lib.hid hq
  clear hbx hB0 hs hq hno
  cases hr : rightG p b with
  | false =>
    go_enter Try.func5, Try.ntmps5
    go_wp2_with (first
      | (go_at_call 7; refine (first32 _).mono ?_; rintro e w1 ⟨rfl, hb1⟩; have hB := HB0.out.trans (hb1.mono (by simp)); have hx1 := block_later HBX.out hb1; have k0 := cell_of_row _ _ 0 _ _ _ hx1; have k1 := cell_of_row _ _ 1 _ _ _ hx1; simp only [List.getElem?_toArray, List.getElem?_cons_zero, List.getElem?_cons_succ] at k0 k1; clear hb1 hx1)
      | (go_at_call 10; refine (list_any _ _ _ _).mono ?_; rintro e w2 ⟨v, xs, rfl, hxs, hown, _, hb2⟩; rw [HS.out] at hxs; obtain rfl : xs = [] := List.map_eq_nil_iff.1 hxs; obtain ⟨A, cap, g, rfl, _, _⟩ := own_at hown; have k0 := cell_later k0 hb2; have k1 := cell_later k1 hb2; have hB := below2 hB hb2; clear hb2 hown hxs)
      | (go_at_call 12; refine (right_any _ _ _).mono ?_; rw [hr]; rintro e w3 ⟨rfl, hb3⟩; have hB := below2 hB hb3; clear hb3))
    go_ret
    exact ⟨rfl, hB⟩
  | true =>
    obtain rfl := HQ.out hr
    go_enter Try.func5, Try.ntmps5
    go_wp2_with (first
      | (go_at_call 7; refine (first32 _).mono ?_; rintro e w1 ⟨rfl, hb1⟩; have hB := HB0.out.trans (hb1.mono (by simp)); have hx1 := block_later HBX.out hb1; have k0 := cell_of_row _ _ 0 _ _ _ hx1; have k1 := cell_of_row _ _ 1 _ _ _ hx1; simp only [List.getElem?_toArray, List.getElem?_cons_zero, List.getElem?_cons_succ] at k0 k1; clear hb1 hx1)
      | (go_at_call 10; refine (list_any _ _ _ _).mono ?_; rintro e w2 ⟨v, xs, rfl, hxs, hown, _, hb2⟩; rw [HS.out] at hxs; obtain rfl : xs = [] := List.map_eq_nil_iff.1 hxs; obtain ⟨A, cap, g, rfl, _, _⟩ := own_at hown; have k0 := cell_later k0 hb2; have k1 := cell_later k1 hb2; have hB := below2 hB hb2; clear hb2 hown hxs)
      | (go_at_call 12; refine (right_any _ _ _).mono ?_; rw [hr]; rintro e w3 ⟨rfl, hb3⟩; have hB := below2 hB hb3; clear hb3))
    go_ret
    exact ⟨rfl, hB⟩
end Go.Proofs.Ytmnkbcigjbiniaa.gopHolds
