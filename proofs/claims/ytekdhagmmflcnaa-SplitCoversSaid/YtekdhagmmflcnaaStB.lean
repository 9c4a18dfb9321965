/- The second closure of SplitStops. -/
import Derived.Test.YtekdhagmmflcnaaStA
namespace Go.Proofs.Ytekdhagmmflcnaa
open Go.RowKit

set_option maxHeartbeats 2000000 in
theorem stops2_any (p0 p1 p2 p3 stop : Int) (k len cap g : Nat) (bo bk bl bs : Nat) (w : World) (ho : Boxed w bo 4 (.bool true)) (hn : Boxed w bk 3 (.int .i64 k)) (hl : Boxed w bl 24 (.slice (some ⟨g, 0, none⟩) len cap)) (hs : Boxed w bs 3 (.int .i64 stop))
    (f0 : w.cell? ⟨g, k * 4, none⟩ = some (.int .i64 p0)) (f1 : w.cell? ⟨g, k * 4 + 1, none⟩ = some (.int .i64 p1)) (f2 : w.cell? ⟨g, k * 4 + 2, none⟩ = some (.int .i64 p2)) (f3 : w.cell? ⟨g, k * 4 + 3, none⟩ = some (.int .i64 p3))
    (hkl : k < len) (hlen : len ≤ 4096) (hne : bo ≠ bk ∧ bs ≠ bk ∧ bs ≠ bo) :
    Calls Try.prog 16 #[.int .i64 k, .agg #[.int .i64 p0, .int .i64 p1, .int .i64 p2, .int .i64 p3], .pointer (some ⟨bo, 0, none⟩), .pointer (some ⟨bk, 0, none⟩), .pointer (some ⟨bl, 0, none⟩), .pointer (some ⟨bs, 0, none⟩)] w fun e w' =>
      e = .returned (.bool ((k : Int) + 1 != stop)) ∧ w' = (((w.alloc (.cells #[.int .i64 p0, .int .i64 p1, .int .i64 p2, .int .i64 p3] 28)).setCell ⟨bo, 0, none⟩ (.bool true)).setCell ⟨bk, 0, none⟩ (.int .i64 ((k : Int) + 1))).drewN 1 := by
  have k1 := (ho.alloc (.cells #[.int .i64 p0, .int .i64 p1, .int .i64 p2, .int .i64 p3] 28)).cell
  have k1f := (ho.alloc (.cells #[.int .i64 p0, .int .i64 p1, .int .i64 p2, .int .i64 p3] 28)).frozen
  have k2 := (hn.alloc (.cells #[.int .i64 p0, .int .i64 p1, .int .i64 p2, .int .i64 p3] 28)).cell
  have k2f := (hn.alloc (.cells #[.int .i64 p0, .int .i64 p1, .int .i64 p2, .int .i64 p3] 28)).frozen
  have k3 := (hl.alloc (.cells #[.int .i64 p0, .int .i64 p1, .int .i64 p2, .int .i64 p3] 28)).cell
  have k7 := (hs.alloc (.cells #[.int .i64 p0, .int .i64 p1, .int .i64 p2, .int .i64 p3] 28)).cell
  have hB : Below w.heap.size w (w.alloc (.cells #[.int .i64 p0, .int .i64 p1, .int .i64 p2, .int .i64 p3] 28)) := (Below.refl _ w).alloc (Nat.le_refl _) _
  replace f0 := (hB.cell (block_lt_of_cell f0)).trans f0
  replace f1 := (hB.cell (block_lt_of_cell f1)).trans f1
  replace f2 := (hB.cell (block_lt_of_cell f2)).trans f2
  replace f3 := (hB.cell (block_lt_of_cell f3)).trans f3
  have hq := heap_alloc_new w (.cells #[.int .i64 p0, .int .i64 p1, .int .i64 p2, .int .i64 p3] 28)
  have q0 : (w.alloc (.cells #[.int .i64 p0, .int .i64 p1, .int .i64 p2, .int .i64 p3] 28)).cell? ⟨w.heap.size, 0, none⟩ = some (.int .i64 p0) := cell_of_row _ _ 0 _ _ _ hq
  have q1 : (w.alloc (.cells #[.int .i64 p0, .int .i64 p1, .int .i64 p2, .int .i64 p3] 28)).cell? ⟨w.heap.size, 1, none⟩ = some (.int .i64 p1) := cell_of_row _ _ 1 _ _ _ hq
  have q2 : (w.alloc (.cells #[.int .i64 p0, .int .i64 p1, .int .i64 p2, .int .i64 p3] 28)).cell? ⟨w.heap.size, 2, none⟩ = some (.int .i64 p2) := cell_of_row _ _ 2 _ _ _ hq
  have q3 : (w.alloc (.cells #[.int .i64 p0, .int .i64 p1, .int .i64 p2, .int .i64 p3] 28)).cell? ⟨w.heap.size, 3, none⟩ = some (.int .i64 p3) := cell_of_row _ _ 3 _ _ _ hq
  obtain ⟨n1, n2, n3⟩ := hne
  have n1' := n1.symm
  have hkl' : (k : Int) < len := by omega
  clear ho hn hl hs hq hB
  go_enter Try.func16, Try.ntmps16
  go_wp2
  generalize hW : w.alloc (.cells #[.int .i64 p0, .int .i64 p1, .int .i64 p2, .int .i64 p3] 28) = W1 at *
  generalize w.heap.size = bq at *
  go_still_tail 20, (by kernel_rfl)
  try refine wpStill_nil ?_
  go_wp2
  go_ret
  exact ⟨rfl, by rw [hW]; rfl⟩

end Go.Proofs.Ytekdhagmmflcnaa
