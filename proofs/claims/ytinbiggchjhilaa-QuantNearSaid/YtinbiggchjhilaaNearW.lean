/- The walk of the law QuantNear: it returns true. -/
import Derived.Test.YtinbiggchjhilaaQuc
namespace Go.Proofs.Ytinbiggchjhilaa.quantNear
open Go.RowKit
set_option linter.unusedVariables false

set_option maxHeartbeats 1000000 in
theorem core_nl0 (w : World) (v x : Int) (b : Bool) (s1 : v < 0) (s2 : backI (thereI v 0) 0 b ≤ 0) (m1 : x < v) (q2 : (backI (thereI v 0) 0 b - v != 0) = false) (q3 : (v - backI (thereI v 0) 0 b != 0) = false) (q4 : backI (thereI v 0) 0 b ≤ v) (q5 : v ≤ backI (thereI v 0) 0 b) (c1 : -2199023255550 ≤ v) (c2 : v ≤ 2199023255550) (c3 : -2199023255550 ≤ x) (c4 : x ≤ 2199023255550) (hb1 : -2199023255550 ≤ thereI v 0 ∧ thereI v 0 ≤ 2199023255550) (hb2 : -2199023255550 ≤ thereI x 0 ∧ thereI x 0 ≤ 2199023255550) (hf : 0 ≤ facI 0 ∧ facI 0 ≤ 300000) (hn1 : backI (thereI v 0) 0 b - v ≤ facI 0 / 4 + 1) (hn2 : v - backI (thereI v 0) 0 b ≤ facI 0 / 4 + 1) :
    Calls Try.prog 7 #[.agg #[.int .i64 v, .int .i64 x], .int .i64 0, .bool b] w fun e w' => e = .returned (.bool true) ∧ Below w.heap.size w w' := by
  have hB : Below w.heap.size w (w.alloc (.cells #[.int .i64 v, .int .i64 x] 37)) := (Below.refl _ w).alloc (Nat.le_refl _) _
  have hcell0 : (w.alloc (.cells #[.int .i64 v, .int .i64 x] 37)).cell? ⟨w.heap.size, 0, none⟩ = some (.int .i64 v) := cell_of_row _ _ _ _ _ _ (heap_alloc_new w _)
  have hcell1 : (w.alloc (.cells #[.int .i64 v, .int .i64 x] 37)).cell? ⟨w.heap.size, 1, none⟩ = some (.int .i64 x) := cell_of_row _ _ _ _ _ _ (heap_alloc_new w _)
  have hlt : w.heap.size < (w.alloc (.cells #[.int .i64 v, .int .i64 x] 37)).heap.size := by simp
  go_enter Try.func7, Try.ntmps7
  go_wp2_with (go_at_call 22; refine (first11 _).mono ?_; rintro e w2 ⟨rfl, hb2⟩; have k0 := (hb2.cell (p := ⟨w.heap.size, 0, none⟩) hlt).trans hcell0; have k1 := (hb2.cell (p := ⟨w.heap.size, 1, none⟩) hlt).trans hcell1; have hB := below2 hB hb2; clear hb2)
  go_quiet (fail)
  have hB := below_drewN hB nq
  clear k0 k1
  go_wp2_with (first
    | (go_at_call 18; refine (refFactor_any _ _).mono ?_; rintro e w' ⟨rfl, rfl⟩)
    | (go_at_call 23; refine (there_any _ _ _ (by omega)).mono ?_; rintro e w2 ⟨rfl, hb2⟩; have hB := below2 hB hb2; clear hb2)
    | (go_at_call 25; refine (back_any _ _ _ _ (by omega)).mono ?_; rintro e w2 ⟨rfl, hb2⟩; have hB := below2 hB hb2; clear hb2))
  all_goals
    go_ret
    exact ⟨rfl, by assumption⟩

set_option maxHeartbeats 1000000 in
theorem core_nlq (w : World) (v x q : Int) (b : Bool) (s1 : v < 0) (s2 : backI (thereI v q) q b ≤ 0) (m1 : x < v) (q1 : 1 ≤ q) (c1 : -2199023255550 ≤ v) (c2 : v ≤ 2199023255550) (c3 : -2199023255550 ≤ x) (c4 : x ≤ 2199023255550) (c6 : q ≤ 60) (hb1 : -2199023255550 ≤ thereI v q ∧ thereI v q ≤ 2199023255550) (hb2 : -2199023255550 ≤ thereI x q ∧ thereI x q ≤ 2199023255550) (hf : 0 ≤ facI q ∧ facI q ≤ 300000) (hn1 : backI (thereI v q) q b - v ≤ facI q / 4 + 1) (hn2 : v - backI (thereI v q) q b ≤ facI q / 4 + 1) :
    Calls Try.prog 7 #[.agg #[.int .i64 v, .int .i64 x], .int .i64 q, .bool b] w fun e w' => e = .returned (.bool true) ∧ Below w.heap.size w w' := by
  have hB : Below w.heap.size w (w.alloc (.cells #[.int .i64 v, .int .i64 x] 37)) := (Below.refl _ w).alloc (Nat.le_refl _) _
  have hcell0 : (w.alloc (.cells #[.int .i64 v, .int .i64 x] 37)).cell? ⟨w.heap.size, 0, none⟩ = some (.int .i64 v) := cell_of_row _ _ _ _ _ _ (heap_alloc_new w _)
  have hcell1 : (w.alloc (.cells #[.int .i64 v, .int .i64 x] 37)).cell? ⟨w.heap.size, 1, none⟩ = some (.int .i64 x) := cell_of_row _ _ _ _ _ _ (heap_alloc_new w _)
  have hlt : w.heap.size < (w.alloc (.cells #[.int .i64 v, .int .i64 x] 37)).heap.size := by simp
  go_enter Try.func7, Try.ntmps7
  go_wp2_with (go_at_call 22; refine (first11 _).mono ?_; rintro e w2 ⟨rfl, hb2⟩; have k0 := (hb2.cell (p := ⟨w.heap.size, 0, none⟩) hlt).trans hcell0; have k1 := (hb2.cell (p := ⟨w.heap.size, 1, none⟩) hlt).trans hcell1; have hB := below2 hB hb2; clear hb2)
  go_quiet (fail)
  have hB := below_drewN hB nq
  clear k0 k1
  go_wp2_with (first
    | (go_at_call 18; refine (refFactor_any _ _).mono ?_; rintro e w' ⟨rfl, rfl⟩)
    | (go_at_call 23; refine (there_any _ _ _ (by omega)).mono ?_; rintro e w2 ⟨rfl, hb2⟩; have hB := below2 hB hb2; clear hb2)
    | (go_at_call 25; refine (back_any _ _ _ _ (by omega)).mono ?_; rintro e w2 ⟨rfl, hb2⟩; have hB := below2 hB hb2; clear hb2))
  all_goals
    go_ret
    exact ⟨rfl, by assumption⟩

set_option maxHeartbeats 1000000 in
theorem core_ng0 (w : World) (v x : Int) (b : Bool) (s1 : v < 0) (s2 : backI (thereI v 0) 0 b ≤ 0) (m1 : v ≤ x) (m2 : thereI v 0 ≤ thereI x 0) (m3 : backI (thereI v 0) 0 b ≤ backI (thereI x 0) 0 b) (q2 : (backI (thereI v 0) 0 b - v != 0) = false) (q3 : (v - backI (thereI v 0) 0 b != 0) = false) (q4 : backI (thereI v 0) 0 b ≤ v) (q5 : v ≤ backI (thereI v 0) 0 b) (c1 : -2199023255550 ≤ v) (c2 : v ≤ 2199023255550) (c3 : -2199023255550 ≤ x) (c4 : x ≤ 2199023255550) (hb1 : -2199023255550 ≤ thereI v 0 ∧ thereI v 0 ≤ 2199023255550) (hb2 : -2199023255550 ≤ thereI x 0 ∧ thereI x 0 ≤ 2199023255550) (hf : 0 ≤ facI 0 ∧ facI 0 ≤ 300000) (hn1 : backI (thereI v 0) 0 b - v ≤ facI 0 / 4 + 1) (hn2 : v - backI (thereI v 0) 0 b ≤ facI 0 / 4 + 1) :
    Calls Try.prog 7 #[.agg #[.int .i64 v, .int .i64 x], .int .i64 0, .bool b] w fun e w' => e = .returned (.bool true) ∧ Below w.heap.size w w' := by
  have hB : Below w.heap.size w (w.alloc (.cells #[.int .i64 v, .int .i64 x] 37)) := (Below.refl _ w).alloc (Nat.le_refl _) _
  have hcell0 : (w.alloc (.cells #[.int .i64 v, .int .i64 x] 37)).cell? ⟨w.heap.size, 0, none⟩ = some (.int .i64 v) := cell_of_row _ _ _ _ _ _ (heap_alloc_new w _)
  have hcell1 : (w.alloc (.cells #[.int .i64 v, .int .i64 x] 37)).cell? ⟨w.heap.size, 1, none⟩ = some (.int .i64 x) := cell_of_row _ _ _ _ _ _ (heap_alloc_new w _)
  have hlt : w.heap.size < (w.alloc (.cells #[.int .i64 v, .int .i64 x] 37)).heap.size := by simp
  go_enter Try.func7, Try.ntmps7
  go_wp2_with (go_at_call 22; refine (first11 _).mono ?_; rintro e w2 ⟨rfl, hb2⟩; have k0 := (hb2.cell (p := ⟨w.heap.size, 0, none⟩) hlt).trans hcell0; have k1 := (hb2.cell (p := ⟨w.heap.size, 1, none⟩) hlt).trans hcell1; have hB := below2 hB hb2; clear hb2)
  go_quiet (fail)
  have hB := below_drewN hB nq
  clear k0 k1
  go_wp2_with (first
    | (go_at_call 18; refine (refFactor_any _ _).mono ?_; rintro e w' ⟨rfl, rfl⟩)
    | (go_at_call 23; refine (there_any _ _ _ (by omega)).mono ?_; rintro e w2 ⟨rfl, hb2⟩; have hB := below2 hB hb2; clear hb2)
    | (go_at_call 25; refine (back_any _ _ _ _ (by omega)).mono ?_; rintro e w2 ⟨rfl, hb2⟩; have hB := below2 hB hb2; clear hb2))
  all_goals
    go_ret
    exact ⟨rfl, by assumption⟩

set_option maxHeartbeats 1000000 in
theorem core_ngq (w : World) (v x q : Int) (b : Bool) (s1 : v < 0) (s2 : backI (thereI v q) q b ≤ 0) (m1 : v ≤ x) (m2 : thereI v q ≤ thereI x q) (m3 : backI (thereI v q) q b ≤ backI (thereI x q) q b) (q1 : 1 ≤ q) (c1 : -2199023255550 ≤ v) (c2 : v ≤ 2199023255550) (c3 : -2199023255550 ≤ x) (c4 : x ≤ 2199023255550) (c6 : q ≤ 60) (hb1 : -2199023255550 ≤ thereI v q ∧ thereI v q ≤ 2199023255550) (hb2 : -2199023255550 ≤ thereI x q ∧ thereI x q ≤ 2199023255550) (hf : 0 ≤ facI q ∧ facI q ≤ 300000) (hn1 : backI (thereI v q) q b - v ≤ facI q / 4 + 1) (hn2 : v - backI (thereI v q) q b ≤ facI q / 4 + 1) :
    Calls Try.prog 7 #[.agg #[.int .i64 v, .int .i64 x], .int .i64 q, .bool b] w fun e w' => e = .returned (.bool true) ∧ Below w.heap.size w w' := by
  have hB : Below w.heap.size w (w.alloc (.cells #[.int .i64 v, .int .i64 x] 37)) := (Below.refl _ w).alloc (Nat.le_refl _) _
  have hcell0 : (w.alloc (.cells #[.int .i64 v, .int .i64 x] 37)).cell? ⟨w.heap.size, 0, none⟩ = some (.int .i64 v) := cell_of_row _ _ _ _ _ _ (heap_alloc_new w _)
  have hcell1 : (w.alloc (.cells #[.int .i64 v, .int .i64 x] 37)).cell? ⟨w.heap.size, 1, none⟩ = some (.int .i64 x) := cell_of_row _ _ _ _ _ _ (heap_alloc_new w _)
  have hlt : w.heap.size < (w.alloc (.cells #[.int .i64 v, .int .i64 x] 37)).heap.size := by simp
  go_enter Try.func7, Try.ntmps7
  go_wp2_with (go_at_call 22; refine (first11 _).mono ?_; rintro e w2 ⟨rfl, hb2⟩; have k0 := (hb2.cell (p := ⟨w.heap.size, 0, none⟩) hlt).trans hcell0; have k1 := (hb2.cell (p := ⟨w.heap.size, 1, none⟩) hlt).trans hcell1; have hB := below2 hB hb2; clear hb2)
  go_quiet (fail)
  have hB := below_drewN hB nq
  clear k0 k1
  go_wp2_with (first
    | (go_at_call 18; refine (refFactor_any _ _).mono ?_; rintro e w' ⟨rfl, rfl⟩)
    | (go_at_call 23; refine (there_any _ _ _ (by omega)).mono ?_; rintro e w2 ⟨rfl, hb2⟩; have hB := below2 hB hb2; clear hb2)
    | (go_at_call 25; refine (back_any _ _ _ _ (by omega)).mono ?_; rintro e w2 ⟨rfl, hb2⟩; have hB := below2 hB hb2; clear hb2))
  all_goals
    go_ret
    exact ⟨rfl, by assumption⟩

set_option maxHeartbeats 1000000 in
theorem core_zl0 (w : World) (v x : Int) (b : Bool) (s1 : 0 ≤ v) (s2 : v ≤ 0) (s3 : 0 ≤ backI (thereI v 0) 0 b) (s4 : backI (thereI v 0) 0 b ≤ 0) (m1 : x < v) (q2 : (backI (thereI v 0) 0 b - v != 0) = false) (q3 : (v - backI (thereI v 0) 0 b != 0) = false) (q4 : backI (thereI v 0) 0 b ≤ v) (q5 : v ≤ backI (thereI v 0) 0 b) (c1 : -2199023255550 ≤ v) (c2 : v ≤ 2199023255550) (c3 : -2199023255550 ≤ x) (c4 : x ≤ 2199023255550) (hb1 : -2199023255550 ≤ thereI v 0 ∧ thereI v 0 ≤ 2199023255550) (hb2 : -2199023255550 ≤ thereI x 0 ∧ thereI x 0 ≤ 2199023255550) (hf : 0 ≤ facI 0 ∧ facI 0 ≤ 300000) (hn1 : backI (thereI v 0) 0 b - v ≤ facI 0 / 4 + 1) (hn2 : v - backI (thereI v 0) 0 b ≤ facI 0 / 4 + 1) :
    Calls Try.prog 7 #[.agg #[.int .i64 v, .int .i64 x], .int .i64 0, .bool b] w fun e w' => e = .returned (.bool true) ∧ Below w.heap.size w w' := by
  have hB : Below w.heap.size w (w.alloc (.cells #[.int .i64 v, .int .i64 x] 37)) := (Below.refl _ w).alloc (Nat.le_refl _) _
  have hcell0 : (w.alloc (.cells #[.int .i64 v, .int .i64 x] 37)).cell? ⟨w.heap.size, 0, none⟩ = some (.int .i64 v) := cell_of_row _ _ _ _ _ _ (heap_alloc_new w _)
  have hcell1 : (w.alloc (.cells #[.int .i64 v, .int .i64 x] 37)).cell? ⟨w.heap.size, 1, none⟩ = some (.int .i64 x) := cell_of_row _ _ _ _ _ _ (heap_alloc_new w _)
  have hlt : w.heap.size < (w.alloc (.cells #[.int .i64 v, .int .i64 x] 37)).heap.size := by simp
  go_enter Try.func7, Try.ntmps7
  go_wp2_with (go_at_call 22; refine (first11 _).mono ?_; rintro e w2 ⟨rfl, hb2⟩; have k0 := (hb2.cell (p := ⟨w.heap.size, 0, none⟩) hlt).trans hcell0; have k1 := (hb2.cell (p := ⟨w.heap.size, 1, none⟩) hlt).trans hcell1; have hB := below2 hB hb2; clear hb2)
  go_quiet (fail)
  have hB := below_drewN hB nq
  clear k0 k1
  go_wp2_with (first
    | (go_at_call 18; refine (refFactor_any _ _).mono ?_; rintro e w' ⟨rfl, rfl⟩)
    | (go_at_call 23; refine (there_any _ _ _ (by omega)).mono ?_; rintro e w2 ⟨rfl, hb2⟩; have hB := below2 hB hb2; clear hb2)
    | (go_at_call 25; refine (back_any _ _ _ _ (by omega)).mono ?_; rintro e w2 ⟨rfl, hb2⟩; have hB := below2 hB hb2; clear hb2))
  all_goals
    go_ret
    exact ⟨rfl, by assumption⟩

set_option maxHeartbeats 1000000 in
theorem core_zlq (w : World) (v x q : Int) (b : Bool) (s1 : 0 ≤ v) (s2 : v ≤ 0) (s3 : 0 ≤ backI (thereI v q) q b) (s4 : backI (thereI v q) q b ≤ 0) (m1 : x < v) (q1 : 1 ≤ q) (c1 : -2199023255550 ≤ v) (c2 : v ≤ 2199023255550) (c3 : -2199023255550 ≤ x) (c4 : x ≤ 2199023255550) (c6 : q ≤ 60) (hb1 : -2199023255550 ≤ thereI v q ∧ thereI v q ≤ 2199023255550) (hb2 : -2199023255550 ≤ thereI x q ∧ thereI x q ≤ 2199023255550) (hf : 0 ≤ facI q ∧ facI q ≤ 300000) (hn1 : backI (thereI v q) q b - v ≤ facI q / 4 + 1) (hn2 : v - backI (thereI v q) q b ≤ facI q / 4 + 1) :
    Calls Try.prog 7 #[.agg #[.int .i64 v, .int .i64 x], .int .i64 q, .bool b] w fun e w' => e = .returned (.bool true) ∧ Below w.heap.size w w' := by
  have hB : Below w.heap.size w (w.alloc (.cells #[.int .i64 v, .int .i64 x] 37)) := (Below.refl _ w).alloc (Nat.le_refl _) _
  have hcell0 : (w.alloc (.cells #[.int .i64 v, .int .i64 x] 37)).cell? ⟨w.heap.size, 0, none⟩ = some (.int .i64 v) := cell_of_row _ _ _ _ _ _ (heap_alloc_new w _)
  have hcell1 : (w.alloc (.cells #[.int .i64 v, .int .i64 x] 37)).cell? ⟨w.heap.size, 1, none⟩ = some (.int .i64 x) := cell_of_row _ _ _ _ _ _ (heap_alloc_new w _)
  have hlt : w.heap.size < (w.alloc (.cells #[.int .i64 v, .int .i64 x] 37)).heap.size := by simp
  go_enter Try.func7, Try.ntmps7
  go_wp2_with (go_at_call 22; refine (first11 _).mono ?_; rintro e w2 ⟨rfl, hb2⟩; have k0 := (hb2.cell (p := ⟨w.heap.size, 0, none⟩) hlt).trans hcell0; have k1 := (hb2.cell (p := ⟨w.heap.size, 1, none⟩) hlt).trans hcell1; have hB := below2 hB hb2; clear hb2)
  go_quiet (fail)
  have hB := below_drewN hB nq
  clear k0 k1
  go_wp2_with (first
    | (go_at_call 18; refine (refFactor_any _ _).mono ?_; rintro e w' ⟨rfl, rfl⟩)
    | (go_at_call 23; refine (there_any _ _ _ (by omega)).mono ?_; rintro e w2 ⟨rfl, hb2⟩; have hB := below2 hB hb2; clear hb2)
    | (go_at_call 25; refine (back_any _ _ _ _ (by omega)).mono ?_; rintro e w2 ⟨rfl, hb2⟩; have hB := below2 hB hb2; clear hb2))
  all_goals
    go_ret
    exact ⟨rfl, by assumption⟩

set_option maxHeartbeats 1000000 in
theorem core_zg0 (w : World) (v x : Int) (b : Bool) (s1 : 0 ≤ v) (s2 : v ≤ 0) (s3 : 0 ≤ backI (thereI v 0) 0 b) (s4 : backI (thereI v 0) 0 b ≤ 0) (m1 : v ≤ x) (m2 : thereI v 0 ≤ thereI x 0) (m3 : backI (thereI v 0) 0 b ≤ backI (thereI x 0) 0 b) (q2 : (backI (thereI v 0) 0 b - v != 0) = false) (q3 : (v - backI (thereI v 0) 0 b != 0) = false) (q4 : backI (thereI v 0) 0 b ≤ v) (q5 : v ≤ backI (thereI v 0) 0 b) (c1 : -2199023255550 ≤ v) (c2 : v ≤ 2199023255550) (c3 : -2199023255550 ≤ x) (c4 : x ≤ 2199023255550) (hb1 : -2199023255550 ≤ thereI v 0 ∧ thereI v 0 ≤ 2199023255550) (hb2 : -2199023255550 ≤ thereI x 0 ∧ thereI x 0 ≤ 2199023255550) (hf : 0 ≤ facI 0 ∧ facI 0 ≤ 300000) (hn1 : backI (thereI v 0) 0 b - v ≤ facI 0 / 4 + 1) (hn2 : v - backI (thereI v 0) 0 b ≤ facI 0 / 4 + 1) :
    Calls Try.prog 7 #[.agg #[.int .i64 v, .int .i64 x], .int .i64 0, .bool b] w fun e w' => e = .returned (.bool true) ∧ Below w.heap.size w w' := by
  have hB : Below w.heap.size w (w.alloc (.cells #[.int .i64 v, .int .i64 x] 37)) := (Below.refl _ w).alloc (Nat.le_refl _) _
  have hcell0 : (w.alloc (.cells #[.int .i64 v, .int .i64 x] 37)).cell? ⟨w.heap.size, 0, none⟩ = some (.int .i64 v) := cell_of_row _ _ _ _ _ _ (heap_alloc_new w _)
  have hcell1 : (w.alloc (.cells #[.int .i64 v, .int .i64 x] 37)).cell? ⟨w.heap.size, 1, none⟩ = some (.int .i64 x) := cell_of_row _ _ _ _ _ _ (heap_alloc_new w _)
  have hlt : w.heap.size < (w.alloc (.cells #[.int .i64 v, .int .i64 x] 37)).heap.size := by simp
  go_enter Try.func7, Try.ntmps7
  go_wp2_with (go_at_call 22; refine (first11 _).mono ?_; rintro e w2 ⟨rfl, hb2⟩; have k0 := (hb2.cell (p := ⟨w.heap.size, 0, none⟩) hlt).trans hcell0; have k1 := (hb2.cell (p := ⟨w.heap.size, 1, none⟩) hlt).trans hcell1; have hB := below2 hB hb2; clear hb2)
  go_quiet (fail)
  have hB := below_drewN hB nq
  clear k0 k1
  go_wp2_with (first
    | (go_at_call 18; refine (refFactor_any _ _).mono ?_; rintro e w' ⟨rfl, rfl⟩)
    | (go_at_call 23; refine (there_any _ _ _ (by omega)).mono ?_; rintro e w2 ⟨rfl, hb2⟩; have hB := below2 hB hb2; clear hb2)
    | (go_at_call 25; refine (back_any _ _ _ _ (by omega)).mono ?_; rintro e w2 ⟨rfl, hb2⟩; have hB := below2 hB hb2; clear hb2))
  all_goals
    go_ret
    exact ⟨rfl, by assumption⟩

set_option maxHeartbeats 1000000 in
theorem core_zgq (w : World) (v x q : Int) (b : Bool) (s1 : 0 ≤ v) (s2 : v ≤ 0) (s3 : 0 ≤ backI (thereI v q) q b) (s4 : backI (thereI v q) q b ≤ 0) (m1 : v ≤ x) (m2 : thereI v q ≤ thereI x q) (m3 : backI (thereI v q) q b ≤ backI (thereI x q) q b) (q1 : 1 ≤ q) (c1 : -2199023255550 ≤ v) (c2 : v ≤ 2199023255550) (c3 : -2199023255550 ≤ x) (c4 : x ≤ 2199023255550) (c6 : q ≤ 60) (hb1 : -2199023255550 ≤ thereI v q ∧ thereI v q ≤ 2199023255550) (hb2 : -2199023255550 ≤ thereI x q ∧ thereI x q ≤ 2199023255550) (hf : 0 ≤ facI q ∧ facI q ≤ 300000) (hn1 : backI (thereI v q) q b - v ≤ facI q / 4 + 1) (hn2 : v - backI (thereI v q) q b ≤ facI q / 4 + 1) :
    Calls Try.prog 7 #[.agg #[.int .i64 v, .int .i64 x], .int .i64 q, .bool b] w fun e w' => e = .returned (.bool true) ∧ Below w.heap.size w w' := by
  have hB : Below w.heap.size w (w.alloc (.cells #[.int .i64 v, .int .i64 x] 37)) := (Below.refl _ w).alloc (Nat.le_refl _) _
  have hcell0 : (w.alloc (.cells #[.int .i64 v, .int .i64 x] 37)).cell? ⟨w.heap.size, 0, none⟩ = some (.int .i64 v) := cell_of_row _ _ _ _ _ _ (heap_alloc_new w _)
  have hcell1 : (w.alloc (.cells #[.int .i64 v, .int .i64 x] 37)).cell? ⟨w.heap.size, 1, none⟩ = some (.int .i64 x) := cell_of_row _ _ _ _ _ _ (heap_alloc_new w _)
  have hlt : w.heap.size < (w.alloc (.cells #[.int .i64 v, .int .i64 x] 37)).heap.size := by simp
  go_enter Try.func7, Try.ntmps7
  go_wp2_with (go_at_call 22; refine (first11 _).mono ?_; rintro e w2 ⟨rfl, hb2⟩; have k0 := (hb2.cell (p := ⟨w.heap.size, 0, none⟩) hlt).trans hcell0; have k1 := (hb2.cell (p := ⟨w.heap.size, 1, none⟩) hlt).trans hcell1; have hB := below2 hB hb2; clear hb2)
  go_quiet (fail)
  have hB := below_drewN hB nq
  clear k0 k1
  go_wp2_with (first
    | (go_at_call 18; refine (refFactor_any _ _).mono ?_; rintro e w' ⟨rfl, rfl⟩)
    | (go_at_call 23; refine (there_any _ _ _ (by omega)).mono ?_; rintro e w2 ⟨rfl, hb2⟩; have hB := below2 hB hb2; clear hb2)
    | (go_at_call 25; refine (back_any _ _ _ _ (by omega)).mono ?_; rintro e w2 ⟨rfl, hb2⟩; have hB := below2 hB hb2; clear hb2))
  all_goals
    go_ret
    exact ⟨rfl, by assumption⟩

set_option maxHeartbeats 1000000 in
theorem core_pl0 (w : World) (v x : Int) (b : Bool) (s1 : 0 < v) (s2 : 0 ≤ backI (thereI v 0) 0 b) (m1 : x < v) (q2 : (backI (thereI v 0) 0 b - v != 0) = false) (q3 : (v - backI (thereI v 0) 0 b != 0) = false) (q4 : backI (thereI v 0) 0 b ≤ v) (q5 : v ≤ backI (thereI v 0) 0 b) (c1 : -2199023255550 ≤ v) (c2 : v ≤ 2199023255550) (c3 : -2199023255550 ≤ x) (c4 : x ≤ 2199023255550) (hb1 : -2199023255550 ≤ thereI v 0 ∧ thereI v 0 ≤ 2199023255550) (hb2 : -2199023255550 ≤ thereI x 0 ∧ thereI x 0 ≤ 2199023255550) (hf : 0 ≤ facI 0 ∧ facI 0 ≤ 300000) (hn1 : backI (thereI v 0) 0 b - v ≤ facI 0 / 4 + 1) (hn2 : v - backI (thereI v 0) 0 b ≤ facI 0 / 4 + 1) :
    Calls Try.prog 7 #[.agg #[.int .i64 v, .int .i64 x], .int .i64 0, .bool b] w fun e w' => e = .returned (.bool true) ∧ Below w.heap.size w w' := by
  have hB : Below w.heap.size w (w.alloc (.cells #[.int .i64 v, .int .i64 x] 37)) := (Below.refl _ w).alloc (Nat.le_refl _) _
  have hcell0 : (w.alloc (.cells #[.int .i64 v, .int .i64 x] 37)).cell? ⟨w.heap.size, 0, none⟩ = some (.int .i64 v) := cell_of_row _ _ _ _ _ _ (heap_alloc_new w _)
  have hcell1 : (w.alloc (.cells #[.int .i64 v, .int .i64 x] 37)).cell? ⟨w.heap.size, 1, none⟩ = some (.int .i64 x) := cell_of_row _ _ _ _ _ _ (heap_alloc_new w _)
  have hlt : w.heap.size < (w.alloc (.cells #[.int .i64 v, .int .i64 x] 37)).heap.size := by simp
  go_enter Try.func7, Try.ntmps7
  go_wp2_with (go_at_call 22; refine (first11 _).mono ?_; rintro e w2 ⟨rfl, hb2⟩; have k0 := (hb2.cell (p := ⟨w.heap.size, 0, none⟩) hlt).trans hcell0; have k1 := (hb2.cell (p := ⟨w.heap.size, 1, none⟩) hlt).trans hcell1; have hB := below2 hB hb2; clear hb2)
  go_quiet (fail)
  have hB := below_drewN hB nq
  clear k0 k1
  go_wp2_with (first
    | (go_at_call 18; refine (refFactor_any _ _).mono ?_; rintro e w' ⟨rfl, rfl⟩)
    | (go_at_call 23; refine (there_any _ _ _ (by omega)).mono ?_; rintro e w2 ⟨rfl, hb2⟩; have hB := below2 hB hb2; clear hb2)
    | (go_at_call 25; refine (back_any _ _ _ _ (by omega)).mono ?_; rintro e w2 ⟨rfl, hb2⟩; have hB := below2 hB hb2; clear hb2))
  all_goals
    go_ret
    exact ⟨rfl, by assumption⟩

set_option maxHeartbeats 1000000 in
theorem core_plq (w : World) (v x q : Int) (b : Bool) (s1 : 0 < v) (s2 : 0 ≤ backI (thereI v q) q b) (m1 : x < v) (q1 : 1 ≤ q) (c1 : -2199023255550 ≤ v) (c2 : v ≤ 2199023255550) (c3 : -2199023255550 ≤ x) (c4 : x ≤ 2199023255550) (c6 : q ≤ 60) (hb1 : -2199023255550 ≤ thereI v q ∧ thereI v q ≤ 2199023255550) (hb2 : -2199023255550 ≤ thereI x q ∧ thereI x q ≤ 2199023255550) (hf : 0 ≤ facI q ∧ facI q ≤ 300000) (hn1 : backI (thereI v q) q b - v ≤ facI q / 4 + 1) (hn2 : v - backI (thereI v q) q b ≤ facI q / 4 + 1) :
    Calls Try.prog 7 #[.agg #[.int .i64 v, .int .i64 x], .int .i64 q, .bool b] w fun e w' => e = .returned (.bool true) ∧ Below w.heap.size w w' := by
  have hB : Below w.heap.size w (w.alloc (.cells #[.int .i64 v, .int .i64 x] 37)) := (Below.refl _ w).alloc (Nat.le_refl _) _
  have hcell0 : (w.alloc (.cells #[.int .i64 v, .int .i64 x] 37)).cell? ⟨w.heap.size, 0, none⟩ = some (.int .i64 v) := cell_of_row _ _ _ _ _ _ (heap_alloc_new w _)
  have hcell1 : (w.alloc (.cells #[.int .i64 v, .int .i64 x] 37)).cell? ⟨w.heap.size, 1, none⟩ = some (.int .i64 x) := cell_of_row _ _ _ _ _ _ (heap_alloc_new w _)
  have hlt : w.heap.size < (w.alloc (.cells #[.int .i64 v, .int .i64 x] 37)).heap.size := by simp
  go_enter Try.func7, Try.ntmps7
  go_wp2_with (go_at_call 22; refine (first11 _).mono ?_; rintro e w2 ⟨rfl, hb2⟩; have k0 := (hb2.cell (p := ⟨w.heap.size, 0, none⟩) hlt).trans hcell0; have k1 := (hb2.cell (p := ⟨w.heap.size, 1, none⟩) hlt).trans hcell1; have hB := below2 hB hb2; clear hb2)
  go_quiet (fail)
  have hB := below_drewN hB nq
  clear k0 k1
  go_wp2_with (first
    | (go_at_call 18; refine (refFactor_any _ _).mono ?_; rintro e w' ⟨rfl, rfl⟩)
    | (go_at_call 23; refine (there_any _ _ _ (by omega)).mono ?_; rintro e w2 ⟨rfl, hb2⟩; have hB := below2 hB hb2; clear hb2)
    | (go_at_call 25; refine (back_any _ _ _ _ (by omega)).mono ?_; rintro e w2 ⟨rfl, hb2⟩; have hB := below2 hB hb2; clear hb2))
  all_goals
    go_ret
    exact ⟨rfl, by assumption⟩

set_option maxHeartbeats 1000000 in
theorem core_pg0 (w : World) (v x : Int) (b : Bool) (s1 : 0 < v) (s2 : 0 ≤ backI (thereI v 0) 0 b) (m1 : v ≤ x) (m2 : thereI v 0 ≤ thereI x 0) (m3 : backI (thereI v 0) 0 b ≤ backI (thereI x 0) 0 b) (q2 : (backI (thereI v 0) 0 b - v != 0) = false) (q3 : (v - backI (thereI v 0) 0 b != 0) = false) (q4 : backI (thereI v 0) 0 b ≤ v) (q5 : v ≤ backI (thereI v 0) 0 b) (c1 : -2199023255550 ≤ v) (c2 : v ≤ 2199023255550) (c3 : -2199023255550 ≤ x) (c4 : x ≤ 2199023255550) (hb1 : -2199023255550 ≤ thereI v 0 ∧ thereI v 0 ≤ 2199023255550) (hb2 : -2199023255550 ≤ thereI x 0 ∧ thereI x 0 ≤ 2199023255550) (hf : 0 ≤ facI 0 ∧ facI 0 ≤ 300000) (hn1 : backI (thereI v 0) 0 b - v ≤ facI 0 / 4 + 1) (hn2 : v - backI (thereI v 0) 0 b ≤ facI 0 / 4 + 1) :
    Calls Try.prog 7 #[.agg #[.int .i64 v, .int .i64 x], .int .i64 0, .bool b] w fun e w' => e = .returned (.bool true) ∧ Below w.heap.size w w' := by
  have hB : Below w.heap.size w (w.alloc (.cells #[.int .i64 v, .int .i64 x] 37)) := (Below.refl _ w).alloc (Nat.le_refl _) _
  have hcell0 : (w.alloc (.cells #[.int .i64 v, .int .i64 x] 37)).cell? ⟨w.heap.size, 0, none⟩ = some (.int .i64 v) := cell_of_row _ _ _ _ _ _ (heap_alloc_new w _)
  have hcell1 : (w.alloc (.cells #[.int .i64 v, .int .i64 x] 37)).cell? ⟨w.heap.size, 1, none⟩ = some (.int .i64 x) := cell_of_row _ _ _ _ _ _ (heap_alloc_new w _)
  have hlt : w.heap.size < (w.alloc (.cells #[.int .i64 v, .int .i64 x] 37)).heap.size := by simp
  go_enter Try.func7, Try.ntmps7
  go_wp2_with (go_at_call 22; refine (first11 _).mono ?_; rintro e w2 ⟨rfl, hb2⟩; have k0 := (hb2.cell (p := ⟨w.heap.size, 0, none⟩) hlt).trans hcell0; have k1 := (hb2.cell (p := ⟨w.heap.size, 1, none⟩) hlt).trans hcell1; have hB := below2 hB hb2; clear hb2)
  go_quiet (fail)
  have hB := below_drewN hB nq
  clear k0 k1
  go_wp2_with (first
    | (go_at_call 18; refine (refFactor_any _ _).mono ?_; rintro e w' ⟨rfl, rfl⟩)
    | (go_at_call 23; refine (there_any _ _ _ (by omega)).mono ?_; rintro e w2 ⟨rfl, hb2⟩; have hB := below2 hB hb2; clear hb2)
    | (go_at_call 25; refine (back_any _ _ _ _ (by omega)).mono ?_; rintro e w2 ⟨rfl, hb2⟩; have hB := below2 hB hb2; clear hb2))
  all_goals
    go_ret
    exact ⟨rfl, by assumption⟩

set_option maxHeartbeats 1000000 in
theorem core_pgq (w : World) (v x q : Int) (b : Bool) (s1 : 0 < v) (s2 : 0 ≤ backI (thereI v q) q b) (m1 : v ≤ x) (m2 : thereI v q ≤ thereI x q) (m3 : backI (thereI v q) q b ≤ backI (thereI x q) q b) (q1 : 1 ≤ q) (c1 : -2199023255550 ≤ v) (c2 : v ≤ 2199023255550) (c3 : -2199023255550 ≤ x) (c4 : x ≤ 2199023255550) (c6 : q ≤ 60) (hb1 : -2199023255550 ≤ thereI v q ∧ thereI v q ≤ 2199023255550) (hb2 : -2199023255550 ≤ thereI x q ∧ thereI x q ≤ 2199023255550) (hf : 0 ≤ facI q ∧ facI q ≤ 300000) (hn1 : backI (thereI v q) q b - v ≤ facI q / 4 + 1) (hn2 : v - backI (thereI v q) q b ≤ facI q / 4 + 1) :
    Calls Try.prog 7 #[.agg #[.int .i64 v, .int .i64 x], .int .i64 q, .bool b] w fun e w' => e = .returned (.bool true) ∧ Below w.heap.size w w' := by
  have hB : Below w.heap.size w (w.alloc (.cells #[.int .i64 v, .int .i64 x] 37)) := (Below.refl _ w).alloc (Nat.le_refl _) _
  have hcell0 : (w.alloc (.cells #[.int .i64 v, .int .i64 x] 37)).cell? ⟨w.heap.size, 0, none⟩ = some (.int .i64 v) := cell_of_row _ _ _ _ _ _ (heap_alloc_new w _)
  have hcell1 : (w.alloc (.cells #[.int .i64 v, .int .i64 x] 37)).cell? ⟨w.heap.size, 1, none⟩ = some (.int .i64 x) := cell_of_row _ _ _ _ _ _ (heap_alloc_new w _)
  have hlt : w.heap.size < (w.alloc (.cells #[.int .i64 v, .int .i64 x] 37)).heap.size := by simp
  go_enter Try.func7, Try.ntmps7
  go_wp2_with (go_at_call 22; refine (first11 _).mono ?_; rintro e w2 ⟨rfl, hb2⟩; have k0 := (hb2.cell (p := ⟨w.heap.size, 0, none⟩) hlt).trans hcell0; have k1 := (hb2.cell (p := ⟨w.heap.size, 1, none⟩) hlt).trans hcell1; have hB := below2 hB hb2; clear hb2)
  go_quiet (fail)
  have hB := below_drewN hB nq
  clear k0 k1
  go_wp2_with (first
    | (go_at_call 18; refine (refFactor_any _ _).mono ?_; rintro e w' ⟨rfl, rfl⟩)
    | (go_at_call 23; refine (there_any _ _ _ (by omega)).mono ?_; rintro e w2 ⟨rfl, hb2⟩; have hB := below2 hB hb2; clear hb2)
    | (go_at_call 25; refine (back_any _ _ _ _ (by omega)).mono ?_; rintro e w2 ⟨rfl, hb2⟩; have hB := below2 hB hb2; clear hb2))
  all_goals
    go_ret
    exact ⟨rfl, by assumption⟩

set_option maxHeartbeats 2000000 in
theorem walk (w : World) (v x : Int) (q : Int) (b : Bool) :
    Calls Try.prog 7 #[.agg #[.int .i64 v, .int .i64 x], .int .i64 q, .bool b] w fun e w' => e = .returned (.bool true) ∧ Below w.heap.size w w' := by
  have hB : Below w.heap.size w (w.alloc (.cells #[.int .i64 v, .int .i64 x] 37)) := (Below.refl _ w).alloc (Nat.le_refl _) _
  have hcell0 : (w.alloc (.cells #[.int .i64 v, .int .i64 x] 37)).cell? ⟨w.heap.size, 0, none⟩ = some (.int .i64 v) := cell_of_row _ _ _ _ _ _ (heap_alloc_new w _)
  have hcell1 : (w.alloc (.cells #[.int .i64 v, .int .i64 x] 37)).cell? ⟨w.heap.size, 1, none⟩ = some (.int .i64 x) := cell_of_row _ _ _ _ _ _ (heap_alloc_new w _)
  have hlt : w.heap.size < (w.alloc (.cells #[.int .i64 v, .int .i64 x] 37)).heap.size := by simp
  by_cases c1 : v < -2199023255550
  · go_enter Try.func7, Try.ntmps7
    go_wp2_with (go_at_call 22; refine (first11 _).mono ?_; rintro e w2 ⟨rfl, hb2⟩; have k0 := (hb2.cell (p := ⟨w.heap.size, 0, none⟩) hlt).trans hcell0; have k1 := (hb2.cell (p := ⟨w.heap.size, 1, none⟩) hlt).trans hcell1; have hB := below2 hB hb2; clear hb2)
    go_quiet (fail)
    have hB := below_drewN hB nq
    go_wp2
    go_ret
    exact ⟨rfl, hB⟩
  by_cases c2 : 2199023255550 < v
  · go_enter Try.func7, Try.ntmps7
    go_wp2_with (go_at_call 22; refine (first11 _).mono ?_; rintro e w2 ⟨rfl, hb2⟩; have k0 := (hb2.cell (p := ⟨w.heap.size, 0, none⟩) hlt).trans hcell0; have k1 := (hb2.cell (p := ⟨w.heap.size, 1, none⟩) hlt).trans hcell1; have hB := below2 hB hb2; clear hb2)
    go_quiet (fail)
    have hB := below_drewN hB nq
    go_wp2
    go_ret
    exact ⟨rfl, hB⟩
  by_cases c3 : x < -2199023255550
  · go_enter Try.func7, Try.ntmps7
    go_wp2_with (go_at_call 22; refine (first11 _).mono ?_; rintro e w2 ⟨rfl, hb2⟩; have k0 := (hb2.cell (p := ⟨w.heap.size, 0, none⟩) hlt).trans hcell0; have k1 := (hb2.cell (p := ⟨w.heap.size, 1, none⟩) hlt).trans hcell1; have hB := below2 hB hb2; clear hb2)
    go_quiet (fail)
    have hB := below_drewN hB nq
    go_wp2
    go_ret
    exact ⟨rfl, hB⟩
  by_cases c4 : 2199023255550 < x
  · go_enter Try.func7, Try.ntmps7
    go_wp2_with (go_at_call 22; refine (first11 _).mono ?_; rintro e w2 ⟨rfl, hb2⟩; have k0 := (hb2.cell (p := ⟨w.heap.size, 0, none⟩) hlt).trans hcell0; have k1 := (hb2.cell (p := ⟨w.heap.size, 1, none⟩) hlt).trans hcell1; have hB := below2 hB hb2; clear hb2)
    go_quiet (fail)
    have hB := below_drewN hB nq
    go_wp2
    go_ret
    exact ⟨rfl, hB⟩
  by_cases c5 : q < 0
  · go_enter Try.func7, Try.ntmps7
    go_wp2_with (go_at_call 22; refine (first11 _).mono ?_; rintro e w2 ⟨rfl, hb2⟩; have k0 := (hb2.cell (p := ⟨w.heap.size, 0, none⟩) hlt).trans hcell0; have k1 := (hb2.cell (p := ⟨w.heap.size, 1, none⟩) hlt).trans hcell1; have hB := below2 hB hb2; clear hb2)
    go_quiet (fail)
    have hB := below_drewN hB nq
    go_wp2
    go_ret
    exact ⟨rfl, hB⟩
  by_cases c6 : 60 < q
  · go_enter Try.func7, Try.ntmps7
    go_wp2_with (go_at_call 22; refine (first11 _).mono ?_; rintro e w2 ⟨rfl, hb2⟩; have k0 := (hb2.cell (p := ⟨w.heap.size, 0, none⟩) hlt).trans hcell0; have k1 := (hb2.cell (p := ⟨w.heap.size, 1, none⟩) hlt).trans hcell1; have hB := below2 hB hb2; clear hb2)
    go_quiet (fail)
    have hB := below_drewN hB nq
    go_wp2
    go_ret
    exact ⟨rfl, hB⟩
  have hn := near_all (v := v) (q := q) (b := b) (by omega) (by omega) (by omega) (by omega)
  have hb1 := there_bd (v := v) (q := q) (by omega) (by omega) (by omega) (by omega)
  have hb2 := there_bd (v := x) (q := q) (by omega) (by omega) (by omega) (by omega)
  have hf := facI_bd q
  obtain ⟨hn3, hn4, hn1, hn2, hn5⟩ := hn
  have hs : (v < 0 ∧ backI (thereI v q) q b ≤ 0) ∨ (0 ≤ v ∧ v ≤ 0 ∧ 0 ≤ backI (thereI v q) q b ∧ backI (thereI v q) q b ≤ 0) ∨ (0 < v ∧ 0 ≤ backI (thereI v q) q b) := by omega
  have hq : (q = 0 ∧ (backI (thereI v q) q b - v != 0) = false ∧ (v - backI (thereI v q) q b != 0) = false ∧ backI (thereI v q) q b ≤ v ∧ v ≤ backI (thereI v q) q b) ∨ 1 ≤ q := by
    by_cases h : q = 0
    · have e := hn5 h
      exact .inl ⟨h, by rw [e]; simp, by rw [e]; simp, by omega, by omega⟩
    · exact .inr (by omega)
  have hm : x < v ∨ (v ≤ x ∧ thereI v q ≤ thereI x q ∧ backI (thereI v q) q b ≤ backI (thereI x q) q b) := by
    by_cases h : v ≤ x
    · exact .inr ⟨h, mono_all (by omega) h (by omega) (by omega) (by omega)⟩
    · exact .inl (by omega)
  obtain ⟨a1, a2⟩ : -2199023255550 ≤ v ∧ v ≤ 2199023255550 := by omega
  obtain ⟨a3, a4⟩ : -2199023255550 ≤ x ∧ x ≤ 2199023255550 := by omega
  have a6 : q ≤ 60 := by omega
  clear hB hcell0 hcell1 hlt
  rcases hq with ⟨rfl, q2, q3, q4, q5⟩ | q1
  · rcases hs with ⟨s1, s2⟩ | ⟨s1, s2, s3, s4⟩ | ⟨s1, s2⟩ <;> rcases hm with m1 | ⟨m1, m2, m3⟩
    · exact core_nl0 w v x b s1 s2 m1 q2 q3 q4 q5 a1 a2 a3 a4 hb1 hb2 hf hn1 hn2
    · exact core_ng0 w v x b s1 s2 m1 m2 m3 q2 q3 q4 q5 a1 a2 a3 a4 hb1 hb2 hf hn1 hn2
    · exact core_zl0 w v x b s1 s2 s3 s4 m1 q2 q3 q4 q5 a1 a2 a3 a4 hb1 hb2 hf hn1 hn2
    · exact core_zg0 w v x b s1 s2 s3 s4 m1 m2 m3 q2 q3 q4 q5 a1 a2 a3 a4 hb1 hb2 hf hn1 hn2
    · exact core_pl0 w v x b s1 s2 m1 q2 q3 q4 q5 a1 a2 a3 a4 hb1 hb2 hf hn1 hn2
    · exact core_pg0 w v x b s1 s2 m1 m2 m3 q2 q3 q4 q5 a1 a2 a3 a4 hb1 hb2 hf hn1 hn2
  · rcases hs with ⟨s1, s2⟩ | ⟨s1, s2, s3, s4⟩ | ⟨s1, s2⟩ <;> rcases hm with m1 | ⟨m1, m2, m3⟩
    · exact core_nlq w v x q b s1 s2 m1 q1 a1 a2 a3 a4 a6 hb1 hb2 hf hn1 hn2
    · exact core_ngq w v x q b s1 s2 m1 m2 m3 q1 a1 a2 a3 a4 a6 hb1 hb2 hf hn1 hn2
    · exact core_zlq w v x q b s1 s2 s3 s4 m1 q1 a1 a2 a3 a4 a6 hb1 hb2 hf hn1 hn2
    · exact core_zgq w v x q b s1 s2 s3 s4 m1 m2 m3 q1 a1 a2 a3 a4 a6 hb1 hb2 hf hn1 hn2
    · exact core_plq w v x q b s1 s2 m1 q1 a1 a2 a3 a4 a6 hb1 hb2 hf hn1 hn2
    · exact core_pgq w v x q b s1 s2 m1 m2 m3 q1 a1 a2 a3 a4 a6 hb1 hb2 hf hn1 hn2
end Go.Proofs.Ytinbiggchjhilaa.quantNear
