/- Contracts of the small functions of rate and of shingleref33. -/
import Derived.Test.YtdfhapcndofbdaaRows
import Derived.WalkKit
import Derived.WalkSpells
import Derived.WalkLawsBesides
import Derived.Deep.QuietTactic
import Derived.BigQuiet
import Derived.Deep.RegionHeld3
import Derived.Lib.Hide
import Derived.StillTailTactics
namespace Go.Proofs.Ytdfhapcndofbdaa
open Go.RowKit

theorem ret_eq {k : IntKind} {a b : Int} (h : a = b) : Ending.returned (.int k a) = .returned (.int k b) := by rw [h]
theorem retb_eq {a b : Bool} (h : a = b) : Ending.returned (.bool a) = .returned (.bool b) := by rw [h]
theorem below2 {w a b : World} (h1 : Below w.heap.size w a) (h2 : Below a.heap.size a b) : Below w.heap.size w b := h1.trans (h2.mono h1.size)
theorem cell_lt {w : World} {a : Addr} {v : Value} (h : w.cell? a = some v) : a.block < w.heap.size := block_lt_of_cell h

theorem tdiv4 (n : Int) : n.tdiv 4 = n / 4 ∧ 0 ≤ n.tmod 4 ∨ n.tdiv 4 = n / 4 + 1 ∧ n.tmod 4 < 0 := by
  have h1 := Int.tmod_def n 4
  have h2 := Int.tdiv_eq_ediv (a := n) (b := 4)
  rw [show Int.sign 4 = 1 from rfl] at h2
  split at h2 <;> omega
theorem wrap_id {x : Int} (h0 : -9223372036854775808 ≤ x) (h1 : x ≤ 9223372036854775807) : wrap64 x = x := by unfold wrap64; omega

set_option maxHeartbeats 400000 in
theorem lower_any (n : Int) (w : World) (h0 : -100000000 ≤ n) (h1 : n ≤ 100000000) :
    Calls Try.prog 20 #[.int .i64 n, .int .i64 4] w fun e w' => e = .returned (.int .i64 (n / 4)) ∧ w' = w := by
  have ht := Lib.hid (tdiv4 n)
  go_enter Try.func20, Try.ntmps20
  go_wp2
  · go_ret
    have h : n.tmod 4 < 0 := by assumption
    exact ⟨ret_eq (by have := ht.out; rw [wrap_id (by omega) (by omega)]; omega), rfl⟩
  · go_ret
    have h : 0 ≤ n.tmod 4 := by assumption
    exact ⟨ret_eq (by have := ht.out; omega), rfl⟩
set_option maxHeartbeats 400000 in
theorem down_any (n : Int) (w : World) (h0 : -100000000 ≤ n) (h1 : n ≤ 100000000) :
    Calls Try.prog 22 #[.int .i64 n, .int .i64 4] w fun e w' => e = .returned (.int .i64 (n / 4)) ∧ w' = w := by
  have ht := Lib.hid (tdiv4 n)
  go_enter Try.func22, Try.ntmps22
  go_wp2
  · go_ret
    have h : n.tmod 4 < 0 := by assumption
    exact ⟨ret_eq (by have := ht.out; rw [wrap_id (by omega) (by omega)]; omega), rfl⟩
  · go_ret
    have h : 0 ≤ n.tmod 4 := by assumption
    exact ⟨ret_eq (by have := ht.out; omega), rfl⟩

def nearN (v a b : Int) : Int := if v < a then a else if b < v then b else v
set_option maxHeartbeats 400000 in
theorem near_any (v a b : Int) (w : World) :
    Calls Try.prog 21 #[.int .i64 v, .int .i64 a, .int .i64 b] w fun e w' => e = .returned (.int .i64 (nearN v a b)) ∧ w' = w := by
  by_cases h : v < a
  · go_enter Try.func21, Try.ntmps21
    go_wp2
    go_ret
    exact ⟨ret_eq (by unfold nearN; rw [if_pos h]), rfl⟩
  · by_cases h1 : b < v
    · go_enter Try.func21, Try.ntmps21
      go_wp2
      go_ret
      exact ⟨ret_eq (by unfold nearN; rw [if_neg (by omega), if_pos h1]), rfl⟩
    · go_enter Try.func21, Try.ntmps21
      go_wp2
      go_ret
      exact ⟨ret_eq (by unfold nearN; rw [if_neg (by omega), if_neg (by omega)]), rfl⟩
theorem near_bd {v a b : Int} (h : a ≤ b) : a ≤ nearN v a b ∧ nearN v a b ≤ b := by unfold nearN; split; omega; split <;> omega

/-- the room of the next picture -/
def roomI (t c : Int) : Int := nearN (t + c / 4) (t - t / 2) (2 * t)
/-- the credit behind a picture of n bytes -/
def spentI (t c n : Int) : Int := nearN (c + t - nearN n 0 1073741824) (-8 * t) (8 * t)

/-- A control of a target and a credit, in a block of its own. -/
def Ctl (T : TypeId) (w : World) (b : Nat) (t c : Int) : Prop := w.heap[b]? = some (.cells #[.int .i64 t, .int .i64 c] T (0, 0))
theorem Ctl.lt {T : TypeId} {w : World} {b : Nat} {t c : Int} (h : Ctl T w b t c) : b < w.heap.size := (Array.getElem?_eq_some_iff.1 h).1
theorem Ctl.c0 {T : TypeId} {w : World} {b : Nat} {t c : Int} (h : Ctl T w b t c) : w.cell? ⟨b, 0, none⟩ = some (.int .i64 t) := cell_of_row _ _ 0 _ _ _ h
theorem Ctl.c1 {T : TypeId} {w : World} {b : Nat} {t c : Int} (h : Ctl T w b t c) : w.cell? ⟨b, 1, none⟩ = some (.int .i64 c) := cell_of_row _ _ 1 _ _ _ h
theorem Ctl.fr {T : TypeId} {w : World} {b : Nat} {t c : Int} (h : Ctl T w b t c) (o : Nat) : w.frozen? ⟨b, o, none⟩ = false := frozen_of_row _ _ _ _ _ h

set_option maxHeartbeats 1000000 in
theorem room_any (b : Nat) (t c : Int) (w : World) (hC : Ctl 43 w b t c) (t0 : 1 ≤ t) (t1 : t ≤ 1048576) (c0 : -8 * t ≤ c) (c1 : c ≤ 8 * t) :
    Calls Try.prog 10 #[.pointer (some ⟨b, 0, none⟩)] w fun e w' => e = .returned (.int .i64 (roomI t c)) ∧ ∃ n, w' = w.drewN n := by
  have k0 := hC.c0
  have k1 := hC.c1
  clear hC
  go_enter Try.func10, Try.ntmps10
  go_wp2
  go_quiet ((go_at_call 20; refine Calls.quiet_of_same (lower_any _ _ (by omega) (by omega))))
  go_wp2
  all_goals
    go_ret
    exact ⟨ret_eq (by unfold roomI nearN; split <;> (try split) <;> (try split) <;> (try split) <;> omega), _, rfl⟩

set_option maxHeartbeats 400000 in
theorem room_nil (w : World) : Calls Try.prog 10 #[.pointer none] w fun e w' => e = .returned (.int .i64 0) ∧ w' = w := by
  go_enter Try.func10, Try.ntmps10
  go_wp2
  go_ret
  exact ⟨rfl, rfl⟩
set_option maxHeartbeats 400000 in
theorem credit_nil (w : World) : Calls Try.prog 11 #[.pointer none] w fun e w' => e = .returned (.int .i64 0) ∧ w' = w := by
  go_enter Try.func11, Try.ntmps11
  go_wp2
  go_ret
  exact ⟨rfl, rfl⟩
set_option maxHeartbeats 400000 in
theorem credit_any (b : Nat) (t c : Int) (w : World) (hC : Ctl 43 w b t c) :
    Calls Try.prog 11 #[.pointer (some ⟨b, 0, none⟩)] w fun e w' => e = .returned (.int .i64 c) ∧ w' = w := by
  have k1 := hC.c1
  clear hC
  go_enter Try.func11, Try.ntmps11
  go_wp2
  go_ret
  exact ⟨rfl, rfl⟩
set_option maxHeartbeats 400000 in
theorem spent_nil (n : Int) (w : World) : Calls Try.prog 9 #[.pointer none, .int .i64 n] w fun e w' => e = .returned (.tuple #[]) ∧ w' = w := by
  go_enter Try.func9, Try.ntmps9
  go_wp2
  refine bodyPost_ret (results_none rfl _ _ _) rfl ?_
  exact ⟨rfl, rfl⟩
set_option maxHeartbeats 400000 in
/-- New: within the bounds a new control without credit, else none. -/
theorem new_yes (t : Int) (w : World) (t0 : 1 ≤ t) (t1 : t ≤ 1048576) :
    Calls Try.prog 8 #[.int .i64 t] w fun e w' => e = .returned (.pointer (some ⟨w.heap.size, 0, none⟩)) ∧ w' = w.alloc (.cells #[.int .i64 t, .int .i64 0] 43) := by
  go_enter Try.func8, Try.ntmps8
  go_wp2
  go_ret
  exact ⟨rfl, rfl⟩
set_option maxHeartbeats 400000 in
theorem new_no (t : Int) (w : World) (h : t < 1 ∨ 1048576 < t) :
    Calls Try.prog 8 #[.int .i64 t] w fun e w' => e = .returned (.pointer none) ∧ w' = w := by
  rcases h with h | h
  all_goals
    go_enter Try.func8, Try.ntmps8
    go_wp2
    go_ret
    exact ⟨rfl, rfl⟩

set_option maxHeartbeats 1000000 in
theorem refRoom_any (b : Nat) (t c : Int) (w : World) (hC : Ctl 30 w b t c) (t0 : 1 ≤ t) (t1 : t ≤ 1048576) (c0 : -8 * t ≤ c) (c1 : c ≤ 8 * t) :
    Calls Try.prog 12 #[.pointer (some ⟨b, 0, none⟩)] w fun e w' => e = .returned (.int .i64 (roomI t c)) ∧ ∃ n, w' = w.drewN n := by
  have k0 := hC.c0
  have k1 := hC.c1
  clear hC
  go_enter Try.func12, Try.ntmps12
  go_wp2
  go_quiet ((first | (go_at_call 22; refine Calls.quiet_of_same (down_any _ _ (by omega) (by omega))) | (go_at_call 21; refine Calls.quiet_of_same (near_any _ _ _ _))))
  go_wp2
  go_ret
  exact ⟨rfl, _, rfl⟩

/-- The world with the credit turned. -/
theorem ctl_set {T : TypeId} {w : World} {b : Nat} {t c c' : Int} (h : Ctl T w b t c) : Ctl T (w.setCell ⟨b, 1, none⟩ (.int .i64 c')) b t c' := heap_setCell_same w b 1 _ _ _ h

set_option maxHeartbeats 1000000 in
theorem spent_any (b : Nat) (t c n : Int) (w : World) (hC : Ctl 43 w b t c) (t0 : 1 ≤ t) (t1 : t ≤ 1048576) (c0 : -8 * t ≤ c) (c1 : c ≤ 8 * t) :
    Calls Try.prog 9 #[.pointer (some ⟨b, 0, none⟩), .int .i64 n] w fun e w' => e = .returned (.tuple #[]) ∧ w' = (w.setCell ⟨b, 1, none⟩ (.int .i64 (spentI t c n))).drewN 1 := by
  have k0 := hC.c0
  have k1 := hC.c1
  have kf := hC.fr 1
  clear hC
  go_enter Try.func9, Try.ntmps9
  go_wp2
  all_goals
    go_still_tail 26, (by kernel_rfl)
    go_wp2
    all_goals
      go_end0
      exact ⟨rfl, congrArg (fun v => (w.setCell ⟨b, 1, none⟩ (.int .i64 v)).drewN 1) (by unfold spentI nearN; (repeat' split) <;> omega)⟩

set_option maxHeartbeats 1000000 in
theorem refSpent_any (b : Nat) (t c n : Int) (w : World) (hC : Ctl 30 w b t c) (t0 : 1 ≤ t) (t1 : t ≤ 1048576) (c0 : -8 * t ≤ c) (c1 : c ≤ 8 * t) :
    Calls Try.prog 13 #[.pointer (some ⟨b, 0, none⟩), .int .i64 n] w fun e w' => e = .returned (.tuple #[]) ∧ w' = (w.setCell ⟨b, 1, none⟩ (.int .i64 (spentI t c n))).drewN 1 := by
  have k0 := hC.c0
  have k1 := hC.c1
  have kf := hC.fr 1
  have hn := near_bd (v := n) (a := 0) (b := 1073741824) (by omega)
  clear hC
  go_enter Try.func13, Try.ntmps13
  go_wp2
  refine wp_region_still_tail 26 (by kernel_rfl) (by kernel_rfl) ?_
  simp only [List.take_succ_cons, List.take_zero, List.drop_succ_cons, List.drop_zero]
  repeat (first | still_call (near_any _ _ _ _) | still_step)
  try refine wpStill_nil ?_
  go_wp2
  go_end0
  exact ⟨rfl, congrArg (fun v => (w.setCell ⟨b, 1, none⟩ (.int .i64 v)).drewN 1) rfl⟩
end Go.Proofs.Ytdfhapcndofbdaa
