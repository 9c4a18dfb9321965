/- Contracts of the small functions of split and of shingleref12. -/
import Derived.Test.YtekdhagmmflcnaaRows
import Derived.WalkKit
import Derived.WalkSpells
import Derived.WalkLawsBesides
import Derived.Deep.QuietTactic
import Derived.BigQuiet
import Derived.Lib.Hide
namespace Go.Proofs.Ytekdhagmmflcnaa
open Go.RowKit

theorem ret_eq {k : IntKind} {a b : Int} (h : a = b) : Ending.returned (.int k a) = .returned (.int k b) := by rw [h]
theorem retb_eq {a b : Bool} (h : a = b) : Ending.returned (.bool a) = .returned (.bool b) := by rw [h]
theorem below2 {w a b : World} (h1 : Below w.heap.size w a) (h2 : Below a.heap.size a b) : Below w.heap.size w b := h1.trans (h2.mono h1.size)

/-- a band that may be split so -/
def rightI (w h m n : Int) : Bool := decide (1 ≤ w) && decide (w ≤ 1024) && decide (1 ≤ h) && decide (h ≤ 1024) && decide (1 ≤ m) && decide (m ≤ 64) && decide (1 ≤ n) && decide (n ≤ 64)
theorem rightI_yes {w h m n : Int} (hr : rightI w h m n = true) : 1 ≤ w ∧ w ≤ 1024 ∧ 1 ≤ h ∧ h ≤ 1024 ∧ 1 ≤ m ∧ m ≤ 64 ∧ 1 ≤ n ∧ n ≤ 64 := by
  simp only [rightI, Bool.and_eq_true, decide_eq_true_eq] at hr
  omega
theorem rightI_of {w h m n : Int} (hr : 1 ≤ w ∧ w ≤ 1024 ∧ 1 ≤ h ∧ h ≤ 1024 ∧ 1 ≤ m ∧ m ≤ 64 ∧ 1 ≤ n ∧ n ≤ 64) : rightI w h m n = true := by
  simp only [rightI, Bool.and_eq_true, decide_eq_true_eq]
  omega
theorem rightI_no {w h m n : Int} (hr : ¬ (1 ≤ w ∧ w ≤ 1024 ∧ 1 ≤ h ∧ h ≤ 1024 ∧ 1 ≤ m ∧ m ≤ 64 ∧ 1 ≤ n ∧ n ≤ 64)) : rightI w h m n = false := by
  cases h0 : rightI w h m n with
  | true => exact absurd (rightI_yes h0) hr
  | false => rfl
def sideI (n : Int) : Bool := decide (1 ≤ n) && decide (n ≤ 1024)
def countI (n : Int) : Bool := decide (1 ≤ n) && decide (n ≤ 64)

set_option maxHeartbeats 400000 in
theorem side_any (n : Int) (w : World) : Calls Try.prog 18 #[.int .i64 n] w fun e w' => e = .returned (.bool (sideI n)) ∧ w = w' := by
  by_cases h : 1 ≤ n
  · go_enter Try.func18, Try.ntmps18
    go_wp2
    go_ret
    exact ⟨retb_eq (by simp [sideI, h]), rfl⟩
  · go_enter Try.func18, Try.ntmps18
    go_wp2
    go_ret
    exact ⟨retb_eq (by simp [sideI]; omega), rfl⟩
set_option maxHeartbeats 400000 in
theorem count_any (n : Int) (w : World) : Calls Try.prog 19 #[.int .i64 n] w fun e w' => e = .returned (.bool (countI n)) ∧ w = w' := by
  by_cases h : 1 ≤ n
  · go_enter Try.func19, Try.ntmps19
    go_wp2
    go_ret
    exact ⟨retb_eq (by simp [countI, h]), rfl⟩
  · go_enter Try.func19, Try.ntmps19
    go_wp2
    go_ret
    exact ⟨retb_eq (by simp [countI]; omega), rfl⟩
attribute [irreducible] sideI countI
theorem right_split (w h m n : Int) : (sideI w && sideI h && countI m && countI n) = rightI w h m n := by
  unfold sideI countI rightI; simp [Bool.and_assoc]

set_option maxHeartbeats 400000 in
theorem right_any (w h m n : Int) (W : World) : Calls Try.prog 9 #[.int .i64 w, .int .i64 h, .int .i64 m, .int .i64 n] W fun e w' => e = .returned (.bool (rightI w h m n)) ∧ W = w' := by
  have hs := Lib.hid (right_split w h m n)
  cases h1 : sideI w <;> cases h2 : sideI h <;> cases h3 : countI m
  all_goals
    go_enter Try.func9, Try.ntmps9
    go_wp2_with (first | (go_at_call 18; refine (side_any _ _).mono ?_; rintro e w' ⟨rfl, rfl⟩) | (go_at_call 19; refine (count_any _ _).mono ?_; rintro e w' ⟨rfl, rfl⟩))
    go_ret
    exact ⟨retb_eq (by rw [← hs.out]; simp [h1, h2, h3]), rfl⟩

set_option maxHeartbeats 800000 in
theorem refRight_any (w h m n : Int) (W : World) : Calls Try.prog 10 #[.int .i64 w, .int .i64 h, .int .i64 m, .int .i64 n] W fun e w' => e = .returned (.bool (rightI w h m n)) ∧ W = w' := by
  have fin : ∀ b : Bool, b = rightI w h m n → Ending.returned (.bool b) = .returned (.bool (rightI w h m n)) := fun b h => by rw [h]
  have FIN := Lib.hid fin
  clear fin
  go_enter Try.func10, Try.ntmps10
  go_wp2
  all_goals
    go_ret
    exact ⟨FIN.out _ (by unfold rightI; simp_all <;> omega), rfl⟩

theorem prod_bd {s i a b : Int} (h0 : 0 ≤ s) (h1 : s ≤ a) (k0 : 0 ≤ i) (k1 : i ≤ b) : 0 ≤ s * i ∧ s * i ≤ a * b :=
  ⟨Int.mul_nonneg h0 k0, Int.mul_le_mul h1 k1 k0 (by omega)⟩
/-- where the i-th part of a side begins -/
def fromI (s p i : Int) : Int := s * i / p
theorem from_bd {s p i : Int} (h0 : 0 ≤ s) (h1 : s ≤ 1024) (p0 : 1 ≤ p) (k0 : 0 ≤ i) (k1 : i ≤ 64) : 0 ≤ fromI s p i ∧ fromI s p i ≤ 65536 := by
  obtain ⟨a, b⟩ := prod_bd h0 h1 k0 k1
  unfold fromI
  exact ⟨Int.ediv_nonneg a (by omega), Int.le_trans (Int.ediv_le_self _ a) (by omega)⟩
theorem from_mono {s p i : Int} (h0 : 0 ≤ s) (p0 : 1 ≤ p) : fromI s p i ≤ fromI s p (i + 1) := by
  unfold fromI
  exact Int.ediv_le_ediv (by omega) (Int.mul_le_mul_of_nonneg_left (by omega) h0)

set_option maxHeartbeats 400000 in
theorem cut_any (s p i : Int) (W : World) (h0 : 1 ≤ s) (h1 : s ≤ 1024) (p0 : 1 ≤ p) (p1 : p ≤ 64) (k0 : 0 ≤ i) (k1 : i ≤ 63) :
    Calls Try.prog 23 #[.int .i64 s, .int .i64 p, .int .i64 i] W fun e w' => e = .returned (.tuple #[.int .i64 (fromI s p i), .int .i64 (fromI s p (i + 1) - fromI s p i)]) ∧ ∃ n, w' = W.drewN n := by
  obtain ⟨a0, a1⟩ := prod_bd (by omega : 0 ≤ s) h1 k0 k1
  obtain ⟨b0, b1⟩ := prod_bd (by omega : 0 ≤ s) h1 (by omega : 0 ≤ i + 1) (by omega : i + 1 ≤ 64)
  have f0 := from_bd (s := s) (p := p) (by omega) h1 p0 k0 (by omega : i ≤ 64)
  have f1 := from_bd (s := s) (p := p) (by omega) h1 p0 (by omega : 0 ≤ i + 1) (by omega : i + 1 ≤ 64)
  unfold fromI at f0 f1
  go_enter Try.func23, Try.ntmps23
  go_wp2
  go_quiet (fail)
  go_wp2
  go_ret2
  exact ⟨rfl, _, rfl⟩
end Go.Proofs.Ytekdhagmmflcnaa
