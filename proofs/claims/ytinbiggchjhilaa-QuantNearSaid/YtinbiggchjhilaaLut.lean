/- Contracts of the functions of lut and of shingleref04, walked once each. -/
import Derived.Test.YtinbiggchjhilaaRows
import Derived.WalkKit
import Derived.WalkSpells
import Derived.WalkLawsBesides
import Derived.Deep.QuietTactic
import Derived.BigQuiet
import Derived.Lib.Hide
namespace Go.Proofs.Ytinbiggchjhilaa
open Go.RowKit

/-- the step of a number -/
def stepI (i : Int) : Int := if 0 ≤ i ∧ i < 256 then i * (i + 384) / 96 else 0

theorem stepI_in {i : Int} (h0 : 0 ≤ i) (h1 : i < 256) : stepI i = i * (i + 384) / 96 := by unfold stepI; rw [if_pos ⟨h0, h1⟩]
theorem stepI_low {i : Int} (h : i < 0) : stepI i = 0 := by unfold stepI; rw [if_neg (by omega)]
theorem stepI_high {i : Int} (h : 256 ≤ i) : stepI i = 0 := by unfold stepI; rw [if_neg (by omega)]
theorem sq_bd {i : Int} (h0 : 0 ≤ i) (h1 : i < 256) : 0 ≤ i * (i + 384) ∧ i * (i + 384) ≤ 162945 :=
  ⟨Int.mul_nonneg h0 (by omega), Int.le_trans (Int.mul_le_mul (by omega : i ≤ 255) (by omega : i + 384 ≤ 639) (by omega) (by omega)) (by decide)⟩
theorem stepI_bd (i : Int) : 0 ≤ stepI i ∧ stepI i ≤ 1697 := by
  unfold stepI; split
  · rename_i h
    obtain ⟨a, b⟩ := sq_bd h.1 h.2
    omega
  · omega

theorem ret_eq {k : IntKind} {a b : Int} (h : a = b) : Ending.returned (.int k a) = .returned (.int k b) := by rw [h]
theorem retb_eq {a b : Bool} (h : a = b) : Ending.returned (.bool a) = .returned (.bool b) := by rw [h]

set_option maxHeartbeats 400000 in
theorem step_any (i : Int) (w : World) :
    Calls Try.prog 12 #[.int .i64 i] w fun e w' => e = .returned (.int .i64 (stepI i)) ∧ w = w' := by
  by_cases h0 : 0 ≤ i
  · by_cases h1 : i < 256
    · rw [stepI_in h0 h1]
      obtain ⟨hb0, hb1⟩ := sq_bd h0 h1
      go_enter Try.func12, Try.ntmps12
      go_wp2
      go_ret
      exact ⟨rfl, rfl⟩
    · rw [stepI_high (by omega)]
      go_enter Try.func12, Try.ntmps12
      go_wp2
      go_ret
      exact ⟨rfl, rfl⟩
  · rw [stepI_low (by omega)]
    go_enter Try.func12, Try.ntmps12
    go_wp2
    go_ret
    exact ⟨rfl, rfl⟩

/-- a chance within its bounds -/
def nearI (p : Int) : Int := if p < 0 then 0 else if 65535 < p then 65535 else p
theorem nearI_bd (p : Int) : 0 ≤ nearI p ∧ nearI p ≤ 65535 := by unfold nearI; split <;> (try split) <;> omega

set_option maxHeartbeats 400000 in
theorem clamp_any (p : Int) (w : World) :
    Calls Try.prog 30 #[.int .i64 p] w fun e w' => e = .returned (.int .i64 (nearI p)) ∧ w = w' := by
  unfold nearI
  by_cases h0 : p < 0
  · rw [if_pos h0]
    go_enter Try.func30, Try.ntmps30
    go_wp2
    go_ret
    exact ⟨ret_eq (by omega), rfl⟩
  · rw [if_neg h0]
    by_cases h1 : 65535 < p
    · rw [if_pos h1]
      go_enter Try.func30, Try.ntmps30
      go_wp2
      go_ret
      exact ⟨ret_eq (by omega), rfl⟩
    · rw [if_neg h1]
      go_enter Try.func30, Try.ntmps30
      go_wp2
      go_ret
      exact ⟨ret_eq (by omega), rfl⟩

set_option maxHeartbeats 400000 in
theorem near_any (p : Int) (w : World) :
    Calls Try.prog 31 #[.int .i64 p] w fun e w' => e = .returned (.int .i64 (nearI p)) ∧ w = w' := by
  unfold nearI
  by_cases h0 : p < 0
  · rw [if_pos h0]
    go_enter Try.func31, Try.ntmps31
    go_wp2
    go_ret
    exact ⟨rfl, rfl⟩
  · rw [if_neg h0]
    by_cases h1 : 65535 < p
    · rw [if_pos h1]
      go_enter Try.func31, Try.ntmps31
      go_wp2
      go_ret
      exact ⟨rfl, rfl⟩
    · rw [if_neg h1]
      go_enter Try.func31, Try.ntmps31
      go_wp2
      go_ret
      exact ⟨rfl, rfl⟩


def lessI (p : Int) : Int := nearI p - stepI (nearI p / 256)
def moreI (p : Int) : Int := nearI p + stepI (255 - nearI p / 256)

set_option maxHeartbeats 400000 in
theorem refStep_any (i : Int) (w : World) :
    Calls Try.prog 11 #[.int .i64 i] w fun e w' => e = .returned (.int .i64 (stepI i)) ∧ w = w' := by
  by_cases h0 : 0 ≤ i
  · by_cases h1 : i < 256
    · rw [stepI_in h0 h1]
      obtain ⟨hb0, hb1⟩ := sq_bd h0 h1
      have e : i * (384 + i) = i * (i + 384) := by rw [Int.add_comm]
      obtain ⟨m, hm⟩ : ∃ m, m = i * (i + 384) := ⟨_, rfl⟩
      have hb : 0 ≤ i * (384 + i) ∧ i * (384 + i) ≤ 162945 := by rw [e]; exact ⟨hb0, hb1⟩
      obtain ⟨hc0, hc1⟩ := hb
      rw [← hm] at hb0 hb1 e ⊢
      have HE := Lib.hid e
      clear e hm
      go_enter Try.func11, Try.ntmps11
      go_wp2
      go_loop [3, 4] (fun n x => ∃ k : Int, 0 ≤ k ∧ 0 ≤ m - 96 * k ∧ n = .int .i64 k ∧ x = .int .i64 (m - 96 * k)) (fun _ x => (intOf x).toNat)
      case atStart => exact ⟨0, by omega, by omega, rfl, by rw [HE.out]; simp⟩
      case round =>
        obtain ⟨k, hk0, hk1, rfl, rfl⟩ := hrel
        by_cases hlt : 96 ≤ m - 96 * k
        · go_wp2
          go_round
          case rel => exact ⟨k + 1, by omega, by omega, rfl, by go_num⟩
          case measure => simp [intOf]; omega
        · go_wp2
          go_ret
          exact ⟨ret_eq (by omega), rfl⟩
    · rw [stepI_high (by omega)]
      go_enter Try.func11, Try.ntmps11
      go_wp2
      go_ret
      exact ⟨rfl, rfl⟩
  · rw [stepI_low (by omega)]
    go_enter Try.func11, Try.ntmps11
    go_wp2
    go_ret
    exact ⟨rfl, rfl⟩
end Go.Proofs.Ytinbiggchjhilaa
