/- Contracts of lut.Less, lut.More and of the references', walked once each. -/
import Derived.Test.YtinbiggchjhilaaLut
namespace Go.Proofs.Ytinbiggchjhilaa
open Go.RowKit

theorem refLess_any (p : Int) (w : World) :
    Calls Try.prog 14 #[.int .i64 p] w fun e w' => e = .returned (.int .i64 (lessI p)) ∧ w = w' := by
  have hn := nearI_bd p
  have hs := stepI_bd (nearI p / 256)
  go_enter Try.func14, Try.ntmps14
  go_wp2_with (first | (go_at_call 31; refine (near_any _ _).mono ?_; rintro e w' ⟨rfl, rfl⟩) | (go_at_call 11; refine (refStep_any _ _).mono ?_; rintro e w' ⟨rfl, rfl⟩))
  go_ret
  exact ⟨rfl, rfl⟩

theorem refMore_any (p : Int) (w : World) :
    Calls Try.prog 16 #[.int .i64 p] w fun e w' => e = .returned (.int .i64 (moreI p)) ∧ w = w' := by
  have hn := nearI_bd p
  have hs := stepI_bd (255 - nearI p / 256)
  go_enter Try.func16, Try.ntmps16
  go_wp2_with (first | (go_at_call 31; refine (near_any _ _).mono ?_; rintro e w' ⟨rfl, rfl⟩) | (go_at_call 11; refine (refStep_any _ _).mono ?_; rintro e w' ⟨rfl, rfl⟩))
  go_ret
  exact ⟨rfl, rfl⟩

theorem less_any (p : Int) (w : World) :
    Calls Try.prog 13 #[.int .i64 p] w fun e w' => e = .returned (.int .i64 (lessI p)) ∧ w = w' := by
  have hn := nearI_bd p
  have hs := stepI_bd (nearI p / 256)
  go_enter Try.func13, Try.ntmps13
  go_wp2_with (first | (go_at_call 30; refine (clamp_any _ _).mono ?_; rintro e w' ⟨rfl, rfl⟩) | (go_at_call 12; refine (step_any _ _).mono ?_; rintro e w' ⟨rfl, rfl⟩))
  go_ret
  exact ⟨rfl, rfl⟩

theorem more_any (p : Int) (w : World) :
    Calls Try.prog 15 #[.int .i64 p] w fun e w' => e = .returned (.int .i64 (moreI p)) ∧ w = w' := by
  have hn := nearI_bd p
  have hs := stepI_bd (255 - nearI p / 256)
  go_enter Try.func15, Try.ntmps15
  go_wp2_with (first | (go_at_call 30; refine (clamp_any _ _).mono ?_; rintro e w' ⟨rfl, rfl⟩) | (go_at_call 12; refine (step_any _ _).mono ?_; rintro e w' ⟨rfl, rfl⟩))
  go_ret
  exact ⟨rfl, rfl⟩

/-- of a quarter and a power -/
def facB (b r : Int) : Int := if r = 1 then (503829 * b + 52958) / 105917 else if r = 2 then (665857 * b + 58854) / 117708 else if r = 3 then (440253 * b + 32722) / 65444 else 4 * b
/-- the factor of a quantiser -/
def facI (q : Int) : Int := if 0 ≤ q ∧ q ≤ 60 then facB ((2 ^ (q / 4).toNat : Nat) : Int) (q % 4) else 0
theorem facI_in {q : Int} (h0 : 0 ≤ q) (h1 : q ≤ 60) : facI q = facB ((2 ^ (q / 4).toNat : Nat) : Int) (q % 4) := by unfold facI; rw [if_pos ⟨h0, h1⟩]
theorem facI_out {q : Int} (h : ¬ (0 ≤ q ∧ q ≤ 60)) : facI q = 0 := by unfold facI; rw [if_neg h]
theorem pow_bd {k : Nat} (h : k ≤ 15) : 1 ≤ 2 ^ k ∧ 2 ^ k ≤ 32768 := ⟨Nat.one_le_two_pow, Nat.le_trans (Nat.pow_le_pow_right (by decide) h) (by decide)⟩

set_option maxHeartbeats 1000000 in
theorem refFactor_any (q : Int) (w : World) :
    Calls Try.prog 18 #[.int .i64 q] w fun e w' => e = .returned (.int .i64 (facI q)) ∧ w = w' := by
  by_cases h0 : 0 ≤ q
  · by_cases h1 : q ≤ 60
    · have hfi := Lib.hid (facI_in h0 h1)
      go_enter Try.func18, Try.ntmps18
      go_wp2
      go_loop [3, 4] (fun b i => ∃ k : Nat, (k : Int) ≤ q / 4 ∧ i = .int .i64 k ∧ b = .int .i64 ((2 ^ k : Nat) : Int)) (fun _ i => (q / 4 - intOf i).toNat)
      case atStart => exact ⟨0, by omega, rfl, rfl⟩
      case round =>
        obtain ⟨k, hk, rfl, rfl⟩ := hrel
        have hp := pow_bd (k := k) (by omega)
        have hps : 2 ^ (k + 1) = 2 ^ k * 2 := Nat.pow_succ 2 k
        obtain ⟨P, hP⟩ : ∃ P, P = 2 ^ k := ⟨_, rfl⟩
        rw [← hP] at hp hps ⊢
        have HP := Lib.hid hP
        have HPS := Lib.hid hps
        clear hP hps
        by_cases hlt : (k : Int) < q / 4
        · go_wp2
          go_round
          case rel => exact ⟨k + 1, by omega, by go_num, by rw [HPS.out]; go_num⟩
          case measure => simp [intOf]; omega
        · have hkq : (q / 4).toNat = k := by omega
          have HK := Lib.hid hkq
          clear hkq
          have fin : ∀ v : Int, v = facB ((P : Nat) : Int) (q % 4) → Ending.returned (.int .i64 v) = .returned (.int .i64 (facI q)) := fun v h => by rw [hfi.out, HK.out, ← HP.out, h]
          have FIN := Lib.hid fin
          clear fin
          by_cases r1 : q % 4 = 1
          · go_wp2
            go_ret
            exact ⟨FIN.out _ (by unfold facB; rw [if_pos r1]), rfl⟩
          · by_cases r2 : q % 4 = 2
            · go_wp2
              go_ret
              exact ⟨FIN.out _ (by unfold facB; rw [if_neg r1, if_pos r2]), rfl⟩
            · by_cases r3 : q % 4 = 3
              · go_wp2
                go_ret
                exact ⟨FIN.out _ (by unfold facB; rw [if_neg r1, if_neg r2, if_pos r3]), rfl⟩
              · go_wp2
                go_ret
                exact ⟨FIN.out _ (by unfold facB; rw [if_neg r1, if_neg r2, if_neg r3]), rfl⟩
    · have hfi := Lib.hid (facI_out (q := q) (by omega))
      go_enter Try.func18, Try.ntmps18
      go_wp2
      go_ret
      exact ⟨ret_eq hfi.out.symm, rfl⟩
  · have hfi := Lib.hid (facI_out (q := q) (by omega))
    go_enter Try.func18, Try.ntmps18
    go_wp2
    go_ret
    exact ⟨ret_eq hfi.out.symm, rfl⟩
end Go.Proofs.Ytinbiggchjhilaa
