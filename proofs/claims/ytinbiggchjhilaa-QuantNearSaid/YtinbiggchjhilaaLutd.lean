/- Contracts of lut.Offset, shingleref04.Offset, lut.Steps, lut.Factors. -/
import Derived.Test.YtinbiggchjhilaaLutc
namespace Go.Proofs.Ytinbiggchjhilaa
open Go.RowKit

theorem offI_fin {q : Int} {b : Bool} {v : Int} (h : v = offI q b) : Ending.returned (.int .i64 v) = .returned (.int .i64 (offI q b)) := by rw [h]

set_option maxHeartbeats 1000000 in
theorem offset_any (q : Int) (b : Bool) (w : World) :
    Calls Try.prog 20 #[.int .i64 q, .bool b] w fun e w' => e = .returned (.int .i64 (offI q b)) ∧ Below w.heap.size w w' := by
  have hb := facI_bd q
  by_cases h : 0 ≤ q ∧ q ≤ 60
  · by_cases h0 : q = 0
    · subst h0
      go_enter Try.func20, Try.ntmps20
      go_wp2_with (first | (go_at_call 32; refine (right_yes _ _ (by omega) (by omega)).mono ?_; rintro e w' ⟨rfl, rfl⟩))
      go_ret
      exact ⟨ret_eq (by simp [offI]), Below.refl _ _⟩
    · cases b with
      | true =>
        go_enter Try.func20, Try.ntmps20
        go_wp2_with (first | (go_at_call 32; refine (right_yes _ _ (by omega) (by omega)).mono ?_; rintro e w' ⟨rfl, rfl⟩) | (go_at_call 19; refine (factor_any _ _).mono ?_; rintro e w' ⟨rfl, hb⟩))
        go_ret
        exact ⟨ret_eq (by unfold offI; rw [if_neg (by omega), if_neg h0, if_pos rfl]), hb⟩
      | false =>
        by_cases h1 : q = 1
        · subst h1
          go_enter Try.func20, Try.ntmps20
          go_wp2_with (first | (go_at_call 32; refine (right_yes _ _ (by omega) (by omega)).mono ?_; rintro e w' ⟨rfl, rfl⟩))
          go_ret
          exact ⟨ret_eq (by simp [offI]), Below.refl _ _⟩
        · go_enter Try.func20, Try.ntmps20
          go_wp2_with (first | (go_at_call 32; refine (right_yes _ _ (by omega) (by omega)).mono ?_; rintro e w' ⟨rfl, rfl⟩) | (go_at_call 19; refine (factor_any _ _).mono ?_; rintro e w' ⟨rfl, hb⟩))
          go_ret
          exact ⟨ret_eq (by unfold offI; rw [if_neg (by omega), if_neg h0, if_neg (by simp), if_neg h1]), hb⟩
  · have hn := Lib.hid h
    clear h
    go_enter Try.func20, Try.ntmps20
    go_wp2_with (first | (go_at_call 32; refine (right_no _ _ hn.out).mono ?_; rintro e w' ⟨rfl, rfl⟩))
    go_ret
    exact ⟨ret_eq (by unfold offI; rw [if_pos hn.out]), Below.refl _ _⟩

set_option maxHeartbeats 1000000 in
theorem refOffset_any (q : Int) (b : Bool) (w : World) :
    Calls Try.prog 21 #[.int .i64 q, .bool b] w fun e w' => e = .returned (.int .i64 (offI q b)) ∧ w = w' := by
  have hb := facI_bd q
  by_cases h : 0 ≤ q ∧ q ≤ 60
  · have h4 := facI_0 h
    by_cases h0 : q = 0
    · subst h0
      go_enter Try.func21, Try.ntmps21
      go_wp2_with (first | (go_at_call 18; refine (refFactor_any _ _).mono ?_; rintro e w' ⟨rfl, rfl⟩))
      go_ret
      exact ⟨ret_eq (by simp [offI]), rfl⟩
    · cases b with
      | true =>
        go_enter Try.func21, Try.ntmps21
        go_wp2_with (first | (go_at_call 18; refine (refFactor_any _ _).mono ?_; rintro e w' ⟨rfl, rfl⟩))
        go_ret
        exact ⟨ret_eq (by unfold offI; rw [if_neg (by omega), if_neg h0, if_pos rfl]), rfl⟩
      | false =>
        by_cases h1 : q = 1
        · subst h1
          go_enter Try.func21, Try.ntmps21
          go_wp2_with (first | (go_at_call 18; refine (refFactor_any _ _).mono ?_; rintro e w' ⟨rfl, rfl⟩))
          go_ret
          exact ⟨ret_eq (by simp [offI]), rfl⟩
        · go_enter Try.func21, Try.ntmps21
          go_wp2_with (first | (go_at_call 18; refine (refFactor_any _ _).mono ?_; rintro e w' ⟨rfl, rfl⟩))
          go_ret
          exact ⟨ret_eq (by unfold offI; rw [if_neg (by omega), if_neg h0, if_neg (by simp), if_neg h1]), rfl⟩
  · have hf := facI_out h
    have hn := Lib.hid h
    clear h
    have hle : facI q ≤ 0 := by omega
    clear hf
    go_enter Try.func21, Try.ntmps21
    go_wp2_with (first | (go_at_call 18; refine (refFactor_any _ _).mono ?_; rintro e w' ⟨rfl, rfl⟩))
    go_ret
    exact ⟨ret_eq (by unfold offI; rw [if_pos hn.out]), rfl⟩
end Go.Proofs.Ytinbiggchjhilaa
