/- Contracts of the functions of quant and of shingleref11, walked once each. -/
import Derived.Test.YtinbiggchjhilaaFactorsW
namespace Go.Proofs.Ytinbiggchjhilaa
open Go.RowKit

/-- a number without its sign, within its bound -/
def sizeI (v : Int) : Int := if 2199023255550 < v ∨ v < -2199023255550 then 2199023255550 else if v < 0 then -v else v
theorem sizeI_bd (v : Int) : 0 ≤ sizeI v ∧ sizeI v ≤ 2199023255550 := by unfold sizeI; split; omega; split <;> omega
theorem sizeI_low {v : Int} (h : v < -2199023255550) : sizeI v = 2199023255550 := by unfold sizeI; rw [if_pos (.inr h)]
theorem sizeI_high {v : Int} (h : 2199023255550 < v) : sizeI v = 2199023255550 := by unfold sizeI; rw [if_pos (.inl h)]
theorem sizeI_neg {v : Int} (h : -2199023255550 ≤ v) (h' : v < 0) : sizeI v = -v := by unfold sizeI; rw [if_neg (by omega), if_pos h']
theorem sizeI_pos {v : Int} (h : 0 ≤ v) (h' : v ≤ 2199023255550) : sizeI v = v := by unfold sizeI; rw [if_neg (by omega), if_neg (by omega)]
/-- with a sign -/
def signI (c v : Int) : Int := if v < 0 then -c else c
def thereI (v q : Int) : Int := if facI q = 0 then 0 else signI (4 * sizeI v / facI q) v
def minV (x : Int) : Int := if 4398046511104 < x then 4398046511104 else x
def backI (c q : Int) (b : Bool) : Int := if facI q = 0 ∨ c = 0 then 0 else signI (minV ((sizeI c * facI q + offI q b + 2) / 4)) c
def nearN (v a b : Int) : Int := if v < a then a else if b < v then b else v

theorem ret2_eq {a b : Int} {c d : Bool} (h : a = b) (h' : c = d) : Ending.returned (.tuple #[.int .i64 a, .bool c]) = .returned (.tuple #[.int .i64 b, .bool d]) := by rw [h, h']

set_option maxHeartbeats 400000 in
theorem apart_any (v : Int) (w : World) (hv : v ≤ 9223372036854775807) :
    Calls Try.prog 34 #[.int .i64 v] w fun e w' => e = .returned (.tuple #[.int .i64 (sizeI v), .bool (decide (v < 0))]) ∧ w = w' := by
  by_cases h : v < -2199023255550
  · have hs := Lib.hid (sizeI_low h)
    have hn := Lib.hid (show decide (v < 0) = true by simp; omega)
    go_enter Try.func34, Try.ntmps34
    go_wp2
    go_ret2
    exact ⟨ret2_eq hs.out.symm hn.out.symm, rfl⟩
  · go_enter Try.func34, Try.ntmps34
    go_wp2
    all_goals
      go_ret2
      exact ⟨ret2_eq (by unfold sizeI; split <;> (try split) <;> omega) rfl, rfl⟩

set_option maxHeartbeats 400000 in
theorem size_any (v : Int) (w : World) :
    Calls Try.prog 36 #[.int .i64 v] w fun e w' => e = .returned (.int .i64 (sizeI v)) ∧ w = w' := by
  by_cases h : v < -2199023255550
  · go_enter Try.func36, Try.ntmps36
    go_wp2
    go_ret
    exact ⟨ret_eq (sizeI_low h).symm, rfl⟩
  · by_cases h1 : 2199023255550 < v
    · go_enter Try.func36, Try.ntmps36
      go_wp2
      go_ret
      exact ⟨ret_eq (sizeI_high h1).symm, rfl⟩
    · by_cases h2 : v < 0
      · go_enter Try.func36, Try.ntmps36
        go_wp2
        go_ret
        exact ⟨ret_eq (sizeI_neg (by omega) h2).symm, rfl⟩
      · go_enter Try.func36, Try.ntmps36
        go_wp2
        go_ret
        exact ⟨ret_eq (sizeI_pos (by omega) (by omega)).symm, rfl⟩

set_option maxHeartbeats 400000 in
theorem signed_any (c v : Int) (w : World) (h0 : 0 ≤ c) (h1 : c ≤ 9223372036854775807) :
    Calls Try.prog 35 #[.int .i64 c, .bool (decide (v < 0))] w fun e w' => e = .returned (.int .i64 (signI c v)) ∧ w = w' := by
  by_cases h : v < 0
  · have e : decide (v < 0) = true := by simp [h]
    rw [e]
    clear e
    go_enter Try.func35, Try.ntmps35
    go_wp2
    go_ret
    exact ⟨ret_eq (by unfold signI; rw [if_pos h]), rfl⟩
  · have e : decide (v < 0) = false := by simp; omega
    rw [e]
    clear e
    go_enter Try.func35, Try.ntmps35
    go_wp2
    go_ret
    exact ⟨ret_eq (by unfold signI; rw [if_neg (by omega)]), rfl⟩

set_option maxHeartbeats 400000 in
theorem refNear_any (v a b : Int) (w : World) :
    Calls Try.prog 28 #[.int .i64 v, .int .i64 a, .int .i64 b] w fun e w' => e = .returned (.int .i64 (nearN v a b)) ∧ w = w' := by
  by_cases h : v < a
  · go_enter Try.func28, Try.ntmps28
    go_wp2
    go_ret
    exact ⟨ret_eq (by unfold nearN; rw [if_pos h]), rfl⟩
  · by_cases h1 : b < v
    · go_enter Try.func28, Try.ntmps28
      go_wp2
      go_ret
      exact ⟨ret_eq (by unfold nearN; rw [if_neg (by omega), if_pos h1]), rfl⟩
    · go_enter Try.func28, Try.ntmps28
      go_wp2
      go_ret
      exact ⟨ret_eq (by unfold nearN; rw [if_neg (by omega), if_neg (by omega)]), rfl⟩

set_option maxHeartbeats 400000 in
theorem qclamp_any (v : Int) (w : World) :
    Calls Try.prog 27 #[.int .i64 v] w fun e w' => e = .returned (.int .i64 (nearN v 0 60)) ∧ w = w' := by
  go_enter Try.func27, Try.ntmps27
  go_wp2
  all_goals
    go_ret
    exact ⟨ret_eq (by unfold nearN; split <;> (try split) <;> omega), rfl⟩

set_option maxHeartbeats 400000 in
theorem qclip_any (v : Int) (w : World) :
    Calls Try.prog 29 #[.int .i64 v] w fun e w' => e = .returned (.int .i64 (nearN v (-4398046511104) 4398046511104)) ∧ w = w' := by
  go_enter Try.func29, Try.ntmps29
  go_wp2
  all_goals
    go_ret
    exact ⟨ret_eq (by unfold nearN; split <;> (try split) <;> omega), rfl⟩

theorem mul_bd (v q : Int) : 0 ≤ sizeI v * facI q ∧ sizeI v * facI q ≤ 659706976665000000 := by
  obtain ⟨a, b⟩ := sizeI_bd v
  obtain ⟨c, d⟩ := facI_bd q
  exact ⟨Int.mul_nonneg a c, Int.le_trans (Int.mul_le_mul b d c (by omega)) (by decide)⟩
theorem div_bd {x f : Int} (h : 0 ≤ x) (hf : 1 ≤ f) : 0 ≤ x / f ∧ x / f ≤ x := ⟨Int.ediv_nonneg h (by omega), Int.ediv_le_self _ h⟩
theorem facI_zero {q : Int} (h : ¬ (0 ≤ q ∧ q ≤ 60)) : facI q = 0 := facI_out h
theorem offI_bd (q : Int) (b : Bool) : 0 ≤ offI q b ∧ offI q b ≤ 300000 := by
  have := facI_bd q
  unfold offI
  split
  · omega
  · split
    · omega
    · split
      · omega
      · split <;> omega

theorem thereI_of {v q : Int} (h : ¬ facI q = 0) : signI (4 * sizeI v / facI q) v = thereI v q := by unfold thereI; rw [if_neg h]

set_option maxHeartbeats 400000 in
theorem there_any (v q : Int) (w : World) (hv : v ≤ 9223372036854775807) :
    Calls Try.prog 23 #[.int .i64 v, .int .i64 q] w fun e w' => e = .returned (.int .i64 (thereI v q)) ∧ Below w.heap.size w w' := by
  by_cases h : 0 ≤ q ∧ q ≤ 60
  · have h4 := facI_0 h
    have hf := facI_bd q
    have hs := sizeI_bd v
    have hd := div_bd (x := 4 * sizeI v) (f := facI q) (by omega) (by omega)
    clear h
    go_enter Try.func23, Try.ntmps23
    go_wp2_with (first
      | (go_at_call 19; refine (factor_any _ _).mono ?_; rintro e w1 ⟨rfl, hb⟩)
      | (go_at_call 34; refine (apart_any _ _ hv).mono ?_; rintro e w' ⟨rfl, rfl⟩)
      | (go_at_call 35; refine (signed_any _ _ _ (by omega) (by omega)).mono ?_; rintro e w' ⟨rfl, rfl⟩))
    go_ret
    exact ⟨ret_eq (thereI_of (by omega)), hb⟩
  · have hz := facI_out h
    have hfin := Lib.hid (show thereI v q = 0 by unfold thereI; rw [if_pos hz])
    go_enter Try.func23, Try.ntmps23
    go_wp2_with (first
      | (go_at_call 19; refine (factor_any _ _).mono ?_; rintro e w1 ⟨rfl, hb⟩))
    go_ret
    exact ⟨ret_eq hfin.out.symm, hb⟩

set_option maxHeartbeats 400000 in
theorem refThere_any (v q : Int) (w : World) :
    Calls Try.prog 24 #[.int .i64 v, .int .i64 q] w fun e w' => e = .returned (.int .i64 (thereI v q)) ∧ w = w' := by
  by_cases h : 0 ≤ q ∧ q ≤ 60
  · have h4 := facI_0 h
    have hf := facI_bd q
    have hs := sizeI_bd v
    have hd := div_bd (x := sizeI v * 4) (f := facI q) (by omega) (by omega)
    clear h
    by_cases hneg : v < 0
    · go_enter Try.func24, Try.ntmps24
      go_wp2_with (first
        | (go_at_call 18; refine (refFactor_any _ _).mono ?_; rintro e w' ⟨rfl, rfl⟩)
        | (go_at_call 36; refine (size_any _ _).mono ?_; rintro e w' ⟨rfl, rfl⟩))
      go_ret
      exact ⟨ret_eq (by rw [← thereI_of (by omega)]; unfold signI; rw [if_pos hneg, Int.mul_comm]), rfl⟩
    · go_enter Try.func24, Try.ntmps24
      go_wp2_with (first
        | (go_at_call 18; refine (refFactor_any _ _).mono ?_; rintro e w' ⟨rfl, rfl⟩)
        | (go_at_call 36; refine (size_any _ _).mono ?_; rintro e w' ⟨rfl, rfl⟩))
      go_ret
      exact ⟨ret_eq (by rw [← thereI_of (by omega)]; unfold signI; rw [if_neg (by omega), Int.mul_comm]), rfl⟩
  · have hz := facI_out h
    have hfin := Lib.hid (show thereI v q = 0 by unfold thereI; rw [if_pos hz])
    go_enter Try.func24, Try.ntmps24
    go_wp2_with (first
      | (go_at_call 18; refine (refFactor_any _ _).mono ?_; rintro e w' ⟨rfl, rfl⟩))
    go_ret
    exact ⟨ret_eq hfin.out.symm, rfl⟩
end Go.Proofs.Ytinbiggchjhilaa
