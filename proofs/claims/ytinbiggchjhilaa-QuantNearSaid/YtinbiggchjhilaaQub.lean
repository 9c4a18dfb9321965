/- Contracts of quant.Back and shingleref11.Back; the first line of law 11. -/
import Derived.Test.YtinbiggchjhilaaQua
namespace Go.Proofs.Ytinbiggchjhilaa
open Go.RowKit

theorem sizeI_zero : sizeI 0 = 0 := by decide
theorem sizeI_ne {c : Int} (h : ¬ c = 0) : ¬ sizeI c = 0 := by unfold sizeI; split; omega; split <;> omega
theorem backI_of {c q : Int} {b : Bool} (h : ¬ facI q = 0) (hc : ¬ c = 0) : signI (minV ((sizeI c * facI q + offI q b + 2) / 4)) c = backI c q b := by unfold backI; rw [if_neg (by omega)]
theorem backI_zero {c q : Int} {b : Bool} (h : facI q = 0 ∨ c = 0) : backI c q b = 0 := by unfold backI; rw [if_pos h]

set_option maxHeartbeats 400000 in
theorem back_any (c q : Int) (b : Bool) (w : World) (hv : c ≤ 9223372036854775807) :
    Calls Try.prog 25 #[.int .i64 c, .int .i64 q, .bool b] w fun e w' => e = .returned (.int .i64 (backI c q b)) ∧ Below w.heap.size w w' := by
  by_cases h : 0 ≤ q ∧ q ≤ 60
  · have h4 := facI_0 h
    by_cases hc : c = 0
    · subst hc
      have hfin := Lib.hid (backI_zero (c := 0) (q := q) (b := b) (.inr rfl))
      have hz := sizeI_zero
      go_enter Try.func25, Try.ntmps25
      go_wp2_with (first
        | (go_at_call 19; refine (factor_any _ _).mono ?_; rintro e w1 ⟨rfl, hb⟩)
        | (go_at_call 34; refine (apart_any _ _ (by omega)).mono ?_; rintro e w' ⟨rfl, rfl⟩))
      go_ret
      exact ⟨ret_eq hfin.out.symm, hb⟩
    · have hf := facI_bd q
      have hs := sizeI_bd c
      have hm := mul_bd c q
      have ho := offI_bd q b
      have hnz : (sizeI c == 0) = false := beq_eq_false_iff_ne.2 (sizeI_ne hc)
      have hfz : (facI q == 0) = false := beq_eq_false_iff_ne.2 (by omega)
      have hfin := Lib.hid (backI_of (c := c) (q := q) (b := b) (by omega) hc)
      clear h h4 hc
      go_enter Try.func25, Try.ntmps25
      go_wp2_with (first
        | (go_at_call 19; refine (factor_any _ _).mono ?_; rintro e w1 ⟨rfl, hb⟩)
        | (go_at_call 20; refine (offset_any _ _ _).mono ?_; rintro e w2 ⟨rfl, hb2⟩; have hb := below2 hb hb2; clear hb2)
        | (go_at_call 34; refine (apart_any _ _ hv).mono ?_; rintro e w' ⟨rfl, rfl⟩)
        | (go_at_call 35; refine (signed_any _ _ _ (by omega) (by omega)).mono ?_; rintro e w' ⟨rfl, rfl⟩))
      all_goals
        go_ret
        exact ⟨ret_eq (by rw [← hfin.out]; unfold minV; first | rw [if_pos (by omega)] | rw [if_neg (by omega)]), by assumption⟩
  · have hz := facI_out h
    have hfin := Lib.hid (backI_zero (c := c) (q := q) (b := b) (.inl hz))
    go_enter Try.func25, Try.ntmps25
    go_wp2_with (first
      | (go_at_call 19; refine (factor_any _ _).mono ?_; rintro e w1 ⟨rfl, hb⟩)
      | (go_at_call 34; refine (apart_any _ _ hv).mono ?_; rintro e w' ⟨rfl, rfl⟩))
    go_ret
    exact ⟨ret_eq hfin.out.symm, hb⟩

set_option maxHeartbeats 400000 in
theorem refBack_any (c q : Int) (b : Bool) (w : World) :
    Calls Try.prog 26 #[.int .i64 c, .int .i64 q, .bool b] w fun e w' => e = .returned (.int .i64 (backI c q b)) ∧ w = w' := by
  by_cases h : 0 ≤ q ∧ q ≤ 60
  · have h4 := facI_0 h
    by_cases hc : c = 0
    · subst hc
      have hfin := Lib.hid (backI_zero (c := 0) (q := q) (b := b) (.inr rfl))
      have hfz : (facI q == 0) = false := beq_eq_false_iff_ne.2 (by omega)
      go_enter Try.func26, Try.ntmps26
      go_wp2_with (go_at_call 18; refine (refFactor_any _ _).mono ?_; rintro e w' ⟨rfl, rfl⟩)
      go_ret
      exact ⟨ret_eq hfin.out.symm, rfl⟩
    · have hf := facI_bd q
      have hs := sizeI_bd c
      have hm := mul_bd c q
      have ho := offI_bd q b
      have hnz : (c == 0) = false := beq_eq_false_iff_ne.2 hc
      have hfz : (facI q == 0) = false := beq_eq_false_iff_ne.2 (by omega)
      have hfin := Lib.hid (backI_of (c := c) (q := q) (b := b) (by omega) hc)
      clear h h4 hc
      by_cases hbig : 4398046511104 < (sizeI c * facI q + offI q b + 2) / 4
      · by_cases hneg : c < 0
        all_goals
          go_enter Try.func26, Try.ntmps26
          go_wp2_with (first
            | (go_at_call 18; refine (refFactor_any _ _).mono ?_; rintro e w' ⟨rfl, rfl⟩)
            | (go_at_call 36; refine (size_any _ _).mono ?_; rintro e w' ⟨rfl, rfl⟩)
            | (go_at_call 21; refine (refOffset_any _ _ _).mono ?_; rintro e w' ⟨rfl, rfl⟩))
          go_ret
          exact ⟨ret_eq (by rw [← hfin.out]; unfold minV signI; rw [if_pos (c := _ < (_ : Int)) hbig]; first | rw [if_pos (by omega)] | rw [if_neg (by omega)]), rfl⟩
      · by_cases hneg : c < 0
        all_goals
          go_enter Try.func26, Try.ntmps26
          go_wp2_with (first
            | (go_at_call 18; refine (refFactor_any _ _).mono ?_; rintro e w' ⟨rfl, rfl⟩)
            | (go_at_call 36; refine (size_any _ _).mono ?_; rintro e w' ⟨rfl, rfl⟩)
            | (go_at_call 21; refine (refOffset_any _ _ _).mono ?_; rintro e w' ⟨rfl, rfl⟩))
          go_ret
          exact ⟨ret_eq (by rw [← hfin.out]; have hbig' : ¬ 4398046511104 < (sizeI c * facI q + offI q b + 2) / 4 := by omega
                            unfold minV signI; rw [if_neg hbig']; first | rw [if_pos (by omega)] | rw [if_neg (by omega)]), rfl⟩
  · have hz := facI_out h
    have hfin := Lib.hid (backI_zero (c := c) (q := q) (b := b) (.inl hz))
    go_enter Try.func26, Try.ntmps26
    go_wp2_with (go_at_call 18; refine (refFactor_any _ _).mono ?_; rintro e w' ⟨rfl, rfl⟩)
    go_ret
    exact ⟨ret_eq hfin.out.symm, rfl⟩

set_option maxHeartbeats 400000 in
theorem first11 (w : World) :
    Calls Try.prog 22 #[] w fun e w' => e = .returned (.bool true) ∧ Below w.heap.size w w' := by
  have e1 : thereI 21 4 = 10 := by decide
  have e2 : backI 10 4 false = 21 := by decide
  have e3 : thereI (-21) 0 = -21 := by decide
  have e4 : backI (-21) 0 true = -21 := by decide
  have e5 : nearN 99 0 60 = 60 := by decide
  have e6 : nearN (-1125899906842624) (-4398046511104) 4398046511104 = -4398046511104 := by decide
  have e7 : backI 0 9 true = 0 := by decide
  have hB := Below.refl w.heap.size w
  go_enter Try.func22, Try.ntmps22
  go_wp2_with (first
    | (go_at_call 23; refine (there_any _ _ _ (by decide)).mono ?_; rintro e w2 ⟨rfl, hb2⟩; have hB := below2 hB hb2; clear hb2)
    | (go_at_call 25; refine (back_any _ _ _ _ (by decide)).mono ?_; rintro e w2 ⟨rfl, hb2⟩; have hB := below2 hB hb2; clear hb2)
    | (go_at_call 27; refine (qclamp_any _ _).mono ?_; rintro e w' ⟨rfl, rfl⟩)
    | (go_at_call 29; refine (qclip_any _ _).mono ?_; rintro e w' ⟨rfl, rfl⟩))
  go_ret
  exact ⟨rfl, hB⟩
end Go.Proofs.Ytinbiggchjhilaa
