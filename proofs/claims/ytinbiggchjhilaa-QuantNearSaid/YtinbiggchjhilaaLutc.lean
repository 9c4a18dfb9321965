/- Contracts of lut.quarters, lut.Factor, lut.Offset, lut.Steps, lut.Factors. -/
import Derived.Test.YtinbiggchjhilaaLutb
namespace Go.Proofs.Ytinbiggchjhilaa
open Go.RowKit

def quartersV : Value := .agg #[.int .i64 4, .int .i64 0, .int .i64 1, .int .i64 503829, .int .i64 52958, .int .i64 105917, .int .i64 665857, .int .i64 58854, .int .i64 117708, .int .i64 440253, .int .i64 32722, .int .i64 65444]

theorem quarters_any (w : World) :
    Calls Try.prog 33 #[] w fun e w' => e = .returned quartersV ∧ Below w.heap.size w w' := by
  go_enter Try.func33, Try.ntmps33
  go_wp2
  refine bodyPost_ret (v := quartersV) (by simp [results, Try.results33, go_sem, quartersV]) rfl ⟨rfl, ?_⟩
  exact (((Below.refl _ _).alloc (Nat.le_refl _) _))

theorem right_yes (q : Int) (w : World) (h0 : 0 ≤ q) (h1 : q ≤ 60) :
    Calls Try.prog 32 #[.int .i64 q] w fun e w' => e = .returned (.bool true) ∧ w = w' := by
  go_enter Try.func32, Try.ntmps32
  go_wp2
  go_ret
  exact ⟨retb_eq (by simp <;> omega), rfl⟩
theorem right_no (q : Int) (w : World) (h : ¬ (0 ≤ q ∧ q ≤ 60)) :
    Calls Try.prog 32 #[.int .i64 q] w fun e w' => e = .returned (.bool false) ∧ w = w' := by
  by_cases h0 : 0 ≤ q
  · have h1 : ¬ q ≤ 60 := by omega
    go_enter Try.func32, Try.ntmps32
    go_wp2
    go_ret
    exact ⟨retb_eq (by simp <;> omega), rfl⟩
  · go_enter Try.func32, Try.ntmps32
    go_wp2
    go_ret
    exact ⟨retb_eq (by simp <;> omega), rfl⟩

theorem idx0 : ∀ w, (Instr.index 42 quartersV (.int .i64 0)).run Try.prog w = .ok (.agg #[.int .i64 4, .int .i64 0, .int .i64 1]) w := fun _ => by kernel_rfl
theorem idx1 : ∀ w, (Instr.index 42 quartersV (.int .i64 1)).run Try.prog w = .ok (.agg #[.int .i64 503829, .int .i64 52958, .int .i64 105917]) w := fun _ => by kernel_rfl
theorem idx2 : ∀ w, (Instr.index 42 quartersV (.int .i64 2)).run Try.prog w = .ok (.agg #[.int .i64 665857, .int .i64 58854, .int .i64 117708]) w := fun _ => by kernel_rfl
theorem idx3 : ∀ w, (Instr.index 42 quartersV (.int .i64 3)).run Try.prog w = .ok (.agg #[.int .i64 440253, .int .i64 32722, .int .i64 65444]) w := fun _ => by kernel_rfl

theorem wrap_id {x : Int} (h0 : -9223372036854775808 ≤ x) (h1 : x ≤ 9223372036854775807) : wrap64 x = x := by unfold wrap64; omega
theorem fac_wrap (A C D P : Int) (hP0 : 1 ≤ P) (hP1 : P ≤ 32768) (hA0 : 0 ≤ A) (hA1 : A ≤ 1000000) (hC0 : 0 ≤ C) (hC1 : C ≤ 1000000) (hD : 1 ≤ D) :
    wrap64 ((wrap64 (wrap64 (A * P) + C)).tdiv D) = (A * P + C) / D := by
  have h1 : 0 ≤ A * P := Int.mul_nonneg hA0 (by omega)
  have h2 : A * P ≤ 1000000 * 32768 := Int.mul_le_mul hA1 hP1 (by omega) (by omega)
  rw [wrap_id (x := A * P) (by omega) (by omega), wrap_id (x := A * P + C) (by omega) (by omega), Int.tdiv_eq_ediv_of_nonneg (by omega)]
  have h3 : 0 ≤ (A * P + C) / D := Int.ediv_nonneg (by omega) (by omega)
  have h4 : (A * P + C) / D ≤ A * P + C := Int.ediv_le_self _ (by omega)
  exact wrap_id (by omega) (by omega)
theorem powI (n : Nat) : (2 : Int) ^ n = ((2 ^ n : Nat) : Int) := by simp
theorem fac_1 (q : Int) (h0 : 0 ≤ q) (h1 : q ≤ 60) (hr : q % 4 = 1) : wrap64 ((wrap64 (wrap64 (503829 * 2 ^ (q / 4).toNat) + 52958)).tdiv 105917) = facI q := by
  have hp := pow_bd (k := (q / 4).toNat) (by omega)
  rw [facI_in h0 h1, powI]
  rw [fac_wrap 503829 52958 105917 _ (by omega) (by omega) (by omega) (by omega) (by omega) (by omega) (by omega)]
  unfold facB; rw [if_pos hr]
theorem fac_2 (q : Int) (h0 : 0 ≤ q) (h1 : q ≤ 60) (hr : q % 4 = 2) : wrap64 ((wrap64 (wrap64 (665857 * 2 ^ (q / 4).toNat) + 58854)).tdiv 117708) = facI q := by
  have hp := pow_bd (k := (q / 4).toNat) (by omega)
  rw [facI_in h0 h1, powI]
  rw [fac_wrap 665857 58854 117708 _ (by omega) (by omega) (by omega) (by omega) (by omega) (by omega) (by omega)]
  unfold facB; rw [if_neg (by omega), if_pos hr]
theorem fac_3 (q : Int) (h0 : 0 ≤ q) (h1 : q ≤ 60) (hr : q % 4 = 3) : wrap64 ((wrap64 (wrap64 (440253 * 2 ^ (q / 4).toNat) + 32722)).tdiv 65444) = facI q := by
  have hp := pow_bd (k := (q / 4).toNat) (by omega)
  rw [facI_in h0 h1, powI]
  rw [fac_wrap 440253 32722 65444 _ (by omega) (by omega) (by omega) (by omega) (by omega) (by omega) (by omega)]
  unfold facB; rw [if_neg (by omega), if_neg (by omega), if_pos hr]
theorem fac_0 (q : Int) (h0 : 0 ≤ q) (h1 : q ≤ 60) (hr : q % 4 = 0) : wrap64 (wrap64 (wrap64 (4 * 2 ^ (q / 4).toNat))) = facI q := by
  have hp := pow_bd (k := (q / 4).toNat) (by omega)
  rw [facI_in h0 h1, powI]
  have e := wrap_id (x := 4 * ((2 ^ (q / 4).toNat : Nat) : Int)) (by omega) (by omega)
  rw [e, e, e]
  unfold facB; rw [if_neg (by omega), if_neg (by omega), if_neg (by omega)]

set_option maxHeartbeats 1000000 in
theorem factor_0 (q : Int) (w : World) (h0 : 0 ≤ q) (h1 : q ≤ 60) (hr : q % 4 = 0) :
    Calls Try.prog 19 #[.int .i64 q] w fun e w' => e = .returned (.int .i64 (facI q)) ∧ Below w.heap.size w w' := by
  have hi := idx0
  go_enter Try.func19, Try.ntmps19
  go_wp2_with (first | (go_at_call 32; refine (right_yes _ _ h0 h1).mono ?_; rintro e w' ⟨rfl, rfl⟩) | (go_at_call 33; refine (quarters_any _).mono ?_; rintro e w' ⟨rfl, hb⟩))
  go_quiet (fail)
  go_wp2
  go_ret
  exact ⟨ret_eq (fac_0 q h0 h1 hr), below_drewN (hb.alloc hb.size _) _⟩

set_option maxHeartbeats 1000000 in
theorem factor_1 (q : Int) (w : World) (h0 : 0 ≤ q) (h1 : q ≤ 60) (hr : q % 4 = 1) :
    Calls Try.prog 19 #[.int .i64 q] w fun e w' => e = .returned (.int .i64 (facI q)) ∧ Below w.heap.size w w' := by
  have hi := idx1
  go_enter Try.func19, Try.ntmps19
  go_wp2_with (first | (go_at_call 32; refine (right_yes _ _ h0 h1).mono ?_; rintro e w' ⟨rfl, rfl⟩) | (go_at_call 33; refine (quarters_any _).mono ?_; rintro e w' ⟨rfl, hb⟩))
  go_quiet (fail)
  go_wp2
  go_ret
  exact ⟨ret_eq (fac_1 q h0 h1 hr), below_drewN (hb.alloc hb.size _) _⟩

set_option maxHeartbeats 1000000 in
theorem factor_2 (q : Int) (w : World) (h0 : 0 ≤ q) (h1 : q ≤ 60) (hr : q % 4 = 2) :
    Calls Try.prog 19 #[.int .i64 q] w fun e w' => e = .returned (.int .i64 (facI q)) ∧ Below w.heap.size w w' := by
  have hi := idx2
  go_enter Try.func19, Try.ntmps19
  go_wp2_with (first | (go_at_call 32; refine (right_yes _ _ h0 h1).mono ?_; rintro e w' ⟨rfl, rfl⟩) | (go_at_call 33; refine (quarters_any _).mono ?_; rintro e w' ⟨rfl, hb⟩))
  go_quiet (fail)
  go_wp2
  go_ret
  exact ⟨ret_eq (fac_2 q h0 h1 hr), below_drewN (hb.alloc hb.size _) _⟩

set_option maxHeartbeats 1000000 in
theorem factor_3 (q : Int) (w : World) (h0 : 0 ≤ q) (h1 : q ≤ 60) (hr : q % 4 = 3) :
    Calls Try.prog 19 #[.int .i64 q] w fun e w' => e = .returned (.int .i64 (facI q)) ∧ Below w.heap.size w w' := by
  have hi := idx3
  go_enter Try.func19, Try.ntmps19
  go_wp2_with (first | (go_at_call 32; refine (right_yes _ _ h0 h1).mono ?_; rintro e w' ⟨rfl, rfl⟩) | (go_at_call 33; refine (quarters_any _).mono ?_; rintro e w' ⟨rfl, hb⟩))
  go_quiet (fail)
  go_wp2
  go_ret
  exact ⟨ret_eq (fac_3 q h0 h1 hr), below_drewN (hb.alloc hb.size _) _⟩

theorem factor_any (q : Int) (w : World) :
    Calls Try.prog 19 #[.int .i64 q] w fun e w' => e = .returned (.int .i64 (facI q)) ∧ Below w.heap.size w w' := by
  by_cases h : 0 ≤ q ∧ q ≤ 60
  · obtain ⟨h0, h1⟩ := h
    by_cases r1 : q % 4 = 1
    · exact factor_1 q w h0 h1 r1
    by_cases r2 : q % 4 = 2
    · exact factor_2 q w h0 h1 r2
    by_cases r3 : q % 4 = 3
    · exact factor_3 q w h0 h1 r3
    exact factor_0 q w h0 h1 (by omega)
  · have hfi := Lib.hid (facI_out h)
    have hn := Lib.hid h
    clear h
    go_enter Try.func19, Try.ntmps19
    go_wp2_with (first | (go_at_call 32; refine (right_no _ _ hn.out).mono ?_; rintro e w' ⟨rfl, rfl⟩))
    go_ret
    exact ⟨ret_eq hfi.out.symm, Below.refl _ _⟩

theorem facI_bd (q : Int) : 0 ≤ facI q ∧ facI q ≤ 300000 := by
  unfold facI
  split
  · rename_i h
    have hp := pow_bd (k := (q / 4).toNat) (by omega)
    unfold facB
    split
    · omega
    · split
      · omega
      · split <;> omega
  · omega

/-- the offset of a quantiser -/
def offI (q : Int) (b : Bool) : Int := if ¬ (0 ≤ q ∧ q ≤ 60) then 0 else if q = 0 then 1 else if b = true then (3 * facI q + 4) / 8 else if q = 1 then 2 else (facI q + 1) / 2

theorem facI_0 {q : Int} (h : 0 ≤ q ∧ q ≤ 60) : 4 ≤ facI q := by
  have hp := pow_bd (k := (q / 4).toNat) (by omega)
  rw [facI_in h.1 h.2]
  unfold facB
  split
  · omega
  · split
    · omega
    · split <;> omega
end Go.Proofs.Ytinbiggchjhilaa
