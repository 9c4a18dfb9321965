/- Which codes there are: contracts of Picture and Known, the program's and the document's; of Code. -/
import Derived.Test.YtbekkdlgibijdaaCuO
import Derived.Laws.BitsAllLaws
namespace Go.Proofs.Ytbekkdlgibijdaa
open Go.RowKit

theorem bits_andNot64 (c : Int) : bits .andNot .i64 c 12 = IntKind.i64.wrap ((BitVec.ofInt 64 c &&& ~~~12#64).toNat : Int) := rfl
theorem pic_small (c : Int) (h0 : -9223372036854775808 ≤ c) (h1 : c ≤ 9223372036854775807) (x0 : 0 ≤ bits .andNot .i64 c 12) (x2 : bits .andNot .i64 c 12 ≤ 2) : 0 ≤ c ∧ c < 16 := by
  rw [bits_andNot64, IntKind.wrap_i64] at x0 x2
  obtain ⟨N, hN⟩ : ∃ N, N = (BitVec.ofInt 64 c &&& ~~~12#64).toNat := ⟨_, rfl⟩
  have hN64 : N < 18446744073709551616 := by rw [hN]; exact (BitVec.ofInt 64 c &&& ~~~12#64).isLt
  rw [← hN] at x0 x2
  have hN2 : N ≤ 2 := by omega
  obtain ⟨M, hM⟩ : ∃ M, M = (BitVec.ofInt 64 c).toNat := ⟨_, rfl⟩
  have hand : N = M &&& 18446744073709551603 := by
    rw [hN, BitVec.toNat_and, ← hM]
    rfl
  have hM64 : M < 2 ^ 64 := by rw [hM]; exact (BitVec.ofInt 64 c).isLt
  have hM16 : M < 2 ^ 4 := by
    apply Nat.lt_pow_two_of_testBit
    intro i hi
    by_cases h64 : 64 ≤ i
    · exact Nat.testBit_lt_two_pow (Nat.lt_of_lt_of_le hM64 (Nat.pow_le_pow_right (by omega) h64))
    · have hNi : N.testBit i = false := Nat.testBit_lt_two_pow (Nat.lt_of_le_of_lt hN2 (Nat.lt_of_lt_of_le (by decide : 2 < 2 ^ 4) (Nat.pow_le_pow_right (by omega) hi)))
      rw [hand, Nat.testBit_and] at hNi
      have hbit : Nat.testBit 18446744073709551603 i = true := by
        have : ∀ j, j < 64 → 4 ≤ j → Nat.testBit 18446744073709551603 j = true := by decide
        exact this i (by omega) hi
      rw [hbit, Bool.and_true] at hNi
      exact hNi
  have hc : (M : Int) = c % 18446744073709551616 := by
    rw [hM, BitVec.toNat_ofInt]
    have : (0 : Int) ≤ c % 18446744073709551616 := Int.emod_nonneg _ (by decide)
    show ((c % ((2 ^ 64 : Nat) : Int)).toNat : Int) = _
    omega
  omega

/-- what picture a code is: references, kept -/
def picI (c : Int) : Option (Nat × Bool) :=
  if 8 ≤ c ∧ c ≤ 10 then some ((c - 8).toNat, false) else if 12 ≤ c ∧ c ≤ 14 then some ((c - 12).toNat, true) else none
def picT (c : Int) : Value := match picI c with
  | some (n, k) => .tuple #[.int .i64 (n : Nat), .bool k, .bool true]
  | none => .tuple #[.int .i64 0, .bool false, .bool false]
theorem picT_none {c : Int} (h : ¬ (8 ≤ c ∧ c ≤ 10 ∨ 12 ≤ c ∧ c ≤ 14)) : picT c = .tuple #[.int .i64 0, .bool false, .bool false] := by
  unfold picT picI
  rw [if_neg (by omega), if_neg (by omega)]
theorem pic_else {c : Int} (h0 : -9223372036854775808 ≤ c) (h1 : c ≤ 9223372036854775807) (h : ¬ (8 ≤ c ∧ c ≤ 10 ∨ 12 ≤ c ∧ c ≤ 14)) :
    (bits .and .i64 c 8 == 0) = true ∨ ((bits .and .i64 c 8 == 0) = false ∧ bits .andNot .i64 c 12 < 0) ∨ ((bits .and .i64 c 8 == 0) = false ∧ 0 ≤ bits .andNot .i64 c 12 ∧ 2 < bits .andNot .i64 c 12) := by
  cases hy : (bits .and .i64 c 8 == 0) with
  | true => exact .inl rfl
  | false =>
    refine .inr ?_
    by_cases hx : bits .andNot .i64 c 12 < 0
    · exact .inl ⟨rfl, hx⟩
    · refine .inr ⟨rfl, by omega, ?_⟩
      apply Classical.byContradiction
      intro hx2
      obtain ⟨c0, c1⟩ := pic_small c h0 h1 (by omega) (by omega)
      obtain ⟨n, rfl⟩ : ∃ n : Nat, c = n := ⟨c.toNat, by omega⟩
      have key : ∀ n : Nat, n < 16 → ¬ (8 ≤ (n : Int) ∧ (n : Int) ≤ 10 ∨ 12 ≤ (n : Int) ∧ (n : Int) ≤ 14) → (bits .and .i64 (n : Int) 8 == 0) = false → 0 ≤ bits .andNot .i64 (n : Int) 12 → bits .andNot .i64 (n : Int) 12 ≤ 2 → False := by decide
      exact key n (by omega) h hy (by omega) (by omega)
theorem pic_any (c : Int) (h0 : -9223372036854775808 ≤ c) (h1 : c ≤ 9223372036854775807) (w : World) : Calls Try.prog 31 #[.int .i64 c] w fun e w' => e = .returned (picT c) ∧ w = w' := by
  by_cases h : 8 ≤ c ∧ c ≤ 10 ∨ 12 ≤ c ∧ c ≤ 14
  · have hc : c = 8 ∨ c = 9 ∨ c = 10 ∨ c = 12 ∨ c = 13 ∨ c = 14 := by omega
    clear h
    rcases hc with rfl | rfl | rfl | rfl | rfl | rfl
    all_goals
      go_enter Try.func31, Try.ntmps31
      go_wp2
      go_ret3
      exact ⟨rfl, rfl⟩
  · rw [picT_none h]
    have hX := pic_else h0 h1 h
    obtain ⟨X, hx⟩ : ∃ X, X = bits .andNot .i64 c 12 := ⟨_, rfl⟩
    obtain ⟨Y, hy⟩ : ∃ Y, Y = bits .and .i64 c 8 := ⟨_, rfl⟩
    clear h
    rcases hX with hX | ⟨hY, hX⟩ | ⟨hY, hX0, hX⟩
    all_goals
      go_enter Try.func31, Try.ntmps31
      go_wp2
      go_ret3
      exact ⟨rfl, rfl⟩
end Go.Proofs.Ytbekkdlgibijdaa
