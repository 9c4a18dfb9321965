/- Contracts of Right and of the document's Right; the anchors, plainly. -/
import Derived.Test.YtmnkbcigjbiniaaRows
import Derived.WalkKit
import Derived.WalkSpells
import Derived.WalkLawsBesides
import Derived.Deep.QuietTactic
import Derived.BigQuiet
import Derived.Lib.Hide
import Derived.RangeFuncBox
import Derived.RangeFuncNested
namespace Go.Proofs.Ytmnkbcigjbiniaa
open Go.RowKit

theorem ret_eq {k : IntKind} {a b : Int} (h : a = b) : Ending.returned (.int k a) = .returned (.int k b) := by rw [h]
theorem retb_eq {a b : Bool} (h : a = b) : Ending.returned (.bool a) = .returned (.bool b) := by rw [h]
theorem below2 {w a b : World} (h1 : Below w.heap.size w a) (h2 : Below a.heap.size a b) : Below w.heap.size w b := h1.trans (h2.mono h1.size)
theorem block_lt {w : World} {B : Nat} {o : Obj} (h : w.heap[B]? = some o) : B < w.heap.size := (Array.getElem?_eq_some_iff.1 h).1
theorem block_later {V V' : World} {B : Nat} {o : Obj} (h : V.heap[B]? = some o) (hb : Below V.heap.size V V') : V'.heap[B]? = some o := (hb.block _ (block_lt h)).trans h
theorem cell_later {V V' : World} {a : Addr} {u : Value} (h : V.cell? a = some u) (hb : Below V.heap.size V V') : V'.cell? a = some u := (hb.cell (block_lt_of_cell h)).trans h
theorem keep_alloc {w : World} {a : Addr} {v : Value} (h : w.cell? a = some v) (o : Obj) : (w.alloc o).cell? a = some v := cell_later h ((Below.refl _ w).alloc (Nat.le_refl _) o)

/-- a gop that may be -/
def rightG (p b : Int) : Bool := decide (0 ≤ p) && decide (p ≤ 1000) && decide (0 ≤ b) && decide (b ≤ 7)
theorem rightG_yes {p b : Int} (h : rightG p b = true) : 0 ≤ p ∧ p ≤ 1000 ∧ 0 ≤ b ∧ b ≤ 7 := by
  simp only [rightG, Bool.and_eq_true, decide_eq_true_eq] at h; omega
theorem rightG_of {p b : Int} (h : 0 ≤ p ∧ p ≤ 1000 ∧ 0 ≤ b ∧ b ≤ 7) : rightG p b = true := by
  simp only [rightG, Bool.and_eq_true, decide_eq_true_eq]; omega
theorem rightG_no {p b : Int} (h : ¬ (0 ≤ p ∧ p ≤ 1000 ∧ 0 ≤ b ∧ b ≤ 7)) : rightG p b = false := by
  cases h0 : rightG p b with
  | true => exact absurd (rightG_yes h0) h
  | false => rfl

set_option maxHeartbeats 800000 in
theorem right_any (p b : Int) (w : World) : Calls Try.prog 12 #[.agg #[.int .i64 p, .int .i64 b]] w fun e w' => e = .returned (.bool (rightG p b)) ∧ Below w.heap.size w w' := by
  have hB := (Below.refl w.heap.size w).alloc (Nat.le_refl _) (.cells #[.int .i64 p, .int .i64 b] 23)
  have hf : ∀ c, c = rightG p b → Ending.returned (.bool c) = .returned (.bool (rightG p b)) := fun b h => by rw [h]
  have HF := Lib.hid hf
  have HB := Lib.hid hB
  clear hf hB
  go_enter Try.func12, Try.ntmps12
  go_wp2
  all_goals
    go_ret
    exact ⟨HF.out _ (by unfold rightG; simp_all <;> omega), HB.out⟩
set_option maxHeartbeats 800000 in
theorem refRight_any (p b : Int) (w : World) : Calls Try.prog 13 #[.agg #[.int .i64 p, .int .i64 b]] w fun e w' => e = .returned (.bool (rightG p b)) ∧ Below w.heap.size w w' := by
  have hB := (Below.refl w.heap.size w).alloc (Nat.le_refl _) (.cells #[.int .i64 p, .int .i64 b] 23)
  have hf : ∀ c, c = rightG p b → Ending.returned (.bool c) = .returned (.bool (rightG p b)) := fun b h => by rw [h]
  have HF := Lib.hid hf
  have HB := Lib.hid hB
  clear hf hB
  go_enter Try.func13, Try.ntmps13
  go_wp2
  all_goals
    go_ret
    exact ⟨HF.out _ (by unfold rightG; simp_all <;> omega), HB.out⟩

/-! The anchors of N pictures, one every s. -/
def cntG (N s : Nat) : Nat := (N - 1) / s + 1 + (N - 1) % s
def ancG (N s k : Nat) : Nat := if k ≤ (N - 1) / s then k * s else (N - 1) / s * s + (k - (N - 1) / s)
theorem step_iff {N s k : Nat} (hN : 1 ≤ N) (hs : 1 ≤ s) : k ≤ (N - 1) / s ↔ k * s < N := by
  rw [Nat.le_div_iff_mul_le (by omega)]
  omega
theorem anc_lo {N s k : Nat} (h : k ≤ (N - 1) / s) : ancG N s k = k * s := by unfold ancG; rw [if_pos h]
theorem anc_hi {N s k : Nat} (h : (N - 1) / s ≤ k) : ancG N s k = (N - 1) / s * s + (k - (N - 1) / s) := by
  unfold ancG
  by_cases c : k ≤ (N - 1) / s
  · obtain rfl : k = (N - 1) / s := by omega
    simp
  · rw [if_neg c]
theorem div_mod (N s : Nat) : (N - 1) / s * s + (N - 1) % s = N - 1 := by rw [Nat.mul_comm]; exact Nat.div_add_mod _ _
theorem anc_zero (N s : Nat) : ancG N s 0 = 0 := by rw [anc_lo (Nat.zero_le _)]; simp
theorem anc_succ {N s k : Nat} (hs : 1 ≤ s) : ancG N s k < ancG N s (k + 1) ∧ ancG N s (k + 1) ≤ ancG N s k + s := by
  by_cases c : k + 1 ≤ (N - 1) / s
  · rw [anc_lo c, anc_lo (by omega : k ≤ _), Nat.add_mul]; omega
  · rw [anc_hi (by omega : (N - 1) / s ≤ k + 1)]
    by_cases d : k ≤ (N - 1) / s
    · rw [anc_lo d]
      obtain e : k = (N - 1) / s := by omega
      rw [← e]; omega
    · rw [anc_hi (by omega : (N - 1) / s ≤ k)]; omega
theorem anc_lt {N s k : Nat} (hN : 1 ≤ N) (hs : 1 ≤ s) (hk : k < cntG N s) : ancG N s k < N := by
  have := div_mod N s
  unfold cntG at hk
  by_cases c : k ≤ (N - 1) / s
  · rw [anc_lo c]; exact (step_iff hN hs).1 c
  · rw [anc_hi (by omega)]; omega
theorem anc_last {N s : Nat} : ancG N s (cntG N s - 1) = N - 1 := by
  have := div_mod N s
  unfold cntG
  rw [anc_hi (by omega)]
  omega
theorem cnt_le {N s : Nat} (hN : 1 ≤ N) (hs : 1 ≤ s) : cntG N s ≤ N := by
  have h1 := div_mod N s
  have h2 := Nat.mul_le_mul_left ((N - 1) / s) hs
  unfold cntG
  omega
/-- of any number of pictures -/
def okA (n p b : Int) : Bool := rightG p b && decide (1 ≤ n) && decide (n ≤ 1000)
def stepA (b : Int) : Nat := b.toNat + 1
def cntA (n p b : Int) : Nat := if okA n p b = true then cntG n.toNat (stepA b) else 0
def ancA (n b : Int) (k : Nat) : Nat := ancG n.toNat (stepA b) k
def ancV (n b : Int) (k : Nat) : Value := .int .i64 (ancA n b k : Nat)
theorem okA_yes {n p b : Int} (h : okA n p b = true) : (0 ≤ p ∧ p ≤ 1000 ∧ 0 ≤ b ∧ b ≤ 7) ∧ 1 ≤ n ∧ n ≤ 1000 := by
  simp only [okA, Bool.and_eq_true, decide_eq_true_eq] at h
  exact ⟨rightG_yes h.1.1, h.1.2, h.2⟩
theorem cntA_le (n p b : Int) : cntA n p b ≤ 1000 := by
  unfold cntA
  split
  · rename_i h
    obtain ⟨_, h1, h2⟩ := okA_yes h
    have := cnt_le (N := n.toNat) (s := stepA b) (by omega) (by unfold stepA; omega)
    omega
  · omega
end Go.Proofs.Ytmnkbcigjbiniaa
