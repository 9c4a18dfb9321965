/- GopHolds: the plain law: which numbers have come, and how far one is ahead. -/
import Derived.Test.YtmnkbcigjbiniaaDlW
namespace Go.Proofs.Ytmnkbcigjbiniaa.gopHolds
open Go.RowKit

variable {n p b : Int}
theorem ahead_prefix {k : Nat} : ∀ {j : Nat}, k ≤ j → ∃ r, ahead n p b j = ahead n p b k ++ r := by
  intro j
  induction j with
  | zero => intro h; obtain rfl : k = 0 := by omega
            exact ⟨[], by simp⟩
  | succ j ih =>
    intro h
    by_cases c : k = j + 1
    · subst c; exact ⟨[], by simp⟩
    · obtain ⟨r, hr⟩ := ih (by omega)
      exact ⟨r ++ groupG n p b j, by rw [ahead_succ, hr, List.append_assoc]⟩
theorem shots_split {k : Nat} (hk : k < cntA n p b) : ∃ r, shots n p b = ahead n p b k ++ groupG n p b k ++ r := by
  obtain ⟨r, hr⟩ := ahead_prefix (n := n) (p := p) (b := b) (show k + 1 ≤ cntA n p b by omega)
  rw [ahead_all, ahead_succ] at hr
  exact ⟨r, hr⟩
/-- where the k-th group begins -/
def tk (n p b : Int) (k : Nat) : Nat := (ahead n p b k).length
theorem tk_zero : tk n p b 0 = 0 := rfl
theorem tk_succ (k : Nat) : tk n p b (k + 1) = ancA n b k + 1 := ahead_length k
theorem tk_next (k : Nat) : tk n p b (k + 1) = tk n p b k + 1 + gapN n b k := by unfold tk; rw [ahead_succ, List.length_append, group_len]; omega
theorem get_anchor {k : Nat} (hk : k < cntA n p b) : (shots n p b)[tk n p b k]? = some (anchorSh n p b k) := by
  obtain ⟨r, hr⟩ := shots_split hk
  unfold tk
  rw [hr, List.append_assoc, List.getElem?_append_right (Nat.le_refl _), Nat.sub_self]
  rfl
theorem get_btw {k j : Nat} (hk : k < cntA n p b) (hj : j < gapN n b k) : (shots n p b)[tk n p b k + 1 + j]? = some (btwSh n b k j) := by
  obtain ⟨r, hr⟩ := shots_split hk
  rw [hr, List.append_assoc, List.getElem?_append_right (by unfold tk; omega)]
  unfold tk groupG
  rw [show (ahead n p b k).length + 1 + j - (ahead n p b k).length = j + 1 by omega, List.cons_append, List.getElem?_cons_succ, List.getElem?_append_left (by simp; omega)]
  simp [hj]
theorem take_part {k j : Nat} (hk : k < cntA n p b) (hj : j ≤ gapN n b k) : (shots n p b).take (tk n p b k + 1 + j) = partG n p b k j := by
  obtain ⟨r, hr⟩ := shots_split hk
  rw [hr, List.append_assoc]
  unfold tk partG groupG
  rw [List.take_append, List.take_of_length_le (by omega), show (ahead n p b k).length + 1 + j - (ahead n p b k).length = j + 1 by omega, List.cons_append, List.take_succ_cons, List.take_append_of_le_length (by simp; omega), ← List.map_take, List.take_range, Nat.min_eq_left hj]
theorem take_ahead {k : Nat} (hk : k ≤ cntA n p b) : (shots n p b).take (tk n p b k) = ahead n p b k := by
  obtain ⟨r, hr⟩ := ahead_prefix (n := n) (p := p) (b := b) hk
  rw [ahead_all] at hr
  rw [hr]
  unfold tk
  simp
/-- has number m come, j between anchors k - 1 and k having come? -/
def cameB (n b : Int) (k j m : Nat) : Bool := decide (k = 0 ∧ m = 0) || (decide (0 < k) && (decide (m ≤ ancA n b (k - 1) + j) || decide (m = ancA n b k)))
theorem came_full {k : Nat} (m : Nat) : cameB n b k (gapN n b k) m = decide (m ≤ ancA n b k) := by
  unfold cameB gapN
  rcases Nat.eq_zero_or_pos k with h | h
  · subst h
    have : ancA n b 0 = 0 := anc_zero _ _
    rw [this]
    simp
  · have := (ancA_succ n b (k - 1)).1
    rw [show k - 1 + 1 = k by omega] at this
    rw [if_neg (by omega), Bool.eq_iff_iff]
    simp only [Bool.or_eq_true, Bool.and_eq_true, decide_eq_true_eq]
    omega
theorem came_next {k j : Nat} (hk : 0 < k) (m : Nat) : cameB n b k (j + 1) m = (cameB n b k j m || decide (m = ancA n b (k - 1) + 1 + j)) := by
  unfold cameB
  rw [Bool.eq_iff_iff]
  simp only [Bool.or_eq_true, Bool.and_eq_true, decide_eq_true_eq]
  omega
theorem came_anchor {k : Nat} (m : Nat) : cameB n b (k + 1) 0 m = (decide (m ≤ ancA n b k) || decide (m = ancA n b (k + 1))) := by
  unfold cameB
  rw [Bool.eq_iff_iff]
  simp only [Bool.or_eq_true, Bool.and_eq_true, decide_eq_true_eq]
  rw [show k + 1 - 1 = k by omega]
  omega
theorem mem_part {k j : Nat} (hj : j ≤ gapN n b k) : (∀ m : Int, m ∈ (ahead n p b k).map (·.num) ↔ ∃ m' : Nat, m = m' ∧ m' < tk n p b k) → ∀ m : Int, m ∈ (partG n p b k j).map (·.num) ↔ ∃ m' : Nat, m = m' ∧ cameB n b k j m' = true := by
  intro h m
  unfold partG
  rw [List.map_append, List.mem_append, h m]
  simp only [List.map_cons, List.map_map, List.mem_cons, List.mem_map, List.mem_range, Function.comp]
  have hs := (ancA_succ n b (k - 1)).1
  constructor
  · rintro (⟨m', rfl, h1⟩ | rfl | ⟨i, hi, rfl⟩)
    · refine ⟨m', rfl, ?_⟩
      unfold cameB
      rcases Nat.eq_zero_or_pos k with h0 | h0
      · subst h0; rw [tk_zero] at h1; omega
      · obtain ⟨k', rfl⟩ : ∃ k', k = k' + 1 := ⟨k - 1, by omega⟩
        rw [tk_succ] at h1
        simp only [Bool.or_eq_true, Bool.and_eq_true, decide_eq_true_eq]
        rw [show k' + 1 - 1 = k' by omega]
        omega
    · refine ⟨ancA n b k, rfl, ?_⟩
      unfold cameB
      simp only [Bool.or_eq_true, Bool.and_eq_true, decide_eq_true_eq]
      rcases Nat.eq_zero_or_pos k with h0 | h0
      · subst h0; exact .inl ⟨rfl, anc_zero _ _⟩
      · exact .inr ⟨h0, .inr trivial⟩
    · refine ⟨ancA n b (k - 1) + 1 + i, rfl, ?_⟩
      have : k ≠ 0 := fun e => by subst e; unfold gapN at hj; simp at hj; omega
      unfold cameB
      simp only [Bool.or_eq_true, Bool.and_eq_true, decide_eq_true_eq]
      omega
  · rintro ⟨m', rfl, h1⟩
    unfold cameB at h1
    simp only [Bool.or_eq_true, Bool.and_eq_true, decide_eq_true_eq] at h1
    rcases h1 with ⟨rfl, rfl⟩ | ⟨h0, h1 | h1⟩
    · refine .inr (.inl ?_)
      show ((0 : Nat) : Int) = ((ancA n b 0 : Nat) : Int)
      have : ancA n b 0 = 0 := anc_zero _ _
      rw [this]
    · obtain ⟨k', rfl⟩ : ∃ k', k = k' + 1 := ⟨k - 1, by omega⟩
      rw [show k' + 1 - 1 = k' by omega] at h1
      by_cases c : m' < tk n p b (k' + 1)
      · exact .inl ⟨m', rfl, c⟩
      · rw [tk_succ] at c
        refine .inr (.inr ⟨m' - (ancA n b k' + 1), by omega, ?_⟩)
        unfold btwSh
        rw [show k' + 1 - 1 = k' by omega]
        show ((ancA n b k' + 1 + (m' - (ancA n b k' + 1)) : Nat) : Int) = m'
        omega
    · exact .inr (.inl (by rw [h1]; rfl))
theorem mem_ahead : ∀ (k : Nat) (m : Int), m ∈ (ahead n p b k).map (·.num) ↔ ∃ m' : Nat, m = m' ∧ m' < tk n p b k := by
  intro k
  induction k with
  | zero => intro m; rw [tk_zero]; simp [ahead]
  | succ k ih =>
    intro m
    rw [← part_full, mem_part (Nat.le_refl _) ih m]
    constructor
    · rintro ⟨m', h1, h2⟩
      rw [came_full] at h2
      exact ⟨m', h1, by rw [tk_succ]; have := of_decide_eq_true h2; omega⟩
    · rintro ⟨m', h1, h2⟩
      rw [tk_succ] at h2
      exact ⟨m', h1, by rw [came_full]; exact decide_eq_true (by omega)⟩
theorem mex_ahead (k : Nat) : mexN ((ahead n p b k).map (·.num)) = tk n p b k := by
  refine mexN_eq ⟨fun j hj => (mem_ahead k _).2 ⟨j, rfl, hj⟩, fun h => ?_⟩
  obtain ⟨m', h1, h2⟩ := (mem_ahead k _).1 h
  omega
theorem mex_part {k j : Nat} (hk : 0 < k) (hj : j < gapN n b k) : mexN ((partG n p b k j).map (·.num)) = ancA n b (k - 1) + 1 + j := by
  have hm := mem_part (p := p) (Nat.le_of_lt hj) (mem_ahead k)
  have hg : ancA n b (k - 1) + 1 + j < ancA n b k := by unfold gapN at hj; rw [if_neg (by omega)] at hj; omega
  refine mexN_eq ⟨fun i hi => (hm _).2 ⟨i, rfl, ?_⟩, fun h => ?_⟩
  · unfold cameB
    simp only [Bool.or_eq_true, Bool.and_eq_true, decide_eq_true_eq]
    omega
  · obtain ⟨m', h1, h2⟩ := (hm _).1 h
    unfold cameB at h2
    simp only [Bool.or_eq_true, Bool.and_eq_true, decide_eq_true_eq] at h2
    omega
end Go.Proofs.Ytmnkbcigjbiniaa.gopHolds
