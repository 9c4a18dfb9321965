/- How far shots are ahead of their turn: plainly. -/
import Derived.Test.YtmnkbcigjbiniaaGpQ
namespace Go.Proofs.Ytmnkbcigjbiniaa
open Go.RowKit

/-- m is the least number that is not there -/
def IsMex (l : List Int) (m : Nat) : Prop := (∀ j, j < m → ((j : Nat) : Int) ∈ l) ∧ ((m : Nat) : Int) ∉ l
theorem mex_le : ∀ (n : Nat) (l : List Int), (∀ j, j < n → ((j : Nat) : Int) ∈ l) → n ≤ l.length := by
  intro n
  induction n with
  | zero => intro l _; exact Nat.zero_le _
  | succ n ih =>
    intro l h
    have h1 := h n (by omega)
    have h2 := ih (l.erase (n : Int)) (fun j hj => (List.mem_erase_of_ne (by omega)).2 (h j (by omega)))
    rw [List.length_erase_of_mem h1] at h2
    have := List.length_pos_of_mem h1
    omega
theorem mex_uniq {l : List Int} {a b : Nat} (h : IsMex l a) (k : IsMex l b) : a = b := by
  rcases Nat.lt_trichotomy a b with c | c | c
  · exact absurd (k.1 a c) h.2
  · exact c
  · exact absurd (h.1 b c) k.2
theorem mex_ex (l : List Int) : ∃ m, IsMex l m := by
  have key : ∀ n : Nat, (∀ j, j < n → ((j : Nat) : Int) ∈ l) ∨ ∃ m, IsMex l m := by
    intro n
    induction n with
    | zero => exact .inl fun j hj => by omega
    | succ n ih =>
      rcases ih with ih | ih
      · by_cases c : ((n : Nat) : Int) ∈ l
        · exact .inl fun j hj => by
            by_cases d : j = n
            · rw [d]; exact c
            · exact ih j (by omega)
        · exact .inr ⟨n, ih, c⟩
      · exact .inr ih
  rcases key (l.length + 1) with h | h
  · have := mex_le _ l h
    omega
  · exact h
noncomputable def mexN (l : List Int) : Nat := (mex_ex l).choose
theorem mexN_is (l : List Int) : IsMex l (mexN l) := (mex_ex l).choose_spec
theorem mexN_eq {l : List Int} {m : Nat} (h : IsMex l m) : mexN l = m := mex_uniq (mexN_is l) h
theorem mexN_le (l : List Int) : mexN l ≤ l.length := mex_le _ _ (mexN_is l).1
theorem mexN_nil : mexN [] = 0 := mexN_eq ⟨fun j hj => by omega, by simp⟩
theorem mexN_mono (l : List Int) (x : Int) : ∀ j, j < mexN l → ((j : Nat) : Int) ∈ l ++ [x] := fun j hj => List.mem_append_left _ ((mexN_is l).1 j hj)

/-- how far one of the first k is ahead of its turn -/
noncomputable def delayI (l : List Int) : Nat → Int
  | 0 => 0
  | k + 1 => max (delayI l k) ((l[k]?).getD 0 - (mexN (l.take k) : Nat))
theorem delay_bd {l : List Int} {c : Int} (hl : ∀ x ∈ l, -c ≤ x ∧ x ≤ c) (hc : 0 ≤ c) : ∀ k, 0 ≤ delayI l k ∧ delayI l k ≤ c := by
  intro k
  induction k with
  | zero => exact ⟨Int.le_refl _, hc⟩
  | succ k ih =>
    unfold delayI
    have hx : (l[k]?).getD 0 ≤ c := by
      by_cases h : k < l.length
      · rw [List.getElem?_eq_getElem h]; exact (hl _ (List.getElem_mem h)).2
      · rw [List.getElem?_eq_none (by omega)]; exact hc
    omega
theorem delay_succ (l : List Int) (k : Nat) : delayI l (k + 1) = max (delayI l k) ((l[k]?).getD 0 - (mexN (l.take k) : Nat)) := rfl
end Go.Proofs.Ytmnkbcigjbiniaa
