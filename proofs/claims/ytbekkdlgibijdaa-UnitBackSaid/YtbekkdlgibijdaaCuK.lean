/- CutBack: the plain law: words and their last bytes are read as they were written. -/
import Derived.Test.YtbekkdlgibijdaaCuJ
namespace Go.Proofs.Ytbekkdlgibijdaa
open Go.RowKit

def one5 (m : Nat) : List UInt8 := spellB m ++ [UInt8.ofNat (m % 256)]
def encW (ws : List Nat) : List UInt8 := ws.flatMap one5
theorem encW_snoc (ws : List Nat) (m : Nat) : encW (ws ++ [m]) = (encW ws ++ spellB m) ++ [UInt8.ofNat (m % 256)] := by simp [encW, one5]
theorem one5_len (m : Nat) : (one5 m).length = 5 := rfl
theorem encW_len : ∀ ws : List Nat, (encW ws).length = 5 * ws.length
  | [] => rfl
  | m :: r => by
    have := encW_len r
    unfold encW at this ⊢
    rw [List.flatMap_cons, List.length_append, one5_len, this, List.length_cons]
    omega
theorem encW_drop : ∀ (ws : List Nat) (k m : Nat), ws[k]? = some m → ∃ r, (encW ws).drop (5 * k) = one5 m ++ r
  | [], k, m, h => by simp at h
  | x :: r, 0, m, h => by
    obtain rfl : x = m := by simpa using h
    exact ⟨encW r, by simp [encW]⟩
  | x :: r, k + 1, m, h => by
    obtain ⟨q, hq⟩ := encW_drop r k m (by simpa using h)
    refine ⟨q, ?_⟩
    have e : encW (x :: r) = one5 x ++ encW r := by simp [encW]
    rw [e, show 5 * (k + 1) = (one5 x).length + 5 * k by rw [one5_len]; omega, ← List.drop_drop, List.drop_left]
    exact hq
theorem next_word {ws : List Nat} {k m : Nat} (h : ws[k]? = some m) : nextB (encW ws) (5 * k) 4 = spellB m := by
  obtain ⟨r, hr⟩ := encW_drop ws k m h
  unfold nextB
  rw [hr]
  rfl
theorem next_byte {ws : List Nat} {k m : Nat} (h : ws[k]? = some m) : nextB (encW ws) (5 * k + 4) 1 = [UInt8.ofNat (m % 256)] := by
  obtain ⟨r, hr⟩ := encW_drop ws k m h
  unfold nextB
  rw [← List.drop_drop, hr]
  rfl
theorem next_next {L : List UInt8} {M a b : Nat} (h : a + b ≤ M) : nextB (nextB L 0 M) a b = nextB L a b := by
  unfold nextB
  rw [List.drop_zero, List.drop_take, List.take_take, Nat.min_eq_left (by omega)]
theorem numB_spell {m : Nat} (h : m < 4294967296) : numB (spellB m) = m := by
  simp only [numB, spellB, List.foldl_cons, List.foldl_nil, UInt8.toNat_ofNat']
  omega
theorem numB_byte (m : Nat) : numB [UInt8.ofNat (m % 256)] = m % 256 := by
  simp only [numB, List.foldl_cons, List.foldl_nil, UInt8.toNat_ofNat']
  omega
end Go.Proofs.Ytbekkdlgibijdaa
