/- The contract of number. -/
import Derived.Test.YtbekkdlgibijdaaCuB
import Derived.Laws.Bits64b
namespace Go.Proofs.Ytbekkdlgibijdaa
open Go.RowKit

/-- the number that bytes are, the first one the greatest -/
def numB (l : List UInt8) : Nat := l.foldl (fun v b => 256 * v + b.toNat) 0
theorem numB_snoc (l : List UInt8) (b : UInt8) : numB (l ++ [b]) = 256 * numB l + b.toNat := by simp [numB]
theorem fold_lt : ∀ (l : List UInt8) (v n : Nat), v < 256 ^ n → l.foldl (fun v b => 256 * v + b.toNat) v < 256 ^ (n + l.length) := by
  intro l
  induction l with
  | nil => intro v n h; simpa using h
  | cons b r ih =>
    intro v n h
    have hb := b.toNat_lt
    have := ih (256 * v + b.toNat) (n + 1) (by rw [Nat.pow_succ]; omega)
    rw [List.foldl_cons, List.length_cons, show n + (r.length + 1) = n + 1 + r.length by omega]
    exact this
theorem numB_lt (l : List UInt8) : numB l < 256 ^ l.length := by
  have := fold_lt l 0 0 (by simp)
  rw [Nat.zero_add] at this
  exact this
theorem numB_le {l : List UInt8} (h : l.length ≤ 4) : numB l < 4294967296 :=
  Nat.lt_of_lt_of_le (numB_lt l) (Nat.le_trans (Nat.pow_le_pow_right (by omega) h) (by decide))

theorem or_byte (M B : Nat) (hM : M < 4294967296) (hB : B < 256) : bits BinOp.or IntKind.i64 ((M : Int) * 256) (B : Int) = (M : Int) * 256 + (B : Int) := by
  have e : ((M : Int) * 256) = ((M * 256 : Nat) : Int) := by omega
  have h1 : (BitVec.ofInt 64 ((M * 256 : Nat) : Int)).toNat = M * 256 := by
    rw [BitVec.ofInt_natCast, BitVec.toNat_ofNat]; exact Nat.mod_eq_of_lt (by omega)
  have h2 : (BitVec.ofInt 64 (B : Int)).toNat = B := by
    rw [BitVec.ofInt_natCast, BitVec.toNat_ofNat]; exact Nat.mod_eq_of_lt (by omega)
  have h3 : M * 256 ||| B = M * 256 + B := by
    rw [show M * 256 = M <<< 8 by rw [Nat.shiftLeft_eq], Nat.shiftLeft_add_eq_or_of_lt (by omega)]
  rw [e]
  show IntKind.i64.wrap ((BitVec.ofInt 64 ((M * 256 : Nat) : Int) ||| BitVec.ofInt 64 (B : Int)).toNat : Int) = _
  rw [BitVec.toNat_or, h1, h2, h3, IntKind.wrap_i64]
  omega
set_option maxHeartbeats 800000 in
theorem number_any (v : Value) (lo : Nat) (l : List UInt8) (w : World) (h : BytesAt w lo v l) (hl : l.length ≤ 4) :
    Calls Try.prog 45 #[v] w fun e w' => e = .returned (.int .i64 (numB l : Nat)) ∧ w = w' := by
  obtain ⟨A, c, rfl, hc, g, off, hA, hx⟩ := h.cell
  have HX := Lib.hid hx
  have HA := Lib.hid hA
  clear h hx hA
  go_enter Try.func45, Try.ntmps45
  go_wp2
  go_loop [3, 8] (fun v i => ∃ k : Nat, k ≤ l.length ∧ i = .int .i64 k ∧ v = .int .i64 (numB (l.take k) : Nat)) (fun _ i => (l.length - intOf i).toNat)
  case atStart => exact ⟨0, by omega, rfl, rfl⟩
  case round =>
    obtain ⟨k, hk, rfl, rfl⟩ := hrel
    by_cases hlt : k < l.length
    · obtain rfl : A = some ⟨g, off, none⟩ := by
        rcases HA.out with h | h
        · rw [h] at hlt; simp at hlt
        · exact h
      have hc0 := HX.out k hlt
      unfold bv at hc0
      have hb := l[k].toNat_lt
      obtain ⟨B, hB⟩ : ∃ B, B = l[k].toNat := ⟨_, rfl⟩
      have hn := numB_le (l := l.take k) (by simp; omega)
      obtain ⟨M, hM⟩ : ∃ M, M = numB (l.take k) := ⟨_, rfl⟩
      rw [← hB] at hc0 hb
      rw [← hM] at hn ⊢
      have i1 : (0 : Int) ≤ k := by omega
      have i2 : (k : Int) < l.length := by omega
      have HB := Lib.hid hB
      have HM := Lib.hid hM
      clear hB hM
      have hor := or_byte M B (by omega) hb
      have hnx : numB (l.take (k + 1)) = M * 256 + B := by
        rw [List.take_add_one, List.getElem?_eq_getElem hlt]
        show numB (l.take k ++ [l[k]]) = _
        rw [numB_snoc, ← HM.out, ← HB.out]; omega
      have HNX := Lib.hid hnx
      clear hnx
      go_wp2
      go_round
      case rel => exact ⟨k + 1, by omega, by go_num, by rw [HNX.out]; go_num⟩
      case measure => simp [intOf]; omega
    · obtain rfl : k = l.length := by omega
      rw [List.take_of_length_le (Nat.le_refl _)]
      go_wp2
      go_ret
      exact ⟨rfl, rfl⟩
end Go.Proofs.Ytbekkdlgibijdaa
