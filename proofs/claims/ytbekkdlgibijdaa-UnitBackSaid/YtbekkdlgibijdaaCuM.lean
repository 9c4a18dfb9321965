/- The document's cursor: Take, Number. -/
import Derived.Test.YtbekkdlgibijdaaCuJ
namespace Go.Proofs.Ytbekkdlgibijdaa
open Go.RowKit

/-- the document's cursor: what is ahead, how much is behind -/
def RCur (w : World) (rb : Nat) (s : List UInt8) (at_ : Nat) : Prop := w.heap[rb]? = some (.cells #[.string ⟨s.toArray⟩, .int .i64 (at_ : Nat)] 29 (0, 0))
theorem reftake_not {w : World} {rb at_ : Nat} {s : List UInt8} {n : Int} (h : RCur w rb s at_) (hl : s.length ≤ 4294967296) (hn : n < 0 ∨ (s.length : Int) < n) :
    Calls Try.prog 17 #[.pointer (some ⟨rb, 0, none⟩), .int .i64 n] w fun e w' => e = .returned (.tuple #[.string ⟨#[]⟩, .bool false]) ∧ w = w' := by
  have k0 : w.cell? ⟨rb, 0, none⟩ = some (.string ⟨s.toArray⟩) := cell_of_row _ _ 0 _ _ _ h
  clear h
  rcases hn with h0 | h0
  · go_enter Try.func17, Try.ntmps17
    go_wp2
    go_ret2
    exact ⟨rfl, rfl⟩
  · have h1 : ¬ n < 0 := by omega
    have h2 : ¬ n ≤ (s.length : Int) := by omega
    go_enter Try.func17, Try.ntmps17
    go_wp2
    go_ret2
    exact ⟨rfl, rfl⟩
theorem ext0 (s : List UInt8) (m : Nat) : (⟨s.toArray⟩ : ByteArray).extract 0 m = ⟨(s.take m).toArray⟩ := by
  apply ByteArray.ext
  rw [ByteArray.data_extract]
  simp
theorem ext1 (s : List UInt8) (m : Nat) : (⟨s.toArray⟩ : ByteArray).extract m s.length = ⟨(s.drop m).toArray⟩ := by
  apply ByteArray.ext
  rw [ByteArray.data_extract]
  simp only [List.extract_toArray, List.extract_eq_take_drop]
  rw [List.take_of_length_le (by simp)]
set_option maxHeartbeats 1000000 in
theorem reftake_yes {w : World} {rb at_ : Nat} {s : List UInt8} (m : Nat) (h : RCur w rb s at_) (hl : s.length + at_ ≤ 4294967296) (hm : m ≤ s.length) :
    Calls Try.prog 17 #[.pointer (some ⟨rb, 0, none⟩), .int .i64 (m : Nat)] w fun e w' => e = .returned (.tuple #[.string ⟨(s.take m).toArray⟩, .bool true]) ∧ RCur w' rb (s.drop m) (at_ + m) ∧ w.grownBy w' (some rb) := by
  have k0 : w.cell? ⟨rb, 0, none⟩ = some (.string ⟨s.toArray⟩) := cell_of_row _ _ 0 _ _ _ h
  have k1 : w.cell? ⟨rb, 1, none⟩ = some (.int .i64 (at_ : Nat)) := cell_of_row _ _ 1 _ _ _ h
  have f0 := frozen_of_row _ _ 0 _ _ h
  have f1 := frozen_of_row _ _ 1 _ _ h
  have H := Lib.hid h
  have h1 : ¬ ((m : Nat) : Int) < 0 := by omega
  have h2 : ((m : Nat) : Int) ≤ (s.length : Int) := by omega
  have h3 : IntKind.i64.wrap ((at_ : Int) + (m : Int)) = (at_ : Int) + (m : Int) := by rw [IntKind.wrap_i64]; omega
  clear h
  go_enter Try.func17, Try.ntmps17
  go_wp2
  go_ret2
  refine ⟨by simp [ext0], ?_, grown_trans (grown_set w rb 0 _) (grown_set _ rb 1 _)⟩
  unfold RCur
  rw [← ext1, Int.natCast_add]
  exact heap_setCell_same _ _ 1 _ _ _ (heap_setCell_same _ _ 0 _ _ _ H.out)
set_option maxHeartbeats 1000000 in
theorem refnum_not {w : World} {rb at_ : Nat} {s : List UInt8} {n : Int} (h : RCur w rb s at_) (hl : s.length ≤ 4294967296) (hn : n < 0 ∨ (s.length : Int) < n) :
    Calls Try.prog 15 #[.pointer (some ⟨rb, 0, none⟩), .int .i64 n] w fun e w' => e = .returned (.tuple #[.int .i64 0, .bool false]) ∧ w = w' := by
  have hN := reftake_not h hl hn
  have HN := Lib.hid hN
  clear hN h hl hn
  go_enter Try.func15, Try.ntmps15
  go_wp2_with (go_at_call 17; refine HN.out.mono ?_; rintro e w1 ⟨rfl, rfl⟩)
  go_loop [8, 9] (fun v i => v = .int .i64 0 ∧ i = .int .i64 0) (fun _ _ => 0)
  case atStart => exact ⟨rfl, rfl⟩
  case round =>
    obtain ⟨rfl, rfl⟩ := hrel
    go_wp2
    go_ret2
    exact ⟨rfl, rfl⟩
set_option maxHeartbeats 1000000 in
theorem refnum_yes {w : World} {rb at_ : Nat} {s : List UInt8} (m : Nat) (h : RCur w rb s at_) (hl : s.length + at_ ≤ 4294967296) (hm : m ≤ s.length) (h4 : m ≤ 4) :
    Calls Try.prog 15 #[.pointer (some ⟨rb, 0, none⟩), .int .i64 (m : Nat)] w fun e w' => e = .returned (.tuple #[.int .i64 (numB (s.take m) : Nat), .bool true]) ∧ RCur w' rb (s.drop m) (at_ + m) ∧ w.grownBy w' (some rb) := by
  have hN := reftake_yes m h hl hm
  have HN := Lib.hid hN
  obtain ⟨l, hL⟩ : ∃ l, l = s.take m := ⟨_, rfl⟩
  have hl4 : l.length ≤ 4 := by rw [hL]; simp; omega
  rw [← hL] at HN ⊢
  clear hN h hl hm hL
  go_enter Try.func15, Try.ntmps15
  go_wp2_with (go_at_call 17; refine HN.out.mono ?_; rintro e w1 ⟨rfl, hR, hG⟩; have HR := Lib.hid hR; have HG := Lib.hid hG; clear hR hG)
  go_loop [8, 9] (fun v i => ∃ k : Nat, k ≤ l.length ∧ i = .int .i64 k ∧ v = .int .i64 (numB (l.take k) : Nat)) (fun _ i => (l.length - intOf i).toNat)
  case atStart => exact ⟨0, by omega, rfl, rfl⟩
  case round =>
    obtain ⟨k, hk, rfl, rfl⟩ := hrel
    by_cases hlt : k < l.length
    · have hb := l[k].toNat_lt
      obtain ⟨B, hB⟩ : ∃ B, B = l[k].toNat := ⟨_, rfl⟩
      have hn := numB_le (l := l.take k) (by simp; omega)
      obtain ⟨M, hM⟩ : ∃ M, M = numB (l.take k) := ⟨_, rfl⟩
      rw [← hB] at hb
      rw [← hM] at hn ⊢
      have i1 : (0 : Int) ≤ k := by omega
      have i2 : (k : Int) < l.length := by omega
      have hnx : numB (l.take (k + 1)) = 256 * M + B := by
        rw [List.take_add_one, List.getElem?_eq_getElem hlt]
        show numB (l.take k ++ [l[k]]) = _
        rw [numB_snoc, ← hM, ← hB]
      have HNX := Lib.hid hnx
      have HM := Lib.hid hM
      have HB := Lib.hid hB
      clear hnx hM hB
      go_wp2
      have hx : ∀ h, ((⟨l.toArray⟩ : ByteArray)[k]'h).toNat = B := fun _ => HB.out.symm
      have HX := Lib.hid hx
      clear hx
      go_round
      case rel => exact ⟨k + 1, by omega, by go_num, by rw [HNX.out, HX.out]; congr 1; unfold wrap64; omega⟩
      case measure => simp [intOf]; omega
    · obtain rfl : k = l.length := by omega
      rw [List.take_of_length_le (Nat.le_refl _)]
      go_wp2
      go_ret2
      exact ⟨rfl, HR.out, HG.out⟩
end Go.Proofs.Ytbekkdlgibijdaa
