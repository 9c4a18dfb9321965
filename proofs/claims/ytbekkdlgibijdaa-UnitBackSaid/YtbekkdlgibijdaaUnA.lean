/- Which codes there are: Known, the document's Picture and Known, Code. -/
import Derived.Test.YtbekkdlgibijdaaUn
namespace Go.Proofs.Ytbekkdlgibijdaa
open Go.RowKit

/-- a code that there is -/
def knownI (c : Int) : Bool := decide (c = 0 ∨ c = 16 ∨ c = 32 ∨ c = 48 ∨ (8 ≤ c ∧ c ≤ 10) ∨ (12 ≤ c ∧ c ≤ 14))
theorem known_any (c : Int) (h0 : -9223372036854775808 ≤ c) (h1 : c ≤ 9223372036854775807) (w : World) : Calls Try.prog 29 #[.int .i64 c] w fun e w' => e = .returned (.bool (knownI c)) ∧ w = w' := by
  by_cases h : c = 0 ∨ c = 16 ∨ c = 32 ∨ c = 48
  · rcases h with rfl | rfl | rfl | rfl
    all_goals
      go_enter Try.func29, Try.ntmps29
      go_wp2
      go_ret
      exact ⟨rfl, rfl⟩
  · have b0 : (c == 0) = false := by simp; omega
    have b1 : (c == 16) = false := by simp; omega
    have b2 : (c == 32) = false := by simp; omega
    have b3 : (c == 48) = false := by simp; omega
    have hP := fun w => pic_any c h0 h1 w
    by_cases hp : 8 ≤ c ∧ c ≤ 10 ∨ 12 ≤ c ∧ c ≤ 14
    · have hk : knownI c = true := by unfold knownI; simp; omega
      obtain ⟨n, k, hT⟩ : ∃ n k, picT c = .tuple #[.int .i64 n, .bool k, .bool true] := by
        unfold picT picI
        rcases hp with hp | hp
        · rw [if_pos hp]; exact ⟨_, _, rfl⟩
        · rw [if_neg (by omega), if_pos hp]; exact ⟨_, _, rfl⟩
      rw [hk]
      rw [hT] at hP
      have HP := Lib.hid hP
      clear h hP hp hk hT
      go_enter Try.func29, Try.ntmps29
      go_wp2_with (go_at_call 31; refine (HP.out _).mono ?_; rintro e w1 ⟨rfl, rfl⟩)
      go_ret
      exact ⟨rfl, rfl⟩
    · have hk : knownI c = false := by unfold knownI; simp; omega
      rw [hk]
      rw [picT_none hp] at hP
      have HP := Lib.hid hP
      clear h hP hp hk
      go_enter Try.func29, Try.ntmps29
      go_wp2_with (go_at_call 31; refine (HP.out _).mono ?_; rintro e w1 ⟨rfl, rfl⟩)
      go_ret
      exact ⟨rfl, rfl⟩
theorem refPic_any (c : Int) (w : World) : Calls Try.prog 32 #[.int .i64 c] w fun e w' => e = .returned (picT c) ∧ w = w' := by
  by_cases h : 8 ≤ c ∧ c ≤ 10 ∨ 12 ≤ c ∧ c ≤ 14
  · have hc : c = 8 ∨ c = 9 ∨ c = 10 ∨ c = 12 ∨ c = 13 ∨ c = 14 := by omega
    clear h
    rcases hc with rfl | rfl | rfl | rfl | rfl | rfl
    all_goals
      go_enter Try.func32, Try.ntmps32
      go_wp2
      go_ret3
      exact ⟨rfl, rfl⟩
  · rw [picT_none h]
    have hc : c < 8 ∨ (8 ≤ c ∧ 10 < c ∧ c < 12) ∨ (8 ≤ c ∧ 10 < c ∧ 12 ≤ c ∧ 14 < c) := by omega
    clear h
    rcases hc with h | ⟨h, h2, h3⟩ | ⟨h, h2, h3, h4⟩
    all_goals
      go_enter Try.func32, Try.ntmps32
      go_wp2
      go_ret3
      exact ⟨rfl, rfl⟩
def codesL : List Int := [0, 16, 32, 48, 8, 9, 10, 12, 13, 14]
theorem codes_any (w : World) : Calls Try.prog 48 #[] w fun e w' => e = .returned (.slice (some ⟨w.heap.size, 0, none⟩) 10 10) ∧ w' = w.alloc (.cells (codesL.map (Value.int .i64)).toArray 3) := by
  go_enter Try.func48, Try.ntmps48
  go_wp2
  go_ret
  exact ⟨rfl, rfl⟩
theorem known_mem (c : Int) : knownI c = true ↔ c ∈ codesL := by
  unfold knownI codesL
  simp
  omega
theorem refKnown_any (c : Int) (w : World) : Calls Try.prog 30 #[.int .i64 c] w fun e w' => e = .returned (.bool (knownI c)) ∧ Below w.heap.size w w' := by
  have hB := (Below.refl w.heap.size w).alloc (Nat.le_refl _) (.cells (codesL.map (Value.int .i64)).toArray 3)
  have HB := Lib.hid hB
  obtain ⟨kb, hkb⟩ : ∃ kb, kb = knownI c := ⟨_, rfl⟩
  rw [← hkb]
  have HK := Lib.hid hkb
  clear hB hkb
  go_enter Try.func30, Try.ntmps30
  go_wp2_with (go_at_call 48; refine (codes_any _).mono ?_; rintro e w1 ⟨rfl, hw1⟩; have HW1 := Lib.hid hw1; clear hw1)
  have hw1 := HW1.out
  have hB1 : Below w.heap.size w w1 := by rw [hw1]; exact HB.out
  have hcell : ∀ j (hj : j < codesL.length), w1.cell? ⟨w.heap.size, j, none⟩ = some (.int .i64 codesL[j]) := fun j hj => by
    rw [hw1, cell_of_row _ _ j _ _ _ (heap_alloc_new w _)]
    simp [hj]
  have HC := Lib.hid hcell
  have HB1 := Lib.hid hB1
  clear hw1 hcell hB1 HB HW1
  go_loopw [7] (fun i wr => ∃ k : Nat, k ≤ 10 ∧ i = .int .i64 k ∧ Hid (∀ j (hj : j < codesL.length), j < k → codesL[j] ≠ c) ∧ Hid (w1 = wr)) (fun i _ => (10 - intOf i).toNat)
  case atStart => exact ⟨0, by omega, rfl, Lib.hid (fun j _ h => by omega), Lib.hid rfl⟩
  case round =>
    obtain ⟨k, hk, rfl, hno, hW⟩ := hrel
    by_cases hlt : k < 10
    · have e0 : wr.cell? ⟨w.heap.size, k, none⟩ = some (.int .i64 (codesL[k]'hlt)) := by rw [← hW.out]; exact HC.out k hlt
      obtain ⟨x, hx⟩ : ∃ x, x = codesL[k]'hlt := ⟨_, rfl⟩
      rw [← hx] at e0
      have HX := Lib.hid hx
      have i1 : (0 : Int) ≤ (k : Int) := by omega
      have i2 : (k : Int) < 10 := by omega
      clear hx
      by_cases he : x = c
      · obtain rfl : kb = true := by rw [HK.out, known_mem, ← he, HX.out]; exact List.getElem_mem _
        have hbe : (x == c) = true := by simp [he]
        have HW2 := Lib.hid (show Below w.heap.size w wr by rw [← hW.out]; exact HB1.out)
        clear he hW
        go_wp2
        go_ret
        exact ⟨rfl, HW2.out⟩
      · have hbe : (x == c) = false := by simp [he]
        have HN := Lib.hid he
        clear he
        go_wp2
        go_roundw
        case rel => exact ⟨k + 1, by omega, by go_num, Lib.hid (fun j hj hj2 => by
          by_cases hjk : j = k
          · subst hjk; exact fun h => HN.out (HX.out.trans h)
          · exact hno.out j hj (by omega)), hW⟩
        case measure => simp [intOf]; omega
    · obtain rfl : k = 10 := by omega
      obtain rfl : kb = false := by
        rw [HK.out]
        cases h : knownI c with
        | false => rfl
        | true =>
          rw [known_mem] at h
          obtain ⟨j, hj, he⟩ := List.getElem_of_mem h
          exact absurd he (hno.out j hj hj)
      have HW2 := Lib.hid (show Below w.heap.size w wr by rw [← hW.out]; exact HB1.out)
      go_wp2
      go_ret
      exact ⟨rfl, HW2.out⟩
/-- the code of a picture -/
def codeI (n : Int) (k : Bool) : Int := if 0 ≤ n ∧ n ≤ 2 then (if k = true then 12 + n else 8 + n) else -1
theorem code_any (n : Int) (k : Bool) (w : World) : Calls Try.prog 33 #[.int .i64 n, .bool k] w fun e w' => e = .returned (.int .i64 (codeI n k)) ∧ w = w' := by
  by_cases h : 0 ≤ n ∧ n ≤ 2
  · have hc : n = 0 ∨ n = 1 ∨ n = 2 := by omega
    clear h
    rcases hc with rfl | rfl | rfl
    all_goals
      cases k
      all_goals
        go_enter Try.func33, Try.ntmps33
        go_wp2
        go_ret
        exact ⟨rfl, rfl⟩
  · have he : codeI n k = -1 := by unfold codeI; rw [if_neg h]
    rw [he]
    have hc : n < 0 ∨ (0 ≤ n ∧ 2 < n) := by omega
    clear he h
    rcases hc with h | ⟨h, h2⟩
    all_goals
      go_enter Try.func33, Try.ntmps33
      go_wp2
      go_ret
      exact ⟨rfl, rfl⟩
end Go.Proofs.Ytbekkdlgibijdaa
