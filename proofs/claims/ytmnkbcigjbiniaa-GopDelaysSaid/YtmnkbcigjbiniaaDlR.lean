/- The contract of the document's Delay. -/
import Derived.Test.YtmnkbcigjbiniaaDlW
namespace Go.Proofs.Ytmnkbcigjbiniaa
open Go.RowKit

set_option maxRecDepth 20000 in
set_option maxHeartbeats 2000000 in
theorem refDelay_any (xs : List ShX) (A : Option Addr) (cap : Nat) (w : World) (hrow : ShRow w A xs) (hlen : xs.length ≤ 1000) (hnum : ∀ x ∈ numsX xs, -1099511627776 ≤ x ∧ x ≤ 1099511627776) :
    Calls Try.prog 18 #[.slice A xs.length cap] w fun e w' => e = .returned (.int .i64 (delayI (numsX xs) xs.length)) ∧ w = w' := by
  have hbd := delay_bd hnum (by omega)
  have HBD := Lib.hid hbd
  have HN := Lib.hid hnum
  have HROW := Lib.hid hrow
  clear hbd hnum hrow
  go_enter Try.func18, Try.ntmps18
  go_wp2_with fail
  go_loop [3, 10] (fun mo i => ∃ k : Nat, k ≤ xs.length ∧ i = .int .i64 k ∧ mo = .int .i64 (delayI (numsX xs) k)) (fun _ i => (xs.length - intOf i).toNat)
  case atStart => exact ⟨0, by omega, rfl, rfl⟩
  case round =>
    obtain ⟨k, hk, rfl, rfl⟩ := hrel
    obtain ⟨M, hM⟩ : ∃ M, M = delayI (numsX xs) k := ⟨_, rfl⟩
    have hMb := HBD.out k
    rw [← hM] at hMb ⊢
    obtain ⟨hM0, hM1⟩ := hMb
    have HM := Lib.hid hM
    clear hM
    by_cases hlt : k < xs.length
    · obtain ⟨g, B, m, c, rfl, d0, _⟩ := ShRow.at HROW.out hlt
      obtain ⟨X, hX⟩ : ∃ X, X = xs[k].1.num := ⟨_, rfl⟩
      obtain ⟨hX0, hX1⟩ := HN.out X (by rw [hX]; exact List.mem_map.2 ⟨_, List.getElem_mem hlt, rfl⟩)
      rw [← hX] at d0
      have hget : (numsX xs)[k]? = some X := by rw [hX]; exact numsX_get hlt
      have i1 : (0 : Int) ≤ (k : Int) := by omega
      have i2 : (k : Int) < (xs.length : Int) := by omega
      have HGT := Lib.hid hget
      clear hX hget
      go_wp2_with fail
      go_loop [5] (fun nx => ∃ j : Nat, j ≤ k ∧ nx = .int .i64 j ∧ Hid (∀ i, i < j → ((i : Nat) : Int) ∈ (numsX xs).take k)) (fun nx => (k + 1 - intOf nx).toNat)
      case atStart => exact ⟨0, by omega, rfl, Lib.hid fun i hi => by omega⟩
      case round =>
        obtain ⟨j, hj, rfl, hJ⟩ := hrel
        go_wp2_with fail
        go_loop [6, 7] (fun th tt => ∃ t : Nat, t ≤ k ∧ tt = .int .i64 t ∧ th = .bool (decide (((j : Nat) : Int) ∈ (numsX xs).take t))) (fun _ tt => (k - intOf tt).toNat)
        case atStart => exact ⟨0, by omega, rfl, by simp⟩
        case round =>
          obtain ⟨t, ht, rfl, rfl⟩ := hrel
          by_cases htk : t < k
          · obtain ⟨g', _, _, _, e', e0, _⟩ := ShRow.at HROW.out (show t < xs.length by omega)
            cases e'
            obtain ⟨Y, hY⟩ : ∃ Y, Y = xs[t].1.num := ⟨_, rfl⟩
            rw [← hY] at e0
            have hget : (numsX xs)[t]? = some Y := by rw [hY]; exact numsX_get (by omega)
            have htk2 := take_snoc' hget
            have j1 : (0 : Int) ≤ (t : Int) := by omega
            have j2 : (t : Int) < (xs.length : Int) := by omega
            have HTK := Lib.hid htk2
            clear hY hget htk2
            by_cases hin : ((j : Nat) : Int) ∈ (numsX xs).take t
            · rw [decide_eq_true hin]
              have hin2 : decide (((j : Nat) : Int) ∈ (numsX xs).take (t + 1)) = true := decide_eq_true (by rw [HTK.out]; exact List.mem_append_left _ hin)
              have H2 := Lib.hid hin2
              clear hin hin2
              go_wp2
              go_round
              case rel => exact ⟨t + 1, by omega, by go_num, by rw [H2.out]⟩
              case measure => simp [intOf]; omega
            · rw [decide_eq_false hin]
              by_cases hYj : Y = (j : Int)
              · have hin2 : decide (((j : Nat) : Int) ∈ (numsX xs).take (t + 1)) = true := decide_eq_true (by rw [HTK.out, hYj]; simp)
                have H2 := Lib.hid hin2
                have hb : (Y == (j : Int)) = true := by simp [hYj]
                clear hin hin2 hYj
                go_wp2
                go_round
                case rel => exact ⟨t + 1, by omega, by go_num, by rw [H2.out]⟩
                case measure => simp [intOf]; omega
              · have hin2 : decide (((j : Nat) : Int) ∈ (numsX xs).take (t + 1)) = false := decide_eq_false (by
                  rw [HTK.out]
                  simp only [List.mem_append, List.mem_singleton, not_or]
                  exact ⟨hin, fun e => hYj e.symm⟩)
                have H2 := Lib.hid hin2
                have hb : (Y == (j : Int)) = false := by simp [hYj]
                clear hin hin2 hYj
                go_wp2
                go_round
                case rel => exact ⟨t + 1, by omega, by go_num, by rw [H2.out]⟩
                case measure => simp [intOf]; omega
          · obtain rfl : t = k := by omega
            by_cases hin : ((j : Nat) : Int) ∈ (numsX xs).take t
            · rw [decide_eq_true hin]
              have h1 : ∀ i, i < j + 1 → ((i : Nat) : Int) ∈ (numsX xs).take t := fun i hi => by
                by_cases e : i = j
                · rw [e]; exact hin
                · exact hJ.out i (by omega)
              have h2 := mex_le _ _ h1
              have h3 := List.length_take_le t (numsX xs)
              have H1 := Lib.hid h1
              clear h1 hin
              go_wp2
              exact ⟨⟨j + 1, by omega, by go_num, H1⟩, by simp [intOf]; omega⟩
            · rw [decide_eq_false hin]
              have hnx : delayI (numsX xs) (t + 1) = max M (X - (j : Nat)) := by
                rw [delay_succ, HGT.out, ← HM.out, mexN_eq ⟨hJ.out, hin⟩]; rfl
              have HNX := Lib.hid hnx
              clear hin hnx
              by_cases c : M < X - j
              all_goals
                go_wp2
                refine ⟨⟨t + 1, by omega, by go_num, ?_⟩, by simp [intOf]; omega⟩
                congr 1
                rw [HNX.out]
                omega
    · obtain rfl : k = xs.length := by omega
      go_wp2
      go_ret
      exact ⟨ret_eq HM.out, rfl⟩
end Go.Proofs.Ytmnkbcigjbiniaa
