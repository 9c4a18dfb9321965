/- The law UnitCodes: its walk. -/
import Derived.Test.YtbekkdlgibijdaaUnQ
namespace Go.Proofs.Ytbekkdlgibijdaa.unitCodes
open Go.RowKit

theorem picT_form (c : Int) : ∃ x y z, picT c = .tuple #[.int .i64 x, .bool y, .bool z] := by
  unfold picT
  cases picI c with
  | none => exact ⟨_, _, _, rfl⟩
  | some p => exact ⟨_, _, _, rfl⟩
set_option maxRecDepth 20000 in
set_option maxHeartbeats 4000000 in
theorem walk0 (w : World) (c : Int) (kept : Bool) (h0 : -9223372036854775808 ≤ c) (h1 : c ≤ 9223372036854775807) :
    Calls Try.prog 6 #[.int .i64 c, .bool kept] w fun e w' => e = .returned (.bool true) ∧ Below w.heap.size w w' := by
  go_enter Try.func6, Try.ntmps6
  go_wp2_with (go_at_call 28; refine (first27 _).mono ?_; rintro e w1 ⟨rfl, hb1⟩)
  have HB1 := Lib.hid hb1
  clear hb1
  go_loopw [5] (fun i wr => ∃ k : Int, -3 ≤ k ∧ k ≤ 70 ∧ i = .int .i64 k ∧ Hid (Below w.heap.size w wr)) (fun i _ => (70 - intOf i).toNat)
  case atStart => exact ⟨-3, by omega, by omega, rfl, HB1⟩
  case round =>
    obtain ⟨k, hk0, hk1, rfl, hB⟩ := hrel
    by_cases hlt : k < 70
    · have hK := fun V => known_any k (by omega) (by omega) V
      have hR := fun V => refKnown_any k V
      obtain ⟨kb, hkb⟩ : ∃ kb, kb = knownI k := ⟨_, rfl⟩
      rw [← hkb] at hK hR
      have HK := Lib.hid (And.intro hK hR)
      clear hK hR hkb
      go_wp2_with (first
        | (go_at_call 29; refine (HK.out.1 _).mono ?_; rintro e w2 ⟨rfl, rfl⟩)
        | (go_at_call 30; refine (HK.out.2 _).mono ?_; rintro e w3 ⟨rfl, hb3⟩; have HB3 := Lib.hid (hB.out.trans (hb3.mono hB.out.size)); clear hb3))
      go_roundw
      case rel => exact ⟨k + 1, by omega, by omega, by go_num, HB3⟩
      case measure => simp [intOf]; omega
    · obtain rfl : k = 70 := by omega
      have hK := fun V => known_any c h0 h1 V
      have hR := fun V => refKnown_any c V
      have hP := fun V => pic_any c h0 h1 V
      have hQ := fun V => refPic_any c V
      have hC := fun V => code_any c kept V
      obtain ⟨kb, hkb⟩ : ∃ kb, kb = knownI c := ⟨_, rfl⟩
      rw [← hkb] at hK hR
      obtain ⟨x, y, z, hT⟩ := picT_form c
      rw [hT] at hP hQ
      have HK := Lib.hid (And.intro hK (And.intro hR (And.intro hP hQ)))
      clear hK hR hP hQ hT hkb
      have hcc : (0 ≤ c ∧ c ≤ 2) ∨ c < 0 ∨ (0 ≤ c ∧ 2 < c) := by omega
      rcases hcc with ⟨c0, c1⟩ | c0 | ⟨c0, c1⟩
      · cases kept with
        | true =>
          have hco : codeI c true = 8 + c + 4 := by unfold codeI; rw [if_pos ⟨c0, c1⟩, if_pos rfl]; omega
          rw [hco] at hC
          have HC := Lib.hid hC
          clear hC hco
          go_wp2_with (first
            | (go_at_call 31; refine (HK.out.2.2.1 _).mono ?_; rintro e w2 ⟨rfl, rfl⟩)
            | (go_at_call 32; refine (HK.out.2.2.2 _).mono ?_; rintro e w2 ⟨rfl, rfl⟩)
            | (go_at_call 29; refine (HK.out.1 _).mono ?_; rintro e w2 ⟨rfl, rfl⟩)
            | (go_at_call 30; refine (HK.out.2.1 _).mono ?_; rintro e w3 ⟨rfl, hb3⟩; have HB3 := Lib.hid (hB.out.trans (hb3.mono hB.out.size)); clear hb3)
            | (go_at_call 33; refine (HC.out _).mono ?_; rintro e w4 ⟨rfl, rfl⟩))
          go_ret
          exact ⟨rfl, HB3.out⟩
        | false =>
          have hco : codeI c false = 8 + c := by unfold codeI; rw [if_pos ⟨c0, c1⟩]; rfl
          rw [hco] at hC
          have HC := Lib.hid hC
          clear hC hco
          go_wp2_with (first
            | (go_at_call 31; refine (HK.out.2.2.1 _).mono ?_; rintro e w2 ⟨rfl, rfl⟩)
            | (go_at_call 32; refine (HK.out.2.2.2 _).mono ?_; rintro e w2 ⟨rfl, rfl⟩)
            | (go_at_call 29; refine (HK.out.1 _).mono ?_; rintro e w2 ⟨rfl, rfl⟩)
            | (go_at_call 30; refine (HK.out.2.1 _).mono ?_; rintro e w3 ⟨rfl, hb3⟩; have HB3 := Lib.hid (hB.out.trans (hb3.mono hB.out.size)); clear hb3)
            | (go_at_call 33; refine (HC.out _).mono ?_; rintro e w4 ⟨rfl, rfl⟩))
          go_ret
          exact ⟨rfl, HB3.out⟩
      all_goals
        have hco : codeI c kept = -1 := by unfold codeI; rw [if_neg (by omega)]
        rw [hco] at hC
        have HC := Lib.hid hC
        clear hC hco
        go_wp2_with (first
          | (go_at_call 31; refine (HK.out.2.2.1 _).mono ?_; rintro e w2 ⟨rfl, rfl⟩)
          | (go_at_call 32; refine (HK.out.2.2.2 _).mono ?_; rintro e w2 ⟨rfl, rfl⟩)
          | (go_at_call 29; refine (HK.out.1 _).mono ?_; rintro e w2 ⟨rfl, rfl⟩)
          | (go_at_call 30; refine (HK.out.2.1 _).mono ?_; rintro e w3 ⟨rfl, hb3⟩; have HB3 := Lib.hid (hB.out.trans (hb3.mono hB.out.size)); clear hb3)
          | (go_at_call 33; refine (HC.out _).mono ?_; rintro e w4 ⟨rfl, rfl⟩))
        go_ret
        exact ⟨rfl, HB3.out⟩
open Go.ChangeShapes Go.WideShapes in
theorem walk (w : World) (c : Int) (hc : (Lit.int .i64 c).wf = true) (kept : Bool) :
    Calls Try.prog 6 #[.int .i64 c, .bool kept] w fun e w' => e = .returned (.bool true) ∧ Below w.heap.size w w' := by
  simp only [Lit.wf, Bool.and_eq_true, decide_eq_true_eq] at hc
  exact walk0 w c kept hc.1 hc.2
end Go.Proofs.Ytbekkdlgibijdaa.unitCodes
