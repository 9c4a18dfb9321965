/- The first line of the laws on units. -/
import Derived.Test.YtbekkdlgibijdaaUnP
namespace Go.Proofs.Ytbekkdlgibijdaa
open Go.RowKit

def X0 (d : Nat) (i : Nat) : InfX := if i = 0 then ⟨0, .slice (some ⟨d, 0, none⟩) 2 2, [1, 2]⟩ else ⟨13, .slice none 0 0, []⟩
theorem X0_U (d : Nat) : uOf (X0 d) = U0 := by
  funext i
  unfold uOf X0 U0
  split <;> rfl
theorem row0 (w : World) : InfoRow ((w.alloc (.cells #[.int .u8 1, .int .u8 2] 5)).alloc (.cells #[.int .i64 0, .slice (some ⟨w.heap.size, 0, none⟩) 2 2, .int .i64 13, .slice none 0 0] 66)) (some ⟨w.heap.size + 1, 0, none⟩) 2 (X0 w.heap.size) := by
  have hh := heap_alloc_new (w.alloc (.cells #[.int .u8 1, .int .u8 2] 5)) (.cells #[.int .i64 0, .slice (some ⟨w.heap.size, 0, none⟩) 2 2, .int .i64 13, .slice none 0 0] 66)
  rw [World.size_alloc] at hh
  have h0 := block_later (heap_alloc_new w (.cells #[.int .u8 1, .int .u8 2] 5)) ((Below.refl _ _).alloc (Nat.le_refl _) (.cells #[.int .i64 0, .slice (some ⟨w.heap.size, 0, none⟩) 2 2, .int .i64 13, .slice none 0 0] 66))
  refine ⟨by decide, w.heap.size + 1, 0, .inr rfl, fun i hi => ?_⟩
  rcases (by omega : i = 0 ∨ i = 1) with rfl | rfl
  · refine ⟨by rw [cell_of_row _ _ _ _ _ _ hh]; rfl, by rw [cell_of_row _ _ _ _ _ _ hh]; rfl, ⟨_, 2, rfl, Nat.le_refl 2, fun h => (by cases h), w.heap.size, 0, .inr rfl, fun j hj => ?_⟩, by simp [X0], by simp [X0], by simp [X0]⟩
    have hj : j < 2 := hj
    rw [cell_of_row _ _ _ _ _ _ h0]
    match j, hj with
    | 0, _ => rfl
    | 1, _ => rfl
  · exact ⟨by rw [cell_of_row _ _ _ _ _ _ hh]; rfl, by rw [cell_of_row _ _ _ _ _ _ hh]; rfl, ⟨none, 0, rfl, Nat.le_refl 0, fun _ => rfl, 0, 0, .inl rfl, fun j hj => by simp [X0] at hj⟩, by simp [X0], by simp [X0], by simp [X0]⟩
theorem row1 (w : World) : InfoRow (w.alloc (.cells #[.int .i64 16, .slice none 0 0] 66)) (some ⟨w.heap.size, 0, none⟩) 1 (fun _ => ⟨16, .slice none 0 0, []⟩) := by
  have hh := heap_alloc_new w (.cells #[.int .i64 16, .slice none 0 0] 66)
  refine ⟨by decide, w.heap.size, 0, .inr rfl, fun i hi => ?_⟩
  obtain rfl : i = 0 := by omega
  exact ⟨by rw [cell_of_row _ _ _ _ _ _ hh]; rfl, by rw [cell_of_row _ _ _ _ _ _ hh]; rfl, ⟨none, 0, rfl, by decide, fun _ => rfl, 0, 0, .inl rfl, fun j hj => by simp at hj⟩, by decide, by decide, by decide⟩
/-- Join of the fixed units. -/
theorem join0 (w : World) (a : Option Addr) (d : Nat) (h : InfoRow w a 2 (X0 d)) : Calls Try.prog 41 #[.slice a 2 2] w fun e w' => ∃ g cap, e = .returned (.tuple #[.slice (some ⟨g, 0, none⟩) 41 cap, .int .i64 0]) ∧ 41 ≤ cap ∧ BytesR w' (.slice (some ⟨g, 0, none⟩) 41 cap) b41 ∧ Below w.heap.size w w' := by
  refine (join_any w a 2 2 _ h).mono fun e w' hp => ?_
  rcases hp with ⟨_, v, rfl, hown, hb⟩ | ⟨⟨k, hk, _, hno⟩, _⟩
  · rw [X0_U] at hown
    have hr := (bytes_of_own hown).reads
    have hl : (outJ U0 2).length = 41 := b41_len
    rw [hl] at hown
    obtain ⟨g, cap, rfl⟩ := own_some hown (by decide)
    have hcap : 41 ≤ cap := by
      obtain ⟨_, _, hv, hc, _⟩ := hr
      injection hv with _ h2 h3
      subst h3
      rwa [← h2] at hc
    exact ⟨g, cap, rfl, hcap, hr, hb⟩
  · rw [X0_U] at hno
    exact absurd (ok0 k hk) hno
theorem join1 (w : World) (a : Option Addr) (h : InfoRow w a 1 (fun _ => ⟨16, .slice none 0 0, []⟩)) : Calls Try.prog 41 #[.slice a 1 1] w fun e w' => e = .returned (.tuple #[.slice none 0 0, .int .i64 2]) ∧ Below w.heap.size w w' := by
  refine (join_any w a 1 1 _ h).mono fun e w' hp => ?_
  rcases hp with ⟨hok, _⟩ | ⟨_, he, hb⟩
  · exact absurd rfl (hok 0 (by decide)).2.1
  · exact ⟨he, hb⟩
theorem split0_any (w : World) (v : Value) (h : BytesR w v b41) : Calls Try.prog 39 #[v] w fun e w' => ∃ A cap, e = .returned (.tuple #[.slice A 2 cap, .int .i64 0]) ∧ SameRow w' A [(0, [1, 2]), (13, [])] ∧ Below w.heap.size w w' := by
  refine (split_any v b41 w h (by rw [b41_len]; decide)).mono fun e w' hp => ?_
  obtain ⟨v', xs, m, rfl, hcnt, hxs, hown, hG, hb⟩ := hp
  obtain rfl := count_one hcnt cnt0
  rw [els0] at hxs
  have hp : plainU xs = [(0, [1, 2]), (13, [])] := by
    have : plainU xs = (xs.map (·.1)).map (fun p => ((p.1 : Int), p.2)) := by simp [plainU]
    rw [this, hxs]; rfl
  obtain ⟨A, cap, rfl, hs⟩ := same_of_split hown hG
  rw [hp] at hs
  exact ⟨A, cap, by rw [hp, split0]; rfl, hs, hb⟩
theorem split1_any (w : World) (v : Value) (h : BytesR w v (nextB b41 0 14)) : Calls Try.prog 39 #[v] w fun e w' => ∃ v', e = .returned (.tuple #[v', .int .i64 30]) ∧ Below w.heap.size w w' := by
  refine (split_any v _ w h (by rw [nextB_len (by rw [b41_len]; decide)]; decide)).mono fun e w' hp => ?_
  obtain ⟨v', xs, m, rfl, hcnt, hxs, hown, hG, hb⟩ := hp
  obtain rfl := count_one hcnt cnt1
  exact ⟨v', by rw [split1], hb⟩
set_option maxRecDepth 20000 in
set_option maxHeartbeats 4000000 in
theorem first27 (w : World) : Calls Try.prog 28 #[] w fun e w' => e = .returned (.bool true) ∧ Below w.heap.size w w' := by
  have hR := Lib.hid (row0 w)
  have hB := Lib.hid (((Below.refl w.heap.size w).alloc (Nat.le_refl _) (.cells #[.int .u8 1, .int .u8 2] 5)).alloc (by simp) (.cells #[.int .i64 0, .slice (some ⟨w.heap.size, 0, none⟩) 2 2, .int .i64 13, .slice none 0 0] 66))
  have hk48 := fun w => known_any 48 (by decide) (by decide) w
  have hk11 := fun w => known_any 11 (by decide) (by decide) w
  rw [show knownI 48 = true by decide] at hk48
  rw [show knownI 11 = false by decide] at hk11
  have hp13 := fun w => pic_any 13 (by decide) (by decide) w
  rw [show picT 13 = .tuple #[.int .i64 1, .bool true, .bool true] by rfl] at hp13
  have hc1 := fun w => code_any 1 true w
  rw [show codeI 1 true = 13 by rfl] at hc1
  have HK := Lib.hid (And.intro hk48 (And.intro hk11 (And.intro hp13 hc1)))
  clear hk48 hk11 hp13 hc1
  go_enter Try.func28, Try.ntmps28
  go_wp2_with fail
  refine (join0 _ _ w.heap.size hR.out).mono ?_
  rintro e w1 ⟨g, cap, rfl, hcap, hbr, hb1⟩
  have HR1 := Lib.hid (hR.out.later hb1)
  have HB1 := Lib.hid (hB.out.trans (hb1.mono (by simp; omega)))
  have HV1 := Lib.hid hbr
  have hcap' : (41 : Int) ≤ (cap : Int) := by omega
  clear hR hB hbr hb1
  go_wp2_with fail
  refine (split0_any _ _ HV1.out).mono ?_
  rintro e w2 ⟨A2, cap2, rfl, hs2, hb2⟩
  have HS2 := Lib.hid hs2
  have HR2 := Lib.hid (HR1.out.later hb2)
  have HB2 := Lib.hid (HB1.out.trans (hb2.mono HB1.out.size))
  have HV2 := Lib.hid (HV1.out.later hb2)
  clear hs2 hb2
  have hp14 := HV2.out.piece 0 14 (by rw [b41_len]; decide)
  simp only [Nat.add_zero, Nat.sub_zero] at hp14
  have HP14 := Lib.hid hp14
  clear hp14
  go_wp2_with fail
  refine (split1_any _ _ HP14.out).mono ?_
  rintro e w3 ⟨v3, rfl, hb3⟩
  have HS3 := Lib.hid (HS2.out.later hb3)
  have HR3 := Lib.hid (HR2.out.later hb3)
  have HB3 := Lib.hid (HB2.out.trans (hb3.mono HB2.out.size))
  clear hb3 HP14
  have hR4 := Lib.hid (row1 w3)
  have hb4 := (Below.refl w3.heap.size w3).alloc (Nat.le_refl _) (.cells #[.int .i64 16, .slice none 0 0] 66)
  have HS4 := Lib.hid (HS3.out.later hb4)
  have HR4 := Lib.hid (HR3.out.later hb4)
  have HB4 := Lib.hid (HB3.out.trans (hb4.mono HB3.out.size))
  clear hb4
  go_wp2_with fail
  refine (join1 _ _ hR4.out).mono ?_
  rintro e w5 ⟨rfl, hb5⟩
  have HS5 := Lib.hid (HS4.out.later hb5)
  have HR5 := Lib.hid (HR4.out.later hb5)
  have HB5 := Lib.hid (HB4.out.trans (hb5.mono HB4.out.size))
  clear hb5 hR4
  have hsm := same_any w5 A2 (some ⟨w.heap.size + 1, 0, none⟩) cap2 2 _ [(0, [1, 2]), (13, [])] HS5.out (by have := same_of_info HR5.out; rw [X0_U] at this; exact this) (by decide) (by decide)
  rw [decide_eq_true rfl] at hsm
  have HSM := Lib.hid hsm
  clear hsm
  go_wp2_with (first
    | (go_at_call 31; refine (HK.out.2.2.1 _).mono ?_; rintro e w6 ⟨rfl, rfl⟩)
    | (go_at_call 38; refine HSM.out.mono ?_; rintro e w7 ⟨rfl, hb7⟩; have HB7 := Lib.hid (HB5.out.trans (hb7.mono HB5.out.size)); clear hb7)
    | (go_at_call 33; refine (HK.out.2.2.2 _).mono ?_; rintro e w8 ⟨rfl, rfl⟩)
    | (go_at_call_of 29 (Value.int IntKind.i64 48); refine (HK.out.1 _).mono ?_; rintro e w9 ⟨rfl, rfl⟩)
    | (go_at_call_of 29 (Value.int IntKind.i64 11); refine (HK.out.2.1 _).mono ?_; rintro e w9 ⟨rfl, rfl⟩))
  go_ret
  exact ⟨rfl, HB7.out⟩
end Go.Proofs.Ytbekkdlgibijdaa
