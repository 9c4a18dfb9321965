/- The first line of the laws on the order of pictures. -/
import Derived.Test.YtmnkbcigjbiniaaDlW
namespace Go.Proofs.Ytmnkbcigjbiniaa
open Go.RowKit

theorem shrow_of {w : World} {base : Nat} {v : Value} {xs : List ShX} (h : w.ownsRow base 32 4 v xs.length (rowX xs)) (hG : ∀ x ∈ xs, ShG x w) : ∃ A cap, v = .slice A xs.length cap ∧ ShRow w A xs := by
  obtain ⟨A, cap, g, hv, hA, hc⟩ := own_at h
  refine ⟨A, cap, hv, ⟨g, ?_, fun i x hx t ht => ?_⟩, fun x hx => refs_form (hG x hx)⟩
  · rcases hA with h0 | ⟨h0, _⟩
    · exact .inl (List.length_eq_zero_iff.1 h0)
    · exact .inr h0
  · have hi : i < xs.length := (List.getElem?_eq_some_iff.1 hx).1
    rw [hc _ (by omega)]
    exact rowX_get xs i x hx t ht
theorem shots_first : shots 5 0 1 = [⟨0, [], true, 0⟩, ⟨2, [0], true, 0⟩, ⟨1, [0, 2], false, 0⟩, ⟨4, [2], true, 4⟩, ⟨3, [2, 4], false, 0⟩] := by rfl
theorem cnt_first : cntA 5 0 3 = 2 := by rfl
theorem delay_first : delayI [0, 2, 1, 4, 3] 5 = 1 := by
  have m0 : mexN ([0, 2, 1, 4, 3].take 0) = 0 := mexN_eq ⟨fun j hj => by omega, by simp⟩
  have m1 : mexN ([0, 2, 1, 4, 3].take 1) = 1 := mexN_eq ⟨fun j hj => by (obtain rfl : j = 0 := (by omega)); simp, by simp⟩
  have m2 : mexN ([0, 2, 1, 4, 3].take 2) = 1 := mexN_eq ⟨fun j hj => by (obtain rfl : j = 0 := (by omega)); simp, by simp⟩
  have m3 : mexN ([0, 2, 1, 4, 3].take 3) = 3 := mexN_eq ⟨fun j hj => by rcases (by omega : j = 0 ∨ j = 1 ∨ j = 2) with rfl | rfl | rfl <;> simp, by simp⟩
  have m4 : mexN ([0, 2, 1, 4, 3].take 4) = 3 := mexN_eq ⟨fun j hj => by rcases (by omega : j = 0 ∨ j = 1 ∨ j = 2) with rfl | rfl | rfl <;> simp, by simp⟩
  unfold delayI delayI delayI delayI delayI delayI
  rw [m0, m1, m2, m3, m4]
  rfl
theorem five {xs : List ShX} {a b c d e : Sh} (h : xs.map (·.1) = [a, b, c, d, e]) : ∃ v0 v1 v2 v3 v4, xs = [(a, v0), (b, v1), (c, v2), (d, v3), (e, v4)] := by
  match xs, h with
  | [(_, v0), (_, v1), (_, v2), (_, v3), (_, v4)], h =>
    simp only [List.map_cons, List.map_nil, List.cons.injEq, and_true] at h
    obtain ⟨rfl, rfl, rfl, rfl, rfl⟩ := h
    exact ⟨v0, v1, v2, v3, v4, rfl⟩

set_option maxRecDepth 100000 in
set_option maxHeartbeats 1000000 in
theorem first32 (w : World) :
    Calls Try.prog 7 #[] w fun e w' => e = .returned (.bool true) ∧ Below w.heap.size w w' := by
  have r8 : rightG 0 8 = false := by decide
  go_enter Try.func7, Try.ntmps7
  go_wp2_with fail
  refine (list_any _ _ _ _).mono ?_
  rintro e w1 ⟨v, xs, rfl, hxs, hown, hG, hB⟩
  rw [shots_first] at hxs
  obtain ⟨v0, v1, v2, v3, v4, rfl⟩ := five hxs
  obtain ⟨A, cap, rfl, hrow⟩ := shrow_of hown hG
  have hg2 := hG (⟨1, [0, 2], false, 0⟩, v2) (by simp)
  obtain ⟨g2, rfl⟩ : ∃ g, v2 = .slice (some ⟨g, 0, none⟩) 2 2 := by
    rcases hg2 with ⟨h, _⟩ | ⟨_, g, h, _⟩
    · cases h
    · exact ⟨g, h⟩
  have c1 := hrow.at (k := 1) (by simp)
  have c2 := hrow.at (k := 2) (by simp)
  have c3 := hrow.at (k := 3) (by simp)
  have c4 := hrow.at (k := 4) (by simp)
  obtain ⟨g, _, _, _, rfl, p0, _⟩ := c1
  obtain ⟨_, B, m, c, e2, q0, q1, _, _, q2⟩ := c2
  obtain ⟨_, _, _, _, e3, _, _, _, s0, _⟩ := c3
  obtain ⟨_, _, _, _, e4, t0, _⟩ := c4
  cases e2
  cases e3
  cases e4
  simp only [List.getElem_cons_succ, List.getElem_cons_zero, Nat.reduceMul, Nat.reduceAdd] at p0 q0 q1 q2 s0 t0
  rw [← q2] at q1
  have hd : Calls Try.prog 17 #[.slice (some ⟨g, 0, none⟩) 5 cap] w1 fun e w' => e = .returned (.int .i64 1) ∧ Below w1.heap.size w1 w' := by
    have := delay_any _ _ cap w1 hrow (by simp) (by intro x hx; simp [numsX] at hx; rcases hx with rfl | rfl | rfl | rfl | rfl <;> omega)
    have e : delayI (numsX [((⟨0, [], true, 0⟩ : Sh), v0), (⟨2, [0], true, 0⟩, v1), (⟨1, [0, 2], false, 0⟩, .slice (some ⟨g2, 0, none⟩) 2 2), (⟨4, [2], true, 4⟩, v3), (⟨3, [2, 4], false, 0⟩, v4)]) 5 = 1 := delay_first
    rw [← e]
    exact this
  have HD := Lib.hid hd
  clear hd hown hG hg2 hrow q2 hxs
  go_wp2_with (first
    | (go_at_call 17; refine HD.out.mono ?_; rintro e w2 ⟨rfl, hb2⟩; have hB := below2 hB hb2; clear hb2 p0 q0 q1 s0 t0)
    | (go_at_call 8; refine (anchors_any _ _ _ _).mono ?_; rintro e w3 ⟨v, rfl, hown, hb3⟩; rw [cnt_first] at hown; obtain ⟨A3, cap3, g3, rfl, _, _⟩ := own_at hown; have hB := below2 hB hb3; clear hb3 hown)
    | (go_at_call 12; refine (right_any _ _ _).mono ?_; rw [r8]; rintro e w4 ⟨rfl, hb4⟩; have hB := below2 hB hb4; clear hb4))
  go_ret
  exact ⟨rfl, hB⟩
end Go.Proofs.Ytmnkbcigjbiniaa
