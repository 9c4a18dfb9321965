/- The contract of gop.Anchors, of any number; the document's. -/
import Derived.Test.YtmnkbcigjbiniaaGpA
namespace Go.Proofs.Ytmnkbcigjbiniaa
open Go.RowKit

theorem anc_post_nil {n p b : Int} {w w' : World} (hno : okA n p b = false) (hB : Below w.heap.size w w') : AncPost n p b w (.returned (.slice none 0 0)) w' := by
  have hc : cntA n p b = 0 := by unfold cntA; rw [if_neg (by simp [hno])]
  refine ⟨_, rfl, ?_, hB⟩
  rw [hc]
  exact World.ownsRow_nil _ _ _ _

set_option maxHeartbeats 1000000 in
theorem anchors_no (n p b : Int) (w : World) (hno : okA n p b = false) :
    Calls Try.prog 8 #[.int .i64 n, .agg #[.int .i64 p, .int .i64 b]] w (AncPost n p b w) := by
  have hbx := heap_alloc_new w (.cells #[.int .i64 p, .int .i64 b] 23)
  have hB0 := (Below.refl w.heap.size w).alloc (Nat.le_refl _) (.cells #[.int .i64 p, .int .i64 b] 23)
  have HBX := Lib.hid hbx
  have HB0 := Lib.hid hB0
  have HNO := Lib.hid hno
  have hn : rightG p b = true → n < 1 ∨ 1000 < n := fun h => by
    unfold okA at hno
    rw [h] at hno
    simp only [Bool.true_and, Bool.and_eq_false_iff, decide_eq_false_iff_not] at hno
    omega
  have HN := Lib.hid hn
  clear hbx hB0 hno hn
  cases hr : rightG p b with
  | false =>
    go_enter Try.func8, Try.ntmps8
    go_wp2_with (go_at_call 12; refine (right_any _ _ _).mono ?_; rintro e w2 ⟨rfl, hb2⟩; rw [hr]; have hB2 := HB0.out.trans (hb2.mono (by simp)); clear hb2)
    go_ret
    exact anc_post_nil HNO.out hB2
  | true =>
    rcases HN.out hr with hn | hn
    · go_enter Try.func8, Try.ntmps8
      go_wp2_with (go_at_call 12; refine (right_any _ _ _).mono ?_; rintro e w2 ⟨rfl, hb2⟩; rw [hr]; have hB2 := HB0.out.trans (hb2.mono (by simp)); clear hb2)
      all_goals
        go_ret
        exact anc_post_nil HNO.out hB2
    · go_enter Try.func8, Try.ntmps8
      go_wp2_with (go_at_call 12; refine (right_any _ _ _).mono ?_; rintro e w2 ⟨rfl, hb2⟩; rw [hr]; have hB2 := HB0.out.trans (hb2.mono (by simp)); clear hb2)
      all_goals
        go_ret
        exact anc_post_nil HNO.out hB2
theorem anchors_any (n p b : Int) (w : World) : Calls Try.prog 8 #[.int .i64 n, .agg #[.int .i64 p, .int .i64 b]] w (AncPost n p b w) := by
  cases h : okA n p b with
  | true => exact anchors_yes n p b w h
  | false => exact anchors_no n p b w h

set_option maxHeartbeats 1000000 in
theorem refAnchors_no (n p b : Int) (w : World) (hno : okA n p b = false) :
    Calls Try.prog 9 #[.int .i64 n, .agg #[.int .i64 p, .int .i64 b]] w (AncPost n p b w) := by
  have hbx := heap_alloc_new w (.cells #[.int .i64 p, .int .i64 b] 23)
  have hB0 := (Below.refl w.heap.size w).alloc (Nat.le_refl _) (.cells #[.int .i64 p, .int .i64 b] 23)
  have HBX := Lib.hid hbx
  have HB0 := Lib.hid hB0
  have HNO := Lib.hid hno
  have hn : rightG p b = true → n < 1 ∨ 1000 < n := fun h => by
    unfold okA at hno
    rw [h] at hno
    simp only [Bool.true_and, Bool.and_eq_false_iff, decide_eq_false_iff_not] at hno
    omega
  have HN := Lib.hid hn
  clear hbx hB0 hno hn
  cases hr : rightG p b with
  | false =>
    go_enter Try.func9, Try.ntmps9
    go_wp2_with (go_at_call 13; refine (refRight_any _ _ _).mono ?_; rintro e w2 ⟨rfl, hb2⟩; rw [hr]; have hB2 := HB0.out.trans (hb2.mono (by simp)); clear hb2)
    go_ret
    exact anc_post_nil HNO.out hB2
  | true =>
    rcases HN.out hr with hn | hn
    · go_enter Try.func9, Try.ntmps9
      go_wp2_with (go_at_call 13; refine (refRight_any _ _ _).mono ?_; rintro e w2 ⟨rfl, hb2⟩; rw [hr]; have hB2 := HB0.out.trans (hb2.mono (by simp)); clear hb2)
      all_goals
        go_ret
        exact anc_post_nil HNO.out hB2
    · go_enter Try.func9, Try.ntmps9
      go_wp2_with (go_at_call 13; refine (refRight_any _ _ _).mono ?_; rintro e w2 ⟨rfl, hb2⟩; rw [hr]; have hB2 := HB0.out.trans (hb2.mono (by simp)); clear hb2)
      all_goals
        go_ret
        exact anc_post_nil HNO.out hB2

/-- k anchors have come ahead of picture i. -/
def Came (N s k i : Nat) : Prop := (k ≤ (N - 1) / s ∧ i ≤ k * s ∧ k * s < i + s) ∨ ((N - 1) / s + 1 ≤ k ∧ i = (N - 1) / s * s + (k - (N - 1) / s))
theorem came_zero {N s : Nat} (hs : 1 ≤ s) : Came N s 0 0 := .inl ⟨Nat.zero_le _, Nat.zero_le _, by omega⟩
theorem came_hit {N s k i : Nat} (hs : 1 ≤ s) (h : Came N s k i) (hc : i % s = 0 ∨ (N - 1) / s * s < i) : ancG N s k = i ∧ Came N s (k + 1) (i + 1) := by
  rcases h with ⟨h1, h2, h3⟩ | ⟨h1, h2⟩
  · have h4 := Nat.mul_le_mul_right s h1
    have e : i = k * s := by
      rcases hc with hc | hc
      · have e1 := Nat.div_add_mod i s
        rw [hc, Nat.add_zero] at e1
        have e2 : ¬ i / s < k := fun hlt => by
          have := Nat.mul_le_mul_left s (show i / s + 1 ≤ k by omega)
          rw [Nat.mul_add, e1, Nat.mul_comm s k] at this
          omega
        have e3 : ¬ k < i / s := fun hlt => by
          have := Nat.mul_le_mul_left s (show k + 1 ≤ i / s by omega)
          rw [Nat.mul_add, e1, Nat.mul_comm s k] at this
          omega
        have e4 : i / s = k := by omega
        rw [e4, Nat.mul_comm] at e1
        exact e1.symm
      · omega
    refine ⟨by rw [anc_lo h1]; exact e.symm, ?_⟩
    by_cases c : k + 1 ≤ (N - 1) / s
    · exact .inl ⟨c, by rw [Nat.add_mul]; omega, by rw [Nat.add_mul]; omega⟩
    · have e5 : k = (N - 1) / s := by omega
      exact .inr ⟨by omega, by rw [← e5]; omega⟩
  · exact ⟨by rw [anc_hi (by omega)]; exact h2.symm, .inr ⟨by omega, by omega⟩⟩
theorem came_miss {N s k i : Nat} (h : Came N s k i) (h0 : ¬ i % s = 0) (h1 : ¬ (N - 1) / s * s < i) : Came N s k (i + 1) := by
  rcases h with ⟨h2, h3, h4⟩ | ⟨h2, h3⟩
  · have e : i ≠ k * s := fun e => h0 (by rw [e]; exact Nat.mul_mod_left _ _)
    exact .inl ⟨h2, by omega, by omega⟩
  · omega
theorem came_end {N s k : Nat} (hN : 1 ≤ N) (h : Came N s k N) : k = cntG N s := by
  have hd := div_mod N s
  rcases h with ⟨h2, h3, h4⟩ | ⟨h2, h3⟩
  · have := Nat.mul_le_mul_right s h2
    omega
  · unfold cntG; omega
theorem came_le {N s k i : Nat} (hs : 1 ≤ s) (h : Came N s k i) (hi : i ≤ N) : k ≤ N + 1 := by
  have hd := div_mod N s
  rcases h with ⟨h2, h3, h4⟩ | ⟨h2, h3⟩
  · have := Nat.div_le_self (N - 1) s
    omega
  · have := Nat.mul_le_mul_left ((N - 1) / s) hs
    omega
theorem own_base {w : World} {base base' size n : Nat} {e : TypeId} {v : Value} {xs : List Value} (h : w.ownsRow base e size v n xs) (hb : base' ≤ base) : w.ownsRow base' e size v n xs := by
  refine ⟨h.1, ?_⟩
  rcases h.2 with h2 | ⟨g, cap, cur, hv, hg, r⟩
  · exact .inl h2
  · exact .inr ⟨g, cap, cur, hv, by omega, r⟩

set_option maxRecDepth 20000 in
set_option maxHeartbeats 2000000 in
theorem refAnchors_yes (n p b : Int) (w : World) (hok : okA n p b = true) :
    Calls Try.prog 9 #[.int .i64 n, .agg #[.int .i64 p, .int .i64 b]] w (AncPost n p b w) := by
  obtain ⟨i0, hi, hz0, hz1, hz2⟩ := info_parts info3
  obtain ⟨⟨p0, p1, b0, b1⟩, n0, n1⟩ := okA_yes hok
  have hcn : cntA n p b = cntG n.toNat (stepA b) := by unfold cntA; rw [if_pos hok]
  have hr : rightG p b = true := rightG_of (by omega)
  obtain ⟨N, rfl⟩ : ∃ N : Nat, n = N := ⟨n.toNat, by omega⟩
  have hs : stepA b = b.toNat + 1 := rfl
  obtain ⟨s, hS⟩ : ∃ s, s = stepA b := ⟨_, rfl⟩
  have hsb : (s : Int) = b + 1 := by rw [hS, hs]; omega
  have hdm := div_mod N s
  have hbx := heap_alloc_new w (.cells #[.int .i64 p, .int .i64 b] 23)
  have hB0 := (Below.refl w.heap.size w).alloc (Nat.le_refl _) (.cells #[.int .i64 p, .int .i64 b] 23)
  have HS := Lib.hid hS
  have HC := Lib.hid hcn
  have HBX := Lib.hid hbx
  have HB0 := Lib.hid hB0
  have HDM := Lib.hid hdm
  have HSB := Lib.hid hsb
  clear hS hcn hbx hB0 hs hdm hsb hok
  have hd0 : 0 ≤ ((N : Int) - 1) / (b + 1) := Int.ediv_nonneg (by omega) (by omega)
  have hd1 : ((N : Int) - 1) / (b + 1) ≤ 999 := by have := Int.ediv_le_self (b + 1) (show (0 : Int) ≤ (N : Int) - 1 by omega); omega
  have hm0 : 0 ≤ ((N : Int) - 1) / (b + 1) * (b + 1) := Int.mul_nonneg hd0 (by omega)
  have hm1 : ((N : Int) - 1) / (b + 1) * (b + 1) ≤ N - 1 := Int.ediv_mul_le _ (by omega)
  have hb1 : ¬ b + 1 = 0 := by omega
  go_enter Try.func9, Try.ntmps9
  go_wp2_with (go_at_call 13; refine (refRight_any _ _ _).mono ?_; rintro e w2 ⟨rfl, hb2⟩; rw [hr]; have hB2 := HB0.out.trans (hb2.mono (by simp)); have hbx2 := block_later HBX.out hb2; have k1 := cell_of_row _ _ 1 _ _ _ hbx2; simp only [List.getElem?_toArray, List.getElem?_cons_zero, List.getElem?_cons_succ] at k1; clear hb2 )
  go_quiet (fail)
  go_wp2_with fail
  obtain ⟨w3, hw3⟩ : ∃ w3, w3 = w2.drewN nq := ⟨_, rfl⟩
  have k3 : w3.cell? ⟨w.heap.size, 1, none⟩ = some (.int .i64 b) := by rw [hw3]; exact k1
  have hB3 : Below w.heap.size w w3 := by rw [hw3]; exact below_drewN hB2 _
  rw [← hw3]
  clear hw3 k1 hB2
  have hs1 : 1 ≤ s := by have := HSB.out; omega
  have hlast : (((N - 1) / s * s : Nat) : Int) = ((N : Int) - 1) / (b + 1) * (b + 1) := by
    rw [Int.natCast_mul, Int.natCast_ediv, HSB.out, Int.natCast_sub (by omega)]; rfl
  have HL := Lib.hid hlast
  have hk0 := block_lt_of_cell k3
  simp only at hk0
  clear hlast
  go_loopw [5, 7] (fun v i wr => ∃ k j : Nat, j ≤ N ∧ i = .int .i64 j ∧ Hid (Came N s k j) ∧ k ≤ N + 1 ∧ wr.ownsRow w3.heap.size 3 1 v k ((List.range k).map (ancV N b)) ∧ Below w3.heap.size w3 wr) (fun _ i _ => (N - intOf i).toNat)
  case atStart => exact ⟨0, 0, by omega, rfl, Lib.hid (came_zero hs1), by omega, World.ownsRow_nil _ _ _ _, Below.refl _ _⟩
  case round =>
    obtain ⟨k, j, hj, rfl, hC, hkN, hown, hB⟩ := hrel
    have k1 := cell_later k3 hB
    have hsz := hB.size
    clear k3
    by_cases hlt : j < N
    · have hm : ((j : Int) % (b + 1) = 0) = (j % s = 0) := by
        rw [← HSB.out, ← Int.natCast_emod]
        exact propext ⟨fun h => by omega, fun h => by omega⟩
      by_cases c : j % s = 0
      · have c1 : (j : Int) % (b + 1) = 0 := by rw [hm]; exact c
        obtain ⟨h1, h2⟩ := came_hit hs1 hC.out (.inl c)
        have h3 := came_le hs1 h2 hlt
        have HA := Lib.hid h1
        have HC2 := Lib.hid h2
        clear c hm h1 h2
        go_wp2_with (at_builtin; refine wpList_append_own _ rfl _ _ 25 rfl w3.heap.size 3 i0 (.int .i64 0) 1 8 Try.underlying25 hi hz0 hz1 hz2 rfl (by decide) _ _ _ rfl (hown.alloc _) ⟨wr.heap.size, 0, none⟩ 1 1 [.int .i64 (j : Nat)] rfl rfl (cell_one_new _ _ _) (by simp [Value.oneCell']) (by unfold maxLen; omega) (by omega) (by simp; omega) ?_; intro v' w4 hown2 hgrow _)
        go_roundw
        case rel => exact ⟨k + 1, j + 1, by omega, by go_num, HC2, by omega, by rw [anc_snoc, show ancV N b k = .int .i64 (j : Nat) by unfold ancV ancA; rw [← HS.out, Int.toNat_natCast, HA.out]]; exact hown2, (hB.alloc (by omega) _).grown hgrow (by simp; omega) (fun j hj => (hown.lt j hj).1)⟩
        case measure => simp [intOf]; omega
      · have c1 : ((j : Int) % (b + 1) == 0) = false := by simp only [beq_eq_false_iff_ne, ne_eq, hm]; exact c
        by_cases d : (N - 1) / s * s < j
        · have d1 : ((N : Int) - 1) / (b + 1) * (b + 1) < (j : Int) := by rw [← HL.out]; omega
          obtain ⟨h1, h2⟩ := came_hit hs1 hC.out (.inr d)
          have h3 := came_le hs1 h2 hlt
          have HA := Lib.hid h1
          have HC2 := Lib.hid h2
          have HC1 := Lib.hid c1
          clear c hm h1 h2 d
          go_wp2_with (at_builtin; refine wpList_append_own _ rfl _ _ 25 rfl w3.heap.size 3 i0 (.int .i64 0) 1 8 Try.underlying25 hi hz0 hz1 hz2 rfl (by decide) _ _ _ rfl (hown.alloc _) ⟨wr.heap.size, 0, none⟩ 1 1 [.int .i64 (j : Nat)] rfl rfl (cell_one_new _ _ _) (by simp [Value.oneCell']) (by unfold maxLen; omega) (by omega) (by simp; omega) ?_; intro v' w4 hown2 hgrow _)
          all_goals
            go_roundw
            case rel => exact ⟨k + 1, j + 1, by omega, by go_num, HC2, by omega, by rw [anc_snoc, show ancV N b k = .int .i64 (j : Nat) by unfold ancV ancA; rw [← HS.out, Int.toNat_natCast, HA.out]]; exact hown2, (hB.alloc (by omega) _).grown hgrow (by simp; omega) (fun j hj => (hown.lt j hj).1)⟩
            case measure => simp [intOf]; omega
        · have d1 : ¬ ((N : Int) - 1) / (b + 1) * (b + 1) < (j : Int) := by rw [← HL.out]; omega
          have h2 := came_miss hC.out c d
          have HC2 := Lib.hid h2
          clear c hm h2 d
          go_wp2
          all_goals
            go_roundw
            case rel => exact ⟨k, j + 1, by omega, by go_num, HC2, by omega, hown, hB⟩
            case measure => simp [intOf]; omega
    · obtain rfl : j = N := by omega
      have hkc : cntA j p b = k := by rw [HC.out, ← HS.out, Int.toNat_natCast]; exact (came_end (by omega) hC.out).symm
      have HK := Lib.hid hkc
      clear hkc
      go_wp2
      go_ret
      exact ⟨_, rfl, by rw [HK.out]; exact own_base hown hB3.size, hB3.trans (hB.mono hB3.size)⟩
theorem refAnchors_any (n p b : Int) (w : World) : Calls Try.prog 9 #[.int .i64 n, .agg #[.int .i64 p, .int .i64 b]] w (AncPost n p b w) := by
  cases h : okA n p b with
  | true => exact refAnchors_yes n p b w h
  | false => exact refAnchors_no n p b w h
end Go.Proofs.Ytmnkbcigjbiniaa
