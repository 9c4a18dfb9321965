/- The contract of gop.Anchors. -/
import Derived.Test.YtmnkbcigjbiniaaGp
import Derived.OwnWalk
namespace Go.Proofs.Ytmnkbcigjbiniaa
open Go.RowKit

theorem info3 : (Try.prog.info? 3).map (fun i => (i.zero, i.size, i.bytes)) = some (some (.int .i64 0), 1, 8) := by kernel_rfl
/-- What a call that answers the anchors leaves. -/
def AncPost (n p b : Int) (w : World) (e : Ending) (w' : World) : Prop := ∃ v, e = .returned v ∧ w'.ownsRow w.heap.size 3 1 v (cntA n p b) ((List.range (cntA n p b)).map (ancV n b)) ∧ Below w.heap.size w w'
theorem anc_snoc (n b : Int) (k : Nat) : (List.range (k + 1)).map (ancV n b) = (List.range k).map (ancV n b) ++ [ancV n b k] := by rw [List.range_succ]; simp
theorem own_at {w : World} {base size n : Nat} {e : TypeId} {v : Value} {xs : List Value} (h : w.ownsRow base e size v n xs) :
    ∃ A cap g, v = .slice A n cap ∧ (n = 0 ∨ A = some ⟨g, 0, none⟩ ∧ g < w.heap.size ∧ base ≤ g) ∧ (∀ j, j < n * size → w.cell? ⟨g, j, none⟩ = xs[j]?) := by
  obtain ⟨hl, ⟨rfl, h0⟩ | ⟨g, cap, cur, hv, hg, hh, _, _, _, ht⟩⟩ := h
  · subst h0; exact ⟨none, 0, 0, rfl, .inl rfl, fun j hj => by omega⟩
  · refine ⟨_, cap, g, hv, .inr ⟨rfl, (Array.getElem?_eq_some_iff.1 hh).1, hg⟩, fun j hj => ?_⟩
    rw [cell_of_row _ _ _ _ _ _ hh, ← ht, List.getElem?_take_of_lt hj]; simp

set_option maxRecDepth 20000 in
set_option maxHeartbeats 2000000 in
theorem anchors_yes (n p b : Int) (w : World) (hok : okA n p b = true) :
    Calls Try.prog 8 #[.int .i64 n, .agg #[.int .i64 p, .int .i64 b]] w (AncPost n p b w) := by
  obtain ⟨i0, hi, hz0, hz1, hz2⟩ := info_parts info3
  obtain ⟨⟨p0, p1, b0, b1⟩, n0, n1⟩ := okA_yes hok
  have hcn : cntA n p b = cntG n.toNat (stepA b) := by unfold cntA; rw [if_pos hok]
  have hr : rightG p b = true := rightG_of (by omega)
  obtain ⟨N, rfl⟩ : ∃ N : Nat, n = N := ⟨n.toNat, by omega⟩
  have hs : stepA b = b.toNat + 1 := rfl
  obtain ⟨s, hS⟩ : ∃ s, s = stepA b := ⟨_, rfl⟩
  have hsb : (s : Int) = b + 1 := by rw [hS, hs]; omega
  have hdm := div_mod N s
  have hbx := heap_alloc_new w (.cells #[.int .i64 p, .int .i64 b] 23)
  have hB0 := (Below.refl w.heap.size w).alloc (Nat.le_refl _) (.cells #[.int .i64 p, .int .i64 b] 23)
  have HS := Lib.hid hS
  have HC := Lib.hid hcn
  have HBX := Lib.hid hbx
  have HB0 := Lib.hid hB0
  have HDM := Lib.hid hdm
  have HSB := Lib.hid hsb
  clear hS hcn hbx hB0 hs hdm hsb hok
  go_enter Try.func8, Try.ntmps8
  go_wp2_with (go_at_call 12; refine (right_any _ _ _).mono ?_; rintro e w2 ⟨rfl, hb2⟩; rw [hr]; have hB2 := HB0.out.trans (hb2.mono (by simp)); have hbx2 := block_later HBX.out hb2; have k1 := cell_of_row _ _ 1 _ _ _ hbx2; simp only [List.getElem?_toArray, List.getElem?_cons_zero, List.getElem?_cons_succ] at k1; clear hb2 hbx2)
  have hz2' := hB2.size
  have hq9 : (N - 1) / s ≤ 999 := by have := Nat.div_le_self (N - 1) s; omega
  have hs1 : 1 ≤ s ∧ s ≤ 8 := by have := HSB.out; omega
  obtain ⟨hs1, hs8⟩ := hs1
  have HQ := Lib.hid (show ∀ k, k ≤ (N - 1) / s ↔ k * s < N from fun k => step_iff (by omega) hs1)
  obtain ⟨q, hq⟩ : ∃ q, q = (N - 1) / s := ⟨_, rfl⟩
  rw [← hq] at hq9
  have HQQ := Lib.hid hq
  clear hq
  go_loopw [5, 7] (fun v i wr => ∃ k A : Nat, k ≤ q + 1 ∧ A ≤ N + 7 ∧ i = .int .i64 A ∧ Hid (A = k * s) ∧ wr.ownsRow w.heap.size 3 1 v k ((List.range k).map (ancV N b)) ∧ Below w.heap.size w wr) (fun _ i _ => (N + 8 - intOf i).toNat)
  case atStart => exact ⟨0, 0, by omega, by omega, rfl, Lib.hid (by simp), World.ownsRow_nil _ _ _ _, hB2⟩
  case round =>
    clear k1 hB2
    obtain ⟨k, A, hk, hA, rfl, hAk, hown, hB⟩ := hrel
    have hsz := hB.size
    have hSB := HSB.out
    by_cases hlt : A < N
    · have hkq : k ≤ q := by
        have h1 := (HQ.out k).2 (by rw [← hAk.out]; exact hlt)
        rw [HQQ.out]; exact h1
      have e1 : ancV N b k = .int .i64 (A : Nat) := by
        unfold ancV ancA
        rw [← HS.out, Int.toNat_natCast, anc_lo (by rw [← HQQ.out]; exact hkq), ← hAk.out]
      have hA2 : A + s = (k + 1) * s := by rw [Nat.add_mul, ← hAk.out]; omega
      have HA2 := Lib.hid hA2
      have HE1 := Lib.hid e1
      clear e1 hA2 hSB
      go_wp2_with (at_builtin; refine wpList_append_own _ rfl _ _ 25 rfl w.heap.size 3 i0 (.int .i64 0) 1 8 Try.underlying25 hi hz0 hz1 hz2 rfl (by decide) _ _ _ rfl (hown.alloc _) ⟨wr.heap.size, 0, none⟩ 1 1 [.int .i64 (A : Nat)] rfl rfl (cell_one_new _ _ _) (by simp [Value.oneCell']) (by unfold maxLen; omega) (by omega) (by simp; omega) ?_; intro v' w3 hown2 hgrow _)
      go_roundw
      case rel => exact ⟨k + 1, A + s, by omega, by omega, by have := HSB.out; go_num, HA2, by rw [anc_snoc, HE1.out]; exact hown2, (hB.alloc (by omega) _).grown hgrow (by simp; omega) (fun j hj => (hown.lt j hj).1)⟩
      case measure => have := HSB.out; simp [intOf]; omega
    · have hkq : k = q + 1 := by
        have h1 := (HQ.out k).1
        rw [← HQQ.out, ← hAk.out] at h1
        omega
      subst hkq
      obtain ⟨Ad, cap, g, hv, hA1, hc⟩ := own_at hown
      obtain ⟨rfl, hg1, hg2⟩ : Ad = some ⟨g, 0, none⟩ ∧ g < wr.heap.size ∧ w.heap.size ≤ g := by
        rcases hA1 with h | h
        · omega
        · exact h
      subst hv
      have hcq := hc q (by omega)
      have hqs : q * s ≤ N - 1 := by have := HDM.out; rw [← HQQ.out] at this; omega
      obtain ⟨T, hT⟩ : ∃ T, T = q * s := ⟨_, rfl⟩
      rw [← hT] at hqs
      have e1 : ancV N b q = .int .i64 (T : Nat) := by
        unfold ancV ancA
        rw [← HS.out, Int.toNat_natCast, anc_lo (by rw [← HQQ.out]; omega), ← hT]
      have hcq' : wr.cell? ⟨g, q, none⟩ = some (.int .i64 (T : Nat)) := by
        rw [hcq, ← e1]
        simp
      have HT := Lib.hid hT
      clear hc hcq e1 hA1 hT
      go_wp2_with fail
      clear hcq'
      obtain ⟨wo, rfl⟩ : ∃ wo : World, wo = wr := ⟨_, rfl⟩
      go_loopw [5, 8] (fun v i wq => ∃ j : Nat, T + 1 + j ≤ N ∧ i = .int .i64 ((T + 1 + j : Nat) : Int) ∧ wq.ownsRow w.heap.size 3 1 v (q + 1 + j) ((List.range (q + 1 + j)).map (ancV N b)) ∧ Below w.heap.size w wq) (fun _ i _ => (N - intOf i).toNat)
      case atStart => exact ⟨0, by omega, by go_num, hown, hB⟩
      case round =>
        clear hown hB hg1 hg2 hsz
        obtain ⟨j, hj, rfl, hown, hB⟩ := hrel
        have hsz := hB.size
        by_cases hjl : T + 1 + j < N
        · have e1 : ancV N b (q + 1 + j) = .int .i64 ((T : Int) + 1 + (j : Int)) := by
            unfold ancV ancA
            rw [← HS.out, Int.toNat_natCast, anc_hi (by rw [← HQQ.out]; omega), ← HQQ.out, ← HT.out]
            congr 1; omega
          have HE1 := Lib.hid e1
          clear e1
          go_wp2_with (at_builtin; refine wpList_append_own _ rfl _ _ 25 rfl w.heap.size 3 i0 (.int .i64 0) 1 8 Try.underlying25 hi hz0 hz1 hz2 rfl (by decide) _ _ _ rfl (hown.alloc _) ⟨wr.heap.size, 0, none⟩ 1 1 [.int .i64 ((T : Int) + 1 + (j : Int))] rfl rfl (cell_one_new _ _ _) (by simp [Value.oneCell']) (by unfold maxLen; omega) (by omega) (by simp; omega) ?_; intro v' w3 hown2 hgrow _)
          go_roundw
          case rel => exact ⟨j + 1, by omega, by go_num, by rw [← Nat.add_assoc, anc_snoc, HE1.out]; exact hown2, (hB.alloc (by omega) _).grown hgrow (by simp; omega) (fun j hj => (hown.lt j hj).1)⟩
          case measure => simp [intOf]; omega
        · have hjN : cntA N p b = q + 1 + j := by
            rw [HC.out, ← HS.out, Int.toNat_natCast]
            unfold cntG
            have h1 := HDM.out
            have h2 := HT.out
            rw [← HQQ.out] at h1 ⊢
            omega
          have HJ := Lib.hid hjN
          clear hjN
          go_wp2
          go_ret
          exact ⟨_, rfl, by rw [HJ.out]; exact hown, hB⟩
end Go.Proofs.Ytmnkbcigjbiniaa
