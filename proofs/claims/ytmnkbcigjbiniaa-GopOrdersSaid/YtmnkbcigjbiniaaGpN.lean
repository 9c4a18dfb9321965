/- gop.All's iterator, ranged over: its walk. -/
import Derived.Test.YtmnkbcigjbiniaaGpM
namespace Go.Proofs.Ytmnkbcigjbiniaa
open Go.RowKit Go.Shelf
attribute [local go_sem] Oper.semAt_some

set_option maxRecDepth 100000 in
set_option maxHeartbeats 4000000 in
theorem all1_in (d l B : Nat) (n p b : Int) (hok : okA n p b = true)
    (J : List ShX → World → Prop) (W : World) (hJ : AbidesFrom W.heap.size J)
    (hY : ∀ pre x W1, J pre W1 → ShG x W1 → pre.length < (shots n p b).length → YieldAt Fence.wide (d - 1) Try.prog l (encX x) W1 fun e W' => e = .returned (.bool true) ∧ J (pre ++ [x]) W' ∧ KP B W1 W')
    (hx0 : Boxed W (B + 0) 3 (.int .i64 n)) (hx1 : W.heap[B + 1]? = some (.cells #[.int .i64 p, .int .i64 b] 23 (0, 0))) (h0 : J [] W) :
    CallsIn Fence.wide d Try.prog 19 #[.func (.yield l) #[] #[], .pointer (some ⟨B, 0, none⟩), .pointer (some ⟨B + 1, 0, none⟩)] W fun e W' => (∃ v, e = .returned v) ∧ ∃ xs : List ShX, xs.map (·.1) = shots n p b ∧ J xs W' := by
  have hc0 : W.cell? ⟨B, 0, none⟩ = some (.int .i64 n) := hx0.cell
  have hc1 : W.cell? ⟨B + 1, 0, none⟩ = some (.int .i64 p) := cell_of_row _ _ 0 _ _ _ hx1
  have hc2 : W.cell? ⟨B + 1, 1, none⟩ = some (.int .i64 b) := cell_of_row _ _ 1 _ _ _ hx1
  have hsz := block_lt hx1
  have X1 := Lib.hid hx1
  have HY := Lib.hid hY
  have HJ := Lib.hid hJ
  clear hx0 hx1 hY hJ
  have hcn := cntA_le n p b
  refine callsIn_of_wp Try.func19 rfl trivial ?_ rfl
  simp only [Try.ntmps19, List.size_toArray, List.length_cons, List.length_nil, Nat.reduceAdd, Nat.reduceSub, Array.replicate_succ, Array.replicate_zero, List.push_toArray, List.append_toArray, List.nil_append, List.cons_append]
  refine wpIn_wide.2 (wp_scope_straight ((wpIn_wide (n := d)).1 ?_))
  have hwide : ∀ k, Fence.wide.fn k := fun _ => trivial
  have hdep : Fence.wide.depth = none := rfl
  have hrnd : Fence.wide.round = none := rfl
  gi_wp2_with fail
  refine (callsIn_wide.2 (anchors_any n p b _)).mono ?_
  rintro e w1 ⟨v, rfl, hown, hb1⟩
  obtain ⟨hA, g, cap, cur, hv, hg0, hgr, htake⟩ : 0 < cntA n p b ∧ ∃ g cap cur, v = .slice (some ⟨g, 0, none⟩) (cntA n p b) cap ∧ W.heap.size ≤ g ∧ w1.heap[g]? = some (.cells cur 3 (0, 0)) ∧ cur.toList.take (cntA n p b) = (List.range (cntA n p b)).map (ancV n b) := by
    have hpos : 0 < cntA n p b := by
      unfold cntA; rw [if_pos hok]; unfold cntG; exact Nat.lt_of_lt_of_le (Nat.succ_pos _) (Nat.le_add_right _ _)
    rcases hown.2 with ⟨_, h⟩ | ⟨g, cap, cur, hv, hg, hh, _, _, _, ht⟩
    · omega
    · exact ⟨hpos, g, cap, cur, hv, hg, hh, by simpa using ht⟩
  subst hv
  have hcur : ∀ j, j < cntA n p b → cur[j]? = some (ancV n b j) := fun j hj => by
    have : (cur.toList.take (cntA n p b))[j]? = some (ancV n b j) := by rw [htake]; simp [hj]
    rwa [List.getElem?_take_of_lt hj, Array.getElem?_toList] at this
  have hK1 : KP B W w1 := KP.of hb1 (by omega)
  have hJ1 : J [] w1 := HJ.out _ _ _ none h0 (below_grown hb1) (fun r e => by cases e)
  have hgB : B + 2 ≤ g := by omega
  have HCUR := Lib.hid hcur
  have HGR := Lib.hid hgr
  have HB1 := Lib.hid hb1
  have HJ1 := Lib.hid hJ1
  have HK1 := Lib.hid hK1
  clear hcur hgr hb1 hJ1 hK1 hown htake hc0 hc1 hc2 h0
  gi_wp2_with fail
  refine wpIn_label ?_
  gi_wp2_with fail
  gi_loopw [13] (fun i wr => ∃ k : Nat, k ≤ cntA n p b ∧ i = .int .i64 k ∧ Hid (∃ pre : List ShX, pre.map (·.1) = ahead n p b k ∧ J pre wr) ∧ Hid (KP B w1 wr)) (fun i _ => (cntA n p b - intOf i).toNat)
  case atStart => exact ⟨0, by omega, rfl, Lib.hid ⟨[], rfl, HJ1.out⟩, Lib.hid (KP.refl _ _)⟩
  case round =>
    obtain ⟨k, hk, rfl, hS, hKr⟩ := hrel
    obtain ⟨wo, rfl⟩ : ∃ wo : World, wo = wr := ⟨_, rfl⟩
    have hgo := hKr.out.2.2 _ _ _ hgB HGR.out
    have hbo := HK1.out.trans hKr.out |>.keep X1.out (by omega)
    have hWo : W.heap.size ≤ wo.heap.size := Nat.le_trans HB1.out.size hKr.out.1
    by_cases hlt : k < cntA n p b
    · obtain ⟨Aq, hAq⟩ : ∃ Aq, Aq = ancA n b k := ⟨_, rfl⟩
      have hAq1 : Aq ≤ 1000 := by have := ancA_bd hok hlt; omega
      have y0 : wo.cell? ⟨g, k, none⟩ = some (.int .i64 (Aq : Nat)) := by rw [cell_of_row _ _ k _ _ _ hgo, HCUR.out k hlt, hAq]; rfl
      have y1 : wo.cell? ⟨B + 1, 0, none⟩ = some (.int .i64 p) := cell_of_row _ _ 0 _ _ _ hbo
      have y2 : wo.cell? ⟨B + 1, 1, none⟩ = some (.int .i64 b) := cell_of_row _ _ 1 _ _ _ hbo
      have i1 : (0 : Int) ≤ (k : Int) := by omega
      have i2 : (k : Int) < (cntA n p b : Int) := by omega
      have HAQ := Lib.hid hAq
      have HGO := Lib.hid hgo
      have HBO := Lib.hid hbo
      clear hAq hgo hbo
      gi_wp2_with fail
      refine (callsIn_wide.2 (anchor_any hok hlt g cap wo (fun j hj => by rw [cell_of_row _ _ j _ _ _ HGO.out, HCUR.out j hj]))).mono ?_
      clear y0 y1 y2
      rintro e w2 ⟨v, rfl, hR, hb2⟩
      obtain ⟨pre, hpre, hJp⟩ := hS.out
      have hJ2 : J pre w2 := HJ.out _ _ _ none hJp (below_grown hb2) (fun r e => by cases e)
      have hl : pre.length = (ahead n p b k).length := by rw [← hpre, List.length_map]
      have hY5 := HY.out pre (anchorSh n p b k, v) w2 hJ2 hR (by have := ahead_lt (p := p) hlt (by rw [group_len]; omega : 0 < _); omega)
      obtain ⟨fn, tmps, assign, body, hy, hRd⟩ := hY5
      have HR5 := Lib.hid hRd
      have HPRE := Lib.hid hpre
      have HB2 := Lib.hid hb2
      simp only [encX, shV] at hy ⊢
      clear hRd hpre hb2 hJ2 hJp hl hR
      gi_wp2_with fail
      refine HR5.out.mono ?_
      clear hy HR5
      rintro e w3 ⟨rfl, hJ3, hK3⟩
      have hKw : KP B w1 w3 := (hKr.out.trans (KP.of HB2.out (by omega))).trans hK3
      have hpre3 : (pre ++ [(anchorSh n p b k, v)]).map (·.1) = partG n p b k 0 := by rw [List.map_append, HPRE.out]; rfl
      have HJ3 := Lib.hid hJ3
      have HKW := Lib.hid hKw
      have HP3 := Lib.hid hpre3
      have hW3 : W.heap.size ≤ w3.heap.size := Nat.le_trans HB1.out.size hKw.1
      clear hJ3 hK3 hKw hpre3
      by_cases k0 : k = 0
      · subst k0
        gi_wp2
        go_roundw
        case rel => exact ⟨1, by omega, by go_num, Lib.hid ⟨_, by rw [HP3.out]; exact part_full n p b 0, HJ3.out⟩, HKW⟩
        case measure => simp [intOf]; omega
      · obtain ⟨Pq, hPq⟩ : ∃ Pq, Pq = ancA n b (k - 1) := ⟨_, rfl⟩
        have hPA : Pq < Aq := by
          have := (ancA_succ n b (k - 1)).1
          rw [show k - 1 + 1 = k by omega] at this
          rw [hPq, HAQ.out]; exact this
        have hg3 := HKW.out.2.2 _ _ _ hgB HGR.out
        have y3 : w3.cell? ⟨g, k - 1, none⟩ = some (.int .i64 (Pq : Nat)) := by rw [cell_of_row _ _ (k - 1) _ _ _ hg3, HCUR.out (k - 1) (by omega), hPq]; rfl
        have i3 : (1 : Int) ≤ (k : Int) := by omega
        have k0b : ((k : Int) == 0) = false := by simp [k0]
        have hgap : gapN n b k = Aq - Pq - 1 := by unfold gapN; rw [if_neg k0, HAQ.out, hPq]
        have HPQ := Lib.hid hPq
        have HG := Lib.hid hgap
        clear hPq hg3 hgap
        gi_wp2_with fail
        gi_loopw [7] (fun i wr => ∃ j : Nat, Pq + 1 + j ≤ Aq ∧ i = .int .i64 ((Pq : Int) + 1 + (j : Int)) ∧ Hid (∃ pre : List ShX, pre.map (·.1) = partG n p b k j ∧ J pre wr) ∧ Hid (KP B w1 wr)) (fun i _ => (Aq - intOf i).toNat)
        case atStart => exact ⟨0, by omega, by go_num, Lib.hid ⟨_, HP3.out, HJ3.out⟩, HKW⟩
        case round =>
          clear y3 HJ3 HP3 HKW HPRE
          obtain ⟨j, hj, rfl, hS4, hK4⟩ := hrel
          have hg4 := hK4.out.2.2 _ _ _ hgB HGR.out
          have y3 : wr.cell? ⟨g, k - 1, none⟩ = some (.int .i64 (Pq : Nat)) := by rw [cell_of_row _ _ (k - 1) _ _ _ hg4, HCUR.out (k - 1) (by omega), HPQ.out]; rfl
          have hW4 : W.heap.size ≤ wr.heap.size := Nat.le_trans HB1.out.size hK4.out.1
          clear hg4
          by_cases hjl : Pq + 1 + j < Aq
          · obtain ⟨pre4, hpre4, hJ4⟩ := hS4.out
            have hb5 : Below wr.heap.size wr (wr.alloc (.cells #[.int .i64 (Pq : Nat), .int .i64 (Aq : Nat)] 3)) := (Below.refl _ wr).alloc (Nat.le_refl _) _
            have hl4 : pre4.length = (ahead n p b k).length + 1 + j := by rw [← part_len, ← hpre4, List.length_map]
            have hR5 : ShG (btwSh n b k j, .slice (some ⟨wr.heap.size, 0, none⟩) 2 2) (wr.alloc (.cells #[.int .i64 (Pq : Nat), .int .i64 (Aq : Nat)] 3)) := by
              refine .inr ⟨by simp [btwSh], wr.heap.size, rfl, ?_⟩
              simp only [btwSh, ← HPQ.out, ← HAQ.out]
              exact heap_alloc_new wr _
            have hY5 := HY.out pre4 (btwSh n b k j, .slice (some ⟨wr.heap.size, 0, none⟩) 2 2) _ (HJ.out _ _ _ none hJ4 (below_grown hb5) (fun r e => by cases e)) hR5 (by
              have := ahead_lt (p := p) hlt (show j + 1 < _ by rw [group_len, HG.out]; omega)
              omega)
            have hen : encX (btwSh n b k j, .slice (some ⟨wr.heap.size, 0, none⟩) 2 2) = #[.agg #[.int .i64 ((Pq : Int) + 1 + (j : Int)), .slice (some ⟨wr.heap.size, 0, none⟩) 2 2, .bool false, .int .i64 0]] := by
              unfold encX shV btwSh
              rw [← HPQ.out]
              simp
            rw [hen] at hY5
            obtain ⟨fn4, tmps4, assign4, body4, hy, hRd⟩ := hY5
            have HR5 := Lib.hid hRd
            have HP4 := Lib.hid hpre4
            have HB5 := Lib.hid hb5
            clear hRd hpre4 hJ4 hl4 hR5 hen hb5
            gi_wp2_with fail
            refine HR5.out.mono ?_
            clear hy HR5 y3
            rintro e w5 ⟨rfl, hJ5, hK5⟩
            have HJ5 := Lib.hid hJ5
            have HK5 := Lib.hid ((hK4.out.trans (KP.of HB5.out (by omega))).trans hK5)
            clear hJ5 hK5
            gi_wp2
            go_roundw
            case rel => exact ⟨j + 1, by omega, by go_num, Lib.hid ⟨_, by rw [List.map_append, HP4.out, part_succ]; rfl, HJ5.out⟩, HK5⟩
            case measure => simp [intOf]; omega
          · have hjg : j = gapN n b k := by rw [HG.out]; omega
            have HJG := Lib.hid hjg
            clear hjg y3
            gi_wp2
            refine ⟨⟨k + 1, by omega, by go_num, Lib.hid ?_, hK4⟩, by simp [intOf]; omega⟩
            obtain ⟨pre4, hpre4, hJ4⟩ := hS4.out
            exact ⟨pre4, by rw [hpre4, HJG.out, part_full], hJ4⟩
    · obtain rfl : k = cntA n p b := by omega
      gi_wp2
      rw [Exit.noGoto_normal]
      go_end0
      obtain ⟨pre, hpre, hJp⟩ := hS.out
      exact ⟨⟨_, rfl⟩, pre, by rw [hpre, ahead_all], hJp⟩
end Go.Proofs.Ytmnkbcigjbiniaa
